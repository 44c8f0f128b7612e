/- An arena as such: what each of its calls answers, and what it is behind it. No condition. -/
import Derived.Test.YtbhohohgojcapaaArA
import Derived.Test.YtbhohohgojcapaaClone
namespace Go.Proofs.Ytbhohohgojcapaa
open Go.RowKit

/-- The slot of that number, if there is one. -/
def Ar.get (A : Ar) (id : Int) : Option Sl := if 1 ≤ id then A.sl[(id - 1).toNat]? else none
def Ar.put (A : Ar) (id : Int) (s : Sl) : Ar := { A with sl := A.sl.set (id - 1).toNat s }
def opErr (A : Ar) (id : Int) : Int := match A.get id with | none => 101 | some _ => 0
def opWord (A : Ar) (id : Int) : Nat := match A.get id with | none => 0 | some s => s.word
def opNd (A : Ar) (id : Int) : Nd := match A.get id with | none => Nd.zero | some s => s.nd
def opLock (A : Ar) (id : Int) (wd : Nat) : Bool × Int × Ar := match A.get id with
  | none => (false, 101, A)
  | some s => if s.word = wd ∧ wd % 2 = 0 then (true, 0, A.put id ⟨wd + 1, s.nd⟩) else (false, 0, A)
def opHeld (A : Ar) (id : Int) : Int := match A.get id with | none => 101 | some s => if s.word % 2 = 0 then 102 else 0
/-- A word behind Unlock. -/
def back (x : Nat) (changed : Bool) : Nat := if changed then (x + 1) % 18446744073709551616 else x - 1
def opUnlock (A : Ar) (id : Int) (changed : Bool) : Int × Ar := match A.get id with
  | none => (101, A)
  | some s => if s.word % 2 = 0 then (102, A) else (0, A.put id ⟨back s.word changed, s.nd⟩)
def withHd (m n : Nd) : Nd := ⟨n.lvl, n.high, n.right, m.keys, m.vals, m.kids⟩
def opSetHead (A : Ar) (id : Int) (n : Nd) : Int × Ar := match A.get id with
  | none => (101, A)
  | some s => if s.word % 2 = 0 then (102, A) else (0, A.put id ⟨s.word, withHd s.nd n⟩)
def opSetBody (A : Ar) (id : Int) (n : Nd) : Int × Ar := match A.get id with
  | none => (101, A)
  | some s => if s.word % 2 = 0 then (102, A) else (0, A.put id ⟨s.word, withHd n s.nd⟩)
def opGrow (A : Ar) (old to : Int) : Bool × Int × Ar := match A.get to with
  | none => (false, 101, A)
  | some _ => if A.root = old then (true, 0, { A with root := to }) else (false, 0, A)
def opAlloc (A : Ar) : Int × Int × Ar := if A.sl.length = A.nodes then (0, 2, A) else ((A.sl.length : Int) + 1, 0, { A with sl := A.sl ++ [⟨1, Nd.zero⟩] })

section
variable {A : Ar} {id : Int} {s : Sl}
theorem get_none (h : A.get id = none) : id < 1 ∨ (A.sl.length : Int) < id := by
  unfold Ar.get at h
  split at h
  · have := List.getElem?_eq_none_iff.1 h; omega
  · omega
theorem get_some (h : A.get id = some s) : ∃ i : Nat, id = (i : Int) + 1 ∧ A.sl[i]? = some s ∧ (id - 1).toNat = i := by
  unfold Ar.get at h
  split at h
  · exact ⟨(id - 1).toNat, by omega, h, rfl⟩
  · cases h
theorem get_le (h : A.get id = some s) : 1 ≤ id ∧ id ≤ A.sl.length := by
  obtain ⟨i, h1, h2, _⟩ := get_some h
  have := (List.getElem?_eq_some_iff.1 h2).1
  omega
theorem get_in (h1 : 1 ≤ id) (h2 : id ≤ A.sl.length) : ∃ s, A.get id = some s := by
  unfold Ar.get
  rw [if_pos h1]
  exact ⟨_, List.getElem?_eq_getElem (by omega)⟩
theorem get_out (h : id < 1 ∨ (A.sl.length : Int) < id) : A.get id = none := by
  unfold Ar.get
  split
  · exact List.getElem?_eq_none (by omega)
  · rfl
theorem opLock_none {wd : Nat} (h : A.get id = none) : opLock A id wd = (false, 101, A) := by unfold opLock; rw [h]
theorem opLock_some {wd : Nat} (h : A.get id = some s) : opLock A id wd = if s.word = wd ∧ wd % 2 = 0 then (true, 0, A.put id ⟨wd + 1, s.nd⟩) else (false, 0, A) := by unfold opLock; rw [h]
theorem opGrow_none {o : Int} (h : A.get id = none) : opGrow A o id = (false, 101, A) := by unfold opGrow; rw [h]
theorem opGrow_some {o : Int} (h : A.get id = some s) : opGrow A o id = if A.root = o then (true, 0, { A with root := id }) else (false, 0, A) := by unfold opGrow; rw [h]
theorem opHeld_none (h : A.get id = none) : opHeld A id = 101 := by unfold opHeld; rw [h]
theorem opHeld_some (h : A.get id = some s) : opHeld A id = if s.word % 2 = 0 then 102 else 0 := by unfold opHeld; rw [h]
theorem put_len (s : Sl) : (A.put id s).sl.length = A.sl.length := by simp [Ar.put]
theorem put_get (h : A.get id = some s) (t : Sl) : (A.put id t).get id = some t := by
  obtain ⟨i, h1, h2, h3⟩ := get_some h
  have := (List.getElem?_eq_some_iff.1 h2).1
  unfold Ar.get Ar.put
  rw [if_pos (by omega), h3]
  simp [this]
end

section
variable {M D N : Nat → Prop} {w w' : World} {p b i : Nat} {slots : Value} {ids : List Nat} {A : Ar} {s s' : Sl} {id : Int}
theorem ArW.block (h : ArW w M D p slots ids A) (hs : A.sl[i]? = some s) : ∃ b, ids[i]? = some b :=
  ⟨_, List.getElem?_eq_getElem (by rw [h.len]; exact (List.getElem?_eq_some_iff.1 hs).1)⟩
theorem ArW.at_ (h : ArW w M D p slots ids A) (hg : A.get id = some s) : ∃ i b : Nat, id = (i : Int) + 1 ∧ A.sl[i]? = some s ∧ (id - 1).toNat = i ∧ ids[i]? = some b := by
  obtain ⟨i, h1, h2, h3⟩ := get_some hg
  obtain ⟨b, hb⟩ := h.block h2
  exact ⟨i, b, h1, h2, h3, hb⟩
theorem ArW.monoD {D' : Nat → Prop} (h : ArW w M D p slots ids A) (hd : ∀ b, D b → D' b) (ha : ∀ b, M b → ¬ D' b) (hl : ∀ b, D' b → b < w.heap.size) : ArW w M D' p slots ids A :=
  ⟨h.blk, h.row, h.nodup, h.len, fun i id s hi hs => (h.slot i id s hi hs).mono (fun b _ hb => hd b hb), h.mp, h.mids, ha, h.mlt, hl, h.bound⟩
theorem ArW.rowNo {t : TypeId} {cs : Array Value} (h : ArW w M D p slots ids A) (hb : Blk w b t cs) (ht : 120 ≠ t) : ¬ slots.ownBlock = some b := fun e => by
  obtain ⟨cs', hb'⟩ := h.row.ownBlk e
  exact Blk.ne_ hb' hb ht rfl
theorem ArW.blkOf (h : ArW w M D p slots ids A) (hb : ids[i]? = some b) (hs : A.sl[i]? = some s) : ∃ c0 c1 c2 c3 c4 c5, Blk w b 128 #[.int .u64 s.word, c0, c1, c2, c3, c4, c5] ∧ IsNd w D c0 c1 c2 c3 c4 c5 s.nd ∧ U64 s.word := h.slot i b s hb hs
/-- One slot has been written. -/
theorem ArW.put (h : ArW w M D p slots ids A) (hb : ids[i]? = some b) (hs : A.sl[i]? = some s) (k : Keeps (fun x => x = b) w w') (hn : SlotAt w' D b s') : ArW w' M D p slots ids { A with sl := A.sl.set i s' } := by
  obtain ⟨c0, c1, c2, c3, c4, c5, hblk, _, _⟩ := h.blkOf hb hs
  have hM : M b := h.mids b (List.mem_of_getElem? hb)
  have hil : i < ids.length := (List.getElem?_eq_some_iff.1 hb).1
  refine ⟨?_, ?_, h.nodup, by simp [h.len], fun j id t hj ht => ?_, h.mp, h.mids, h.apart, fun x hx => Nat.lt_of_lt_of_le (h.mlt x hx) k.size, fun x hx => Nat.lt_of_lt_of_le (h.dlt x hx) k.size, by simp; exact h.bound⟩
  · exact h.blk.keeps k (fun e => Blk.ne_ hblk h.blk (by decide) e.symm)
  · exact h.row.keepsB hblk (by decide) k
  · by_cases hij : j = i
    · subst hij
      rw [hb] at hj
      have hlt : j < A.sl.length := (List.getElem?_eq_some_iff.1 hs).1
      simp [hlt] at ht
      cases hj; subst ht
      exact hn
    · have ht' : A.sl[j]? = some t := by rw [List.getElem?_set] at ht; rwa [if_neg (Ne.symm hij)] at ht
      refine (h.slot j id t hj ht').keeps k (fun e => ?_) (fun x _ hd e => ?_)
      · subst e
        have hjl : j < ids.length := (List.getElem?_eq_some_iff.1 hj).1
        rw [List.getElem?_eq_getElem hjl] at hj
        rw [List.getElem?_eq_getElem hil] at hb
        have e1 := Option.some.inj hj
        have e2 := Option.some.inj hb
        have hp := List.pairwise_iff_getElem.1 h.nodup
        rcases Nat.lt_or_gt_of_ne hij with hl | hl
        · exact hp j i hjl hil hl (e1.trans e2.symm)
        · exact hp i j hil hjl hl (e2.trans e1.symm)
      · subst e; exact h.apart _ hM hd
theorem ArW.setWord (h : ArW w M D p slots ids A) (hb : ids[i]? = some b) (hs : A.sl[i]? = some s) {x : Nat} (hx : U64 x) : ArW (w.setCell ⟨b, 0, none⟩ (.int .u64 x)) M D p slots ids { A with sl := A.sl.set i ⟨x, s.nd⟩ } := by
  obtain ⟨c0, c1, c2, c3, c4, c5, hblk, hnd, _⟩ := h.blkOf hb hs
  have k : Keeps (fun y => y = b) w (w.setCell ⟨b, 0, none⟩ (.int .u64 x)) := Keeps.setCell w (M := fun y => y = b) rfl _
  have hM : M b := h.mids b (List.mem_of_getElem? hb)
  exact h.put hb hs k ⟨c0, c1, c2, c3, c4, c5, hblk.set_ 0 _, hnd.keeps k (fun x _ hd e => by subst e; exact h.apart _ hM hd), hx⟩
theorem ArW.setRoot (h : ArW w M D p slots ids A) (r : Int) : ArW (w.setCell ⟨p, 2, none⟩ (.int .i64 r)) M D p slots ids { A with root := r } := by
  have k : Keeps (fun y => y = p) w (w.setCell ⟨p, 2, none⟩ (.int .i64 r)) := Keeps.setCell w (M := fun y => y = p) rfl _
  refine ⟨h.blk.set_ 2 _, h.row.keepsB h.blk (by decide) k, h.nodup, h.len, fun j id t hj ht => ?_, h.mp, h.mids, h.apart, fun x hx => Nat.lt_of_lt_of_le (h.mlt x hx) k.size, fun x hx => Nat.lt_of_lt_of_le (h.dlt x hx) k.size, h.bound⟩
  refine (h.slot j id t hj ht).keeps k (fun e => ?_) (fun x _ hd e => by subst e; exact h.apart _ h.mp hd)
  obtain ⟨_, _, _, _, _, _, hb, _⟩ := h.slot j id t hj ht
  exact Blk.ne_ hb h.blk (by decide) e
theorem ArW.slotFrozen (h : ArW w M D p slots ids A) (hb : ids[i]? = some b) (hs : A.sl[i]? = some s) (j : Nat) : w.frozen? ⟨b, j, none⟩ = false := by
  obtain ⟨c0, c1, c2, c3, c4, c5, hblk, _, _⟩ := h.blkOf hb hs
  exact hblk.frozen j
theorem ArW.word64 (h : ArW w M D p slots ids A) (hb : ids[i]? = some b) (hs : A.sl[i]? = some s) : U64 s.word := by
  obtain ⟨c0, c1, c2, c3, c4, c5, _, _, hu⟩ := h.blkOf hb hs
  exact hu
/-- The old texts, and what is new. -/
def DF (D : Nat → Prop) (w w' : World) : Nat → Prop := fun b => D b ∨ Fresh w w' b
theorem ArW.grown (h : ArW w M D p slots ids A) (k : Keeps Nob w w') : ArW w' M (DF D w w') p slots ids A :=
  (h.keeps k (fun _ _ _ => id) (fun _ _ _ => id)).monoD (fun _ hb => .inl hb) (fun b hm hd => by
    rcases hd with hd | hd
    · exact h.apart b hm hd
    · have := h.mlt b hm; have := hd.1; omega) (fun b hd => by
    rcases hd with hd | hd
    · exact Nat.lt_of_lt_of_le (h.dlt b hd) k.size
    · exact hd.2)
end
end Go.Proofs.Ytbhohohgojcapaa

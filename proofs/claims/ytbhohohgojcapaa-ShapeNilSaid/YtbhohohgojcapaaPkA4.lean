import Derived.Test.YtbhohohgojcapaaPkA2
import Derived.Test.YtbhohohgojcapaaPkA3
namespace Go.Proofs.Ytbhohohgojcapaa
open Go.RowKit

/-- The slot of that number, if there is one. -/
def Ar.get (A : Ar) (id : Int) : Option Sl := if 1 ≤ id then A.sl[(id - 1).toNat]? else none
def Ar.put (A : Ar) (id : Int) (s : Sl) : Ar := { A with sl := A.sl.set (id - 1).toNat s }
def opErr (A : Ar) (id : Int) : Int := match A.get id with | none => 101 | some _ => 0
def opWord (A : Ar) (id : Int) : Nat := match A.get id with | none => 0 | some s => s.word
def opNd (A : Ar) (id : Int) : Nd := match A.get id with | none => Nd.zero | some s => s.nd
def opLock (A : Ar) (id : Int) (wd : Nat) : Bool × Int × Ar := match A.get id with
  | none => (false, 101, A)
  | some s => if s.word = wd ∧ wd % 2 = 0 then (true, 0, A.put id ⟨wd + 1, s.nd⟩) else (false, 0, A)
/-- A word behind Unlock. -/
def back (x : Nat) (changed : Bool) : Nat := if changed then (x + 1) % 18446744073709551616 else x - 1
def opUnlock (A : Ar) (id : Int) (changed : Bool) : Int × Ar := match A.get id with
  | none => (101, A)
  | some s => if s.word % 2 = 0 then (102, A) else (0, A.put id ⟨back s.word changed, s.nd⟩)
def withHd (m n : Nd) : Nd := ⟨n.lvl, n.high, n.right, m.keys, m.vals, m.kids⟩
def opSetHead (A : Ar) (id : Int) (n : Nd) : Int × Ar := match A.get id with
  | none => (101, A)
  | some s => if s.word % 2 = 0 then (102, A) else (0, A.put id ⟨s.word, withHd s.nd n⟩)
def opSetBody (A : Ar) (id : Int) (n : Nd) : Int × Ar := match A.get id with
  | none => (101, A)
  | some s => if s.word % 2 = 0 then (102, A) else (0, A.put id ⟨s.word, withHd n s.nd⟩)
def opGrow (A : Ar) (old to : Int) : Bool × Int × Ar := match A.get to with
  | none => (false, 101, A)
  | some _ => if A.root = old then (true, 0, { A with root := to }) else (false, 0, A)
def opAlloc (A : Ar) : Int × Int × Ar := if A.sl.length = A.nodes then (0, 2, A) else ((A.sl.length : Int) + 1, 0, { A with sl := A.sl ++ [⟨1, Nd.zero⟩] })

section
variable {A : Ar} {id : Int} {s : Sl}
theorem get_none (h : A.get id = none) : id < 1 ∨ (A.sl.length : Int) < id := by
  unfold Ar.get at h
  split at h
  · have := List.getElem?_eq_none_iff.1 h; omega
  · omega
theorem get_some (h : A.get id = some s) : ∃ i : Nat, id = (i : Int) + 1 ∧ A.sl[i]? = some s ∧ (id - 1).toNat = i := by
  unfold Ar.get at h
  split at h
  · exact ⟨(id - 1).toNat, by omega, h, rfl⟩
  · cases h
theorem get_le (h : A.get id = some s) : 1 ≤ id ∧ id ≤ A.sl.length := by
  obtain ⟨i, h1, h2, _⟩ := get_some h
  have := (List.getElem?_eq_some_iff.1 h2).1
  omega
end

section
variable {M D N : Nat → Prop} {w w' : World} {p b i : Nat} {slots : Value} {ids : List Nat} {A : Ar} {s s' : Sl} {id : Int}
theorem ArW.block (h : ArW w M D p slots ids A) (hs : A.sl[i]? = some s) : ∃ b, ids[i]? = some b :=
  ⟨_, List.getElem?_eq_getElem (by rw [h.len]; exact (List.getElem?_eq_some_iff.1 hs).1)⟩
theorem ArW.at_ (h : ArW w M D p slots ids A) (hg : A.get id = some s) : ∃ i b : Nat, id = (i : Int) + 1 ∧ A.sl[i]? = some s ∧ (id - 1).toNat = i ∧ ids[i]? = some b := by
  obtain ⟨i, h1, h2, h3⟩ := get_some hg
  obtain ⟨b, hb⟩ := h.block h2
  exact ⟨i, b, h1, h2, h3, hb⟩
theorem ArW.monoD {D' : Nat → Prop} (h : ArW w M D p slots ids A) (hd : ∀ b, D b → D' b) (ha : ∀ b, M b → ¬ D' b) (hl : ∀ b, D' b → b < w.heap.size) : ArW w M D' p slots ids A :=
  ⟨h.blk, h.row, h.nodup, h.len, fun i id s hi hs => (h.slot i id s hi hs).mono (fun b _ hb => hd b hb), h.mp, h.mids, ha, h.mlt, hl, h.bound⟩
theorem ArW.blkOf (h : ArW w M D p slots ids A) (hb : ids[i]? = some b) (hs : A.sl[i]? = some s) : ∃ c0 c1 c2 c3 c4 c5, Blk w b 128 #[.int .u64 s.word, c0, c1, c2, c3, c4, c5] ∧ IsNd w D c0 c1 c2 c3 c4 c5 s.nd ∧ U64 s.word := h.slot i b s hb hs
/-- One slot has been written. -/
theorem ArW.put (h : ArW w M D p slots ids A) (hb : ids[i]? = some b) (hs : A.sl[i]? = some s) (k : Keeps (fun x => x = b) w w') (hn : SlotAt w' D b s') : ArW w' M D p slots ids { A with sl := A.sl.set i s' } := by
  obtain ⟨c0, c1, c2, c3, c4, c5, hblk, _, _⟩ := h.blkOf hb hs
  have hM : M b := h.mids b (List.mem_of_getElem? hb)
  have hil : i < ids.length := (List.getElem?_eq_some_iff.1 hb).1
  refine ⟨?_, ?_, h.nodup, by simp [h.len], fun j id t hj ht => ?_, h.mp, h.mids, h.apart, fun x hx => Nat.lt_of_lt_of_le (h.mlt x hx) k.size, fun x hx => Nat.lt_of_lt_of_le (h.dlt x hx) k.size, by simp; exact h.bound⟩
  · exact h.blk.keeps k (fun e => Blk.ne_ hblk h.blk (by decide) e.symm)
  · exact h.row.keepsB hblk (by decide) k
  · by_cases hij : j = i
    · subst hij
      rw [hb] at hj
      have hlt : j < A.sl.length := (List.getElem?_eq_some_iff.1 hs).1
      simp [hlt] at ht
      cases hj; subst ht
      exact hn
    · have ht' : A.sl[j]? = some t := by rw [List.getElem?_set] at ht; rwa [if_neg (Ne.symm hij)] at ht
      refine (h.slot j id t hj ht').keeps k (fun e => ?_) (fun x _ hd e => ?_)
      · subst e
        have hjl : j < ids.length := (List.getElem?_eq_some_iff.1 hj).1
        rw [List.getElem?_eq_getElem hjl] at hj
        rw [List.getElem?_eq_getElem hil] at hb
        have e1 := Option.some.inj hj
        have e2 := Option.some.inj hb
        have hp := List.pairwise_iff_getElem.1 h.nodup
        rcases Nat.lt_or_gt_of_ne hij with hl | hl
        · exact hp j i hjl hil hl (e1.trans e2.symm)
        · exact hp i j hil hjl hl (e2.trans e1.symm)
      · subst e; exact h.apart _ hM hd
/-- The old texts, and what is new. -/
def DF (D : Nat → Prop) (w w' : World) : Nat → Prop := fun b => D b ∨ Fresh w w' b
theorem ArW.grown (h : ArW w M D p slots ids A) (k : Keeps Nob w w') : ArW w' M (DF D w w') p slots ids A :=
  (h.keeps k (fun _ _ _ => id) (fun _ _ _ => id)).monoD (fun _ hb => .inl hb) (fun b hm hd => by
    rcases hd with hd | hd
    · exact h.apart b hm hd
    · have := h.mlt b hm; have := hd.1; omega) (fun b hd => by
    rcases hd with hd | hd
    · exact Nat.lt_of_lt_of_le (h.dlt b hd) k.size
    · exact hd.2)
end
end Go.Proofs.Ytbhohohgojcapaa

namespace Go.Proofs.Ytbhohohgojcapaa
open Go.RowKit

section
variable {M D : Nat → Prop} {w : World} {p : Nat} {slots : Value} {ids : List Nat} {A : Ar} {id : Int}

end
end Go.Proofs.Ytbhohohgojcapaa

namespace Go.Proofs.Ytbhohohgojcapaa
open Go.RowKit

theorem field_hd (a0 a1 a2 a3 a4 a5 : Value) (w : World) : (Instr.field 37 (.agg #[a0, a1, a2, a3, a4, a5]) 0).run Try.prog w = .ok (.agg #[a0, a1, a2]) w := by kernel_rfl
theorem field_bd (a0 a1 a2 a3 a4 a5 : Value) (w : World) : (Instr.field 37 (.agg #[a0, a1, a2, a3, a4, a5]) 1).run Try.prog w = .ok (.agg #[a3, a4, a5]) w := by kernel_rfl

section
variable {A : Ar} {ix : Int} {s : Sl}
theorem opErr_none (h : A.get ix = none) : opErr A ix = 101 := by unfold opErr; rw [h]
theorem opErr_some (h : A.get ix = some s) : opErr A ix = 0 := by unfold opErr; rw [h]
theorem opNd_none (h : A.get ix = none) : opNd A ix = Nd.zero := by unfold opNd; rw [h]
theorem opNd_some (h : A.get ix = some s) : opNd A ix = s.nd := by unfold opNd; rw [h]
end

section
variable {M D : Nat → Prop} {w : World} {p : Nat} {slots : Value} {ids : List Nat} {A : Ar} {ix : Int}

set_option maxRecDepth 100000 in
set_option maxHeartbeats 800000 in
theorem headX (h : ArW w M D p slots ids A) (hsm : ∀ s ∈ A.sl, NdSm 0 s.nd) : Calls Try.prog 17 #[pV p, iV ix] w fun e w' => ∃ d0 d1 d2, e = .returned (.tuple #[.agg #[d0, d1, d2], iV (opErr A ix)]) ∧ OHd w' (Fresh w w') d0 d1 d2 (opNd A ix) ∧ Keeps Nob w w' := by
  cases hg : A.get ix with
  | none =>
    rw [opErr_none hg, opNd_none hg]
    have HA := Lib.hid h
    have HG := Lib.hid hg
    clear h hg hsm
    unfold pV iV
    go_enter Try.func17, Try.ntmps17
    go_wp2_with fail
    refine calls_at (fun wa hw => ?_)
    have hk : Keeps Nob w wa := by rw [hw]; exact Keeps.alloc _ _ _
    have hb : Blk wa w.heap.size 33 #[.int .i64 0, .slice none 0 0, .int .i64 0] := by rw [hw]; exact Blk.new _ _ _
    have H := Lib.hid (at_out (HA.out.keeps hk (fun _ _ _ => id) (fun _ _ _ => id)) (get_none HG.out))
    have HK := Lib.hid hk
    have HB := Lib.hid hb
    have q := fun i => hb.cell i
    have g := fun i => hb.frozen i
    have l := hb.lt
    clear hw hk hb
    unfold pV iV at H
    refine H.out.mono ?_
    rintro e w' ⟨rfl, rfl⟩
    go_wp2
    refine post_at (fun wb hw => ?_)
    have hk : Keeps (fun b => b = w.heap.size) wa wb := by rw [hw]; exact ((Keeps.setCell _ (M := fun b => b = w.heap.size) rfl _).setCell' (fun _ => rfl) _).setCell' (fun _ => rfl) _
    have hb : Blk wb w.heap.size 33 #[.int .i64 0, .slice none 0 0, .int .i64 0] := by rw [hw]; exact ((HB.out.set_ 0 _).set_ 1 _).set_ 2 _
    clear hw q g l
    have r0 := hb.cell 0
    have r1 := hb.cell 1
    have r2 := hb.cell 2
    refine bodyPost_ret (v := .tuple #[.agg #[.int .i64 0, .slice none 0 0, .int .i64 0], .int .i64 101]) (by simp [results, Try.results17, go_sem, r0, r1, r2]) rfl ⟨_, _, _, rfl, (ONd.zero _ _).1, HK.out.trans hk (fun b hb e => by have h2 : b = _ := e; omega)⟩
  | some s =>
    rw [opErr_some hg, opNd_some hg]
    obtain ⟨i, b, hid, hs, hi, hb⟩ := h.at_ hg
    have hS := hsm s (List.mem_of_getElem? hs)
    obtain ⟨c0, c1, c2, c3, c4, c5, hblk, hnd, _⟩ := h.blkOf hb hs
    obtain ⟨X1, k1, e1, _, _⟩ := hnd.1.high.form
    have e0 := hnd.1.lvl
    have e2 := hnd.1.right
    unfold iV at e0 e2
    subst e0 e1 e2
    have HS : Hid (NdSm 0 s.nd) := hS
    have HA := Lib.hid h
    have HID : Hid (ix = (i : Int) + 1) := hid
    have HBI : Hid (ids[i]? = some b) := hb
    have HBK := Lib.hid hblk
    have HN := Lib.hid hnd
    clear h hg hsm hS hid hs hi hb hblk hnd
    unfold pV iV
    go_enter Try.func17, Try.ntmps17
    go_wp2_with fail
    refine calls_at (fun wa hw => ?_)
    have hk : Keeps Nob w wa := by rw [hw]; exact Keeps.alloc _ _ _
    have BR : Hid (Blk wa w.heap.size 33 #[.int .i64 0, .slice none 0 0, .int .i64 0]) := by rw [hw]; exact Blk.new _ _ _
    have H := Lib.hid (at_in (HA.out.keeps hk (fun _ _ _ => id) (fun _ _ _ => id)) HID.out HBI.out)
    replace HBK := Lib.hid (HBK.out.keeps hk id)
    replace HN := Lib.hid (HN.out.keeps hk (fun _ _ _ => id))
    have K := Lib.hid hk
    have sza := hk.size
    have ltR := BR.out.lt
    clear hw hk HA HID HBI
    unfold pV iV at H
    refine H.out.mono ?_
    rintro e w' ⟨rfl, rfl⟩
    have q := fun i => HBK.out.cell i
    have l := HBK.out.lt
    go_wp2_with fail
    clear q l
    refine (cloneP (n := (⟨s.nd.lvl, s.nd.high, s.nd.right, [], [], []⟩ : Nd)) (S := D) ⟨⟨rfl, HN.out.1.high, rfl⟩, ⟨[], SlR.nil _ _ _ _ (by decide), rfl, fun i u x h => by simp at h⟩, ⟨[], SlR.nil _ _ _ _ (by decide), rfl, fun i u x h => by simp at h⟩, SlR.nil _ _ _ _ (by decide)⟩ ⟨HS.out.1, ⟨by simp [Sm], fun x hx => by simp at hx⟩, ⟨by simp [Sm], fun x hx => by simp at hx⟩, by simp [Sm]⟩).mono ?_
    rintro e wb ⟨d0, d1, d2, d3, d4, d5, rfl, hO, hk, _⟩
    have f0 := hO.1.lvl
    obtain ⟨Y1, j1, f1⟩ := Own.form hO.1.high
    have f2 := hO.1.right
    unfold iV at f0 f2
    subst f0 f1 f2
    replace BR := Lib.hid (BR.out.keeps hk id)
    replace K := Lib.hid (K.out.trans hk (fun _ _ h => h))
    have szb := hk.size
    have HO := Lib.hid hO
    clear hO hk
    have q := fun i => BR.out.cell i
    have g := fun i => BR.out.frozen i
    have l := BR.out.lt
    have hfd := field_hd
    go_wp2
    clear hfd
    refine post_at (fun wc hw => ?_)
    have hk : Keeps (fun b => b = w.heap.size) wb wc := by rw [hw]; exact ((Keeps.setCell _ (M := fun b => b = w.heap.size) rfl _).setCell' (fun _ => rfl) _).setCell' (fun _ => rfl) _
    have hb : Blk wc w.heap.size 33 #[.int .i64 s.nd.lvl, .slice Y1 s.nd.high.length j1, .int .i64 s.nd.right] := by rw [hw]; exact ((BR.out.set_ 0 _).set_ 1 _).set_ 2 _
    clear hw q g l
    have r0 := hb.cell 0
    have r1 := hb.cell 1
    have r2 := hb.cell 2
    have szc := hk.size
    have ha : Apart 33 := ⟨by decide, by decide, by decide⟩
    refine bodyPost_ret (v := .tuple #[.agg #[.int .i64 s.nd.lvl, .slice Y1 s.nd.high.length j1, .int .i64 s.nd.right], .int .i64 0]) (by simp [results, Try.results17, go_sem, r0, r1, r2]) rfl ⟨_, _, _, rfl, ⟨rfl, ?_, rfl⟩, K.out.trans hk (fun b hb e => by have h2 : b = _ := e; omega)⟩
    · exact (HO.out.1.high.keepsB BR.out ha hk).mono (fun b _ hb => ⟨by have := hb.1; omega, by have := hb.2; omega⟩)

set_option maxRecDepth 100000 in
set_option maxHeartbeats 800000 in
theorem bodyX (h : ArW w M D p slots ids A) (hsm : ∀ s ∈ A.sl, NdSm 0 s.nd) : Calls Try.prog 18 #[pV p, iV ix] w fun e w' => ∃ d0 d1 d2, e = .returned (.tuple #[.agg #[d0, d1, d2], iV (opErr A ix)]) ∧ OBd w' (Fresh w w') d0 d1 d2 (opNd A ix) ∧ Keeps Nob w w' := by
  cases hg : A.get ix with
  | none =>
    rw [opErr_none hg, opNd_none hg]
    have HA := Lib.hid h
    have HG := Lib.hid hg
    clear h hg hsm
    unfold pV iV
    go_enter Try.func18, Try.ntmps18
    go_wp2_with fail
    refine calls_at (fun wa hw => ?_)
    have hk : Keeps Nob w wa := by rw [hw]; exact Keeps.alloc _ _ _
    have hb : Blk wa w.heap.size 35 #[.slice none 0 0, .slice none 0 0, .slice none 0 0] := by rw [hw]; exact Blk.new _ _ _
    have H := Lib.hid (at_out (HA.out.keeps hk (fun _ _ _ => id) (fun _ _ _ => id)) (get_none HG.out))
    have HK := Lib.hid hk
    have HB := Lib.hid hb
    have q := fun i => hb.cell i
    have g := fun i => hb.frozen i
    have l := hb.lt
    clear hw hk hb
    unfold pV iV at H
    refine H.out.mono ?_
    rintro e w' ⟨rfl, rfl⟩
    go_wp2
    refine post_at (fun wb hw => ?_)
    have hk : Keeps (fun b => b = w.heap.size) wa wb := by rw [hw]; exact ((Keeps.setCell _ (M := fun b => b = w.heap.size) rfl _).setCell' (fun _ => rfl) _).setCell' (fun _ => rfl) _
    have hb : Blk wb w.heap.size 35 #[.slice none 0 0, .slice none 0 0, .slice none 0 0] := by rw [hw]; exact ((HB.out.set_ 0 _).set_ 1 _).set_ 2 _
    clear hw q g l
    have r0 := hb.cell 0
    have r1 := hb.cell 1
    have r2 := hb.cell 2
    refine bodyPost_ret (v := .tuple #[.agg #[.slice none 0 0, .slice none 0 0, .slice none 0 0], .int .i64 101]) (by simp [results, Try.results18, go_sem, r0, r1, r2]) rfl ⟨_, _, _, rfl, (ONd.zero _ _).2, HK.out.trans hk (fun b hb e => by have h2 : b = _ := e; omega)⟩
  | some s =>
    rw [opErr_some hg, opNd_some hg]
    obtain ⟨i, b, hid, hs, hi, hb⟩ := h.at_ hg
    have hS := hsm s (List.mem_of_getElem? hs)
    obtain ⟨c0, c1, c2, c3, c4, c5, hblk, hnd, _⟩ := h.blkOf hb hs
    obtain ⟨X3, k3, e3, _, _⟩ := hnd.2.keys.form
    obtain ⟨X4, k4, e4, _, _⟩ := hnd.2.vals.form
    obtain ⟨X5, k5, e5, _, _⟩ := hnd.2.kids.form
    subst e3 e4 e5
    have HS : Hid (NdSm 0 s.nd) := hS
    have HA := Lib.hid h
    have HID : Hid (ix = (i : Int) + 1) := hid
    have HBI : Hid (ids[i]? = some b) := hb
    have HBK := Lib.hid hblk
    have HN := Lib.hid hnd
    clear h hg hsm hS hid hs hi hb hblk hnd
    unfold pV iV
    go_enter Try.func18, Try.ntmps18
    go_wp2_with fail
    refine calls_at (fun wa hw => ?_)
    have hk : Keeps Nob w wa := by rw [hw]; exact Keeps.alloc _ _ _
    have BR : Hid (Blk wa w.heap.size 35 #[.slice none 0 0, .slice none 0 0, .slice none 0 0]) := by rw [hw]; exact Blk.new _ _ _
    have H := Lib.hid (at_in (HA.out.keeps hk (fun _ _ _ => id) (fun _ _ _ => id)) HID.out HBI.out)
    replace HBK := Lib.hid (HBK.out.keeps hk id)
    replace HN := Lib.hid (HN.out.keeps hk (fun _ _ _ => id))
    have K := Lib.hid hk
    have sza := hk.size
    have ltR := BR.out.lt
    clear hw hk HA HID HBI
    unfold pV iV at H
    refine H.out.mono ?_
    rintro e w' ⟨rfl, rfl⟩
    have q := fun i => HBK.out.cell i
    have l := HBK.out.lt
    go_wp2_with fail
    clear q l
    refine (cloneP (n := (⟨0, [], 0, s.nd.keys, s.nd.vals, s.nd.kids⟩ : Nd)) (S := D) ⟨⟨rfl, SlR.nil _ _ _ _ (by decide), rfl⟩, ⟨HN.out.2.keys, HN.out.2.vals, HN.out.2.kids⟩⟩ ⟨by simp [Sm], HS.out.2⟩).mono ?_
    rintro e wb ⟨d0, d1, d2, d3, d4, d5, rfl, hO, hk, _⟩
    obtain ⟨Y3, j3, f3⟩ := OTx.form hO.2.keys
    obtain ⟨Y4, j4, f4⟩ := OTx.form hO.2.vals
    obtain ⟨Y5, j5, f5⟩ := Own.form hO.2.kids
    subst f3 f4 f5
    replace BR := Lib.hid (BR.out.keeps hk id)
    replace K := Lib.hid (K.out.trans hk (fun _ _ h => h))
    have szb := hk.size
    have HO := Lib.hid hO
    clear hO hk
    have q := fun i => BR.out.cell i
    have g := fun i => BR.out.frozen i
    have l := BR.out.lt
    have hfd := field_bd
    go_wp2
    clear hfd
    refine post_at (fun wc hw => ?_)
    have hk : Keeps (fun b => b = w.heap.size) wb wc := by rw [hw]; exact ((Keeps.setCell _ (M := fun b => b = w.heap.size) rfl _).setCell' (fun _ => rfl) _).setCell' (fun _ => rfl) _
    have hb : Blk wc w.heap.size 35 #[.slice Y3 s.nd.keys.length j3, .slice Y4 s.nd.vals.length j4, .slice Y5 s.nd.kids.length j5] := by rw [hw]; exact ((BR.out.set_ 0 _).set_ 1 _).set_ 2 _
    clear hw q g l
    have r0 := hb.cell 0
    have r1 := hb.cell 1
    have r2 := hb.cell 2
    have szc := hk.size
    have ha : Apart 35 := ⟨by decide, by decide, by decide⟩
    refine bodyPost_ret (v := .tuple #[.agg #[.slice Y3 s.nd.keys.length j3, .slice Y4 s.nd.vals.length j4, .slice Y5 s.nd.kids.length j5], .int .i64 0]) (by simp [results, Try.results18, go_sem, r0, r1, r2]) rfl ⟨_, _, _, rfl, ⟨?_, ?_, ?_⟩, K.out.trans hk (fun b hb e => by have h2 : b = _ := e; omega)⟩
    · exact (HO.out.2.keys.keepsB BR.out ha hk).mono (fun b _ hb => ⟨by have := hb.1; omega, by have := hb.2; omega⟩)
    · exact (HO.out.2.vals.keepsB BR.out ha hk).mono (fun b _ hb => ⟨by have := hb.1; omega, by have := hb.2; omega⟩)
    · exact (HO.out.2.kids.keepsB BR.out ha hk).mono (fun b _ hb => ⟨by have := hb.1; omega, by have := hb.2; omega⟩)

end
end Go.Proofs.Ytbhohohgojcapaa

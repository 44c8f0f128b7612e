import Derived.Test.YtbhohohgojcapaaPkD7
import Derived.Test.YtbhohohgojcapaaPkE1
import Derived.Test.YtbhohohgojcapaaPkC0
import Derived.Test.YtbhohohgojcapaaPkB4
import Derived.Test.YtbhohohgojcapaaPkB7
namespace Go.Proofs.Ytbhohohgojcapaa
open Go.RowKit

theorem Try.inf_entry : (Try.prog.info? 98).map (fun i => (i.zero, i.size, i.bytes)) = some (some (.agg #[.slice none 0 0, .slice none 0 0]), 2, 48) := by kernel_rfl
/-- An entry in memory. -/
structure En where
  kv : Value
  vv : Value
  k : List UInt8
  v : List UInt8
def En.e (x : En) : Ent := (x.k, x.v)
def enCells (l : List En) : List Value := l.flatMap (fun x => [x.kv, x.vv])
theorem enCells_snoc (l : List En) (x : En) : enCells (l ++ [x]) = enCells l ++ [x.kv, x.vv] := by unfold enCells; rw [List.flatMap_append]; rfl
theorem enCells_at : ∀ {l : List En} {i : Nat} {x : En}, l[i]? = some x → (enCells l)[i * 2]? = some x.kv ∧ (enCells l)[i * 2 + 1]? = some x.vv
  | [], i, d, h => by simp at h
  | e :: l, 0, d, h => by simp at h; subst h; exact ⟨rfl, rfl⟩
  | e :: l, i + 1, d, h => by
    obtain ⟨h1, h2⟩ := enCells_at (l := l) (i := i) (x := d) (by simpa using h)
    have e1 : (i + 1) * 2 = i * 2 + 2 := by omega
    rw [e1]
    exact ⟨h1, h2⟩
theorem mapM_len (A : Ar) : ∀ (f : Nat) (id : Int) (met : List Int) (leaf : Bool) (out : List Ent), out.length ≤ (mapM A f id met leaf out).length
  | 0, _, _, _, _ => Nat.le_refl _
  | f + 1, id, met, leaf, out => by
    unfold mapM
    split
    · exact Nat.le_refl _
    · split
      · exact Nat.le_refl _
      · split
        · split
          · exact Nat.le_refl _
          · exact mapM_len A f _ _ _ _
        · refine Nat.le_trans ?_ (mapM_len A f _ _ _ _)
          simp
theorem entsM_len (vals : List (List UInt8)) : ∀ (i : Nat) (ks : List (List UInt8)), (entsM vals i ks).length = ks.length
  | _, [] => rfl
  | i, _ :: ks => by rw [entsM, List.length_cons, entsM_len vals (i + 1) ks, List.length_cons]
theorem entsM_at (vals : List (List UInt8)) : ∀ (i : Nat) (ks : List (List UInt8)) (j : Nat) (k : List UInt8), ks[j]? = some k → (entsM vals i ks)[j]? = some (k, vals.getD (i + j) [])
  | _, [], j, k, h => by simp at h
  | i, x :: ks, 0, k, h => by simp at h; subst h; rfl
  | i, x :: ks, j + 1, k, h => by
    have := entsM_at vals (i + 1) ks j k (by simpa using h)
    rw [show i + (j + 1) = i + 1 + j by omega]
    simpa [entsM] using this
theorem ents_len (n : Nd) : (ents n).length = n.keys.length := entsM_len _ _ _
theorem ents_at {n : Nd} {j : Nat} {k : List UInt8} (h : n.keys[j]? = some k) : (ents n)[j]? = some (k, n.vals.getD j []) := by
  have := entsM_at n.vals 0 n.keys j k h
  rw [Nat.zero_add] at this
  exact this
theorem mapM_succ {A : Ar} {met : List Int} (h : met.length ≤ A.sl.length) (id : Int) (leaf : Bool) (out : List Ent) : mapM A (A.sl.length + 1 - met.length) id met leaf out = match A.get id with
    | none => out
    | some s =>
      if met.contains id = true then out
      else if 0 < s.nd.lvl then (if s.nd.kids.length = 0 ∨ (leaf || decide (s.nd.lvl ≤ 0)) = true then out else mapM A (A.sl.length - met.length) (s.nd.kids.getD 0 0) (met ++ [id]) (leaf || decide (s.nd.lvl ≤ 0)) out)
      else mapM A (A.sl.length - met.length) s.nd.right (met ++ [id]) (leaf || decide (s.nd.lvl ≤ 0)) (out ++ ents s.nd) := by
  rw [show A.sl.length + 1 - met.length = (A.sl.length - met.length) + 1 by omega, mapM]
  rfl
/-- A map in memory. -/
def MapAt (w : World) (S : Nat → Prop) (v : Value) (R : List Ent) : Prop := ∃ l : List En, Own w S 98 2 v l.length (enCells l) ∧ (∀ x ∈ l, Byts w S x.kv x.k ∧ Byts w S x.vv x.v) ∧ l.map En.e = R
section
variable {w : World} {M D : Nat → Prop} {q : Nat} {L : Value} {xs : List Value} {A : Ar}
end
end Go.Proofs.Ytbhohohgojcapaa

namespace Go.Proofs.Ytbhohohgojcapaa
open Go.RowKit

/-- Kids that are numbers of the machine. -/
def Kids64 (A : Ar) : Prop := ∀ s ∈ A.sl, ∀ k ∈ s.nd.kids, K64 k
section
variable {A : Ar} {ix : Int}
end
section
variable {w : World} {a0 a1 a2 a3 a4 : Int} {lo : Nat} {sv : Value} {os : List OpM}
set_option maxRecDepth 100000 in
set_option maxHeartbeats 6400000 in
theorem laidJ (ho : OpsAt w lo sv os) (hlo : lo ≤ w.heap.size) : Calls Try.prog 34 #[.agg #[sv, .int .i64 a0, .int .i64 a1, .int .i64 a2, .int .i64 a3, .int .i64 a4]] w fun e w' => ∃ b p q, e = .returned (.tuple #[pV b, .bool true]) ∧ J w' (From (w.heap.size + 1)) b p q (steps (ar0 40) os) (steps (ar0 40) os) ∧ Keeps Nob w w' := by
  obtain ⟨sA, sc, es⟩ : ∃ A c, sv = .slice A os.length c := by obtain ⟨A, c, e, _⟩ := ho; exact ⟨A, c, e⟩
  have hb : os.length * 136 ≤ 140737488355328 := by obtain ⟨_, _, _, _, _, h, _⟩ := ho; exact h
  subst es
  have HO := Lib.hid ho
  have HLO := Lib.hid hlo
  clear ho hlo
  have FB := fun w => begunJ (n := 40) w (by decide) (by decide)
  unfold iV pV at FB
  unfold pV
  go_enter Try.func34, Try.ntmps34
  go_wp2_with fail
  obtain ⟨P1, hP⟩ : ∃ N, w.heap.size = N := ⟨_, rfl⟩
  rw [hP]
  refine calls_at (fun w1 hw => ?_)
  have hk : Keeps Nob w w1 := by rw [hw]; exact Keeps.alloc _ _ _
  have hB : Blk w1 P1 93 #[.slice sA os.length sc, .int .i64 a0, .int .i64 a1, .int .i64 a2, .int .i64 a3, .int .i64 a4] := by rw [hw, ← hP]; exact Blk.new _ _ _
  have hs1 : w1.heap.size = P1 + 1 := by rw [hw, ← hP]; simp
  have HS := Lib.hid (And.intro hs1 hP)
  clear hw hP hs1
  refine (FB _).mono ?_
  rintro e w2 ⟨b, p, q, rfl, hj, hk2⟩
  have HJ := Lib.hid hj
  have HB := Lib.hid (hB.keeps hk2 (fun h => h))
  have K := Lib.hid (hk.trans hk2 (fun _ _ h => h))
  clear hj hk2 hk hB FB
  have c0 := HB.out.cell 0
  go_wp2
  clear c0
  go_loopw [6] (fun i wr => ∃ k : Nat, k ≤ os.length ∧ i = .int .i64 k ∧ J wr (From w1.heap.size) b p q (steps (ar0 40) (os.take k)) (steps (ar0 40) (os.take k)) ∧ Keeps Nob w wr ∧ Blk wr P1 93 #[.slice sA os.length sc, .int .i64 a0, .int .i64 a1, .int .i64 a2, .int .i64 a3, .int .i64 a4]) (fun i _ => os.length - (intOf i).toNat)
  case atStart => exact ⟨0, Nat.zero_le _, rfl, HJ.out, K.out, HB.out⟩
  clear HJ K HB
  obtain ⟨k, hk, rfl, hj, hkr, hbx⟩ := hrel
  rcases Nat.lt_or_ge k os.length with hlt | hlt
  · obtain ⟨o, ho⟩ : ∃ o, os[k]? = some o := ⟨_, List.getElem?_eq_getElem hlt⟩
    have HST := Lib.hid (show steps (ar0 40) (os.take (k + 1)) = step (steps (ar0 40) (os.take k)) o by rw [take_snocO _ _ _ ho, steps_snoc])
    obtain ⟨ad, d0, d1, d2, d3, d4, d5, ea, hop, q0, q1, q2, q3, q4, q5, q6, q7, q8, q9, q10⟩ := (HO.out.keeps hkr (fun _ _ => id)).at_ ho
    subst ea
    have HR := Lib.hid (rawJ hj hop (fun x hx hg => by have h1 : w1.heap.size ≤ x := hg; have h2 : x < lo := hx; have h3 := HLO.out; have h4 := HS.out; omega))
    have HK := Lib.hid hkr
    have HBX := Lib.hid hbx
    have c0 := hbx.cell 0
    clear hop ho hkr hj hbx
    unfold pV at HR
    have hk64 : k < 9223372036854775807 := by omega
    go_wp2_with fail
    clear c0 q0 q1 q2 q3 q4 q5 q6 q7 q8 q9 q10
    refine HR.out.mono ?_
    rintro e wk ⟨rfl, hj, hk2⟩
    have HJ2 := Lib.hid hj
    have HK2 := Lib.hid (HK.out.trans hk2 (fun x hx hg => by have h1 : w1.heap.size ≤ x := hg; have h4 := HS.out; omega))
    have HBX2 := Lib.hid (HBX.out.keeps hk2 (fun hg => by have h1 : w1.heap.size ≤ P1 := hg; have h4 := HS.out; omega))
    clear hj hk2
    go_wp2
    go_roundw
    case rel => exact ⟨k + 1, by omega, by simp, by rw [HST.out]; exact HJ2.out, HK2.out, HBX2.out⟩
    case measure => simp [intOf]; omega
  obtain rfl : k = os.length := by omega
  rw [List.take_length] at hj
  have HJ := Lib.hid hj
  have K := Lib.hid hkr
  have c0 := hbx.cell 0
  have FS := Lib.hid (sameJ hj)
  unfold pV at FS
  clear hj hkr hbx
  go_wp2_with fail
  clear c0
  refine FS.out.mono ?_
  rintro e wk ⟨rfl, hj, hk2⟩
  have HJ2 := Lib.hid hj
  replace K := Lib.hid (K.out.trans hk2 (fun _ _ h => h))
  clear hj hk2 FS
  go_wp2
  refine bodyPost_ret (v := .tuple #[.pointer (some ⟨b, 0, none⟩), .bool true]) (by simp [results, Try.results34, go_sem]) rfl ⟨b, p, q, rfl, ?_, K.out⟩
  have h := HJ2.out
  have h4 := HS.out
  rw [h4.1] at h
  rw [h4.2]
  exact h
end
end Go.Proofs.Ytbhohohgojcapaa

namespace Go.Proofs.Ytbhohohgojcapaa
open Go.RowKit

theorem put_len' (A : Ar) (ix : Int) (s : Sl) : (A.put ix s).sl.length = A.sl.length := by simp [Ar.put]
theorem len_lock (A : Ar) (ix : Int) (wd : Nat) : (opLock A ix wd).2.2.sl.length = A.sl.length := by
  unfold opLock; split
  · rfl
  · split
    · exact put_len' _ _ _
    · rfl
theorem len_unlock (A : Ar) (ix : Int) (c : Bool) : (opUnlock A ix c).2.sl.length = A.sl.length := by
  unfold opUnlock; split
  · rfl
  · split
    · rfl
    · exact put_len' _ _ _
theorem len_setHead (A : Ar) (ix : Int) (n : Nd) : (opSetHead A ix n).2.sl.length = A.sl.length := by
  unfold opSetHead; split
  · rfl
  · split
    · rfl
    · exact put_len' _ _ _
theorem len_setBody (A : Ar) (ix : Int) (n : Nd) : (opSetBody A ix n).2.sl.length = A.sl.length := by
  unfold opSetBody; split
  · rfl
  · split
    · rfl
    · exact put_len' _ _ _
theorem len_grow (A : Ar) (o ix : Int) : (opGrow A o ix).2.2.sl.length = A.sl.length := by
  unfold opGrow; split
  · rfl
  · split <;> rfl
theorem len_alloc (A : Ar) : A.sl.length ≤ (opAlloc A).2.2.sl.length := by
  unfold opAlloc; split
  · exact Nat.le_refl _
  · simp
theorem len_lay3 (A : Ar) (ix : Int) (n : Nd) : (opLay3 A ix n).sl.length = A.sl.length := by
  unfold opLay3; rw [len_unlock, len_setBody, len_setHead]
theorem len_lay (A : Ar) (ix : Int) (n : Nd) : A.sl.length ≤ (opLay A ix n).sl.length := by
  unfold opLay
  split
  · split
    · rw [len_lay3]; exact len_alloc A
    · exact len_alloc A
  · rw [len_lay3, len_lock]; exact Nat.le_refl _
/-- No call makes an arena shorter. -/
theorem len_step (A : Ar) (o : OpM) : A.sl.length ≤ (step A o).sl.length := by
  unfold step
  split
  · exact len_alloc A
  split
  · exact Nat.le_refl _
  split
  · exact Nat.le_of_eq (len_lock _ _ _).symm
  split
  · exact Nat.le_of_eq (len_unlock _ _ _).symm
  split
  · exact Nat.le_of_eq (len_setHead _ _ _).symm
  split
  · exact Nat.le_of_eq (len_setBody _ _ _).symm
  split
  · exact Nat.le_of_eq (len_grow _ _ _).symm
  split
  · exact len_lay _ _ _
  · exact Nat.le_of_eq (len_lock _ _ _).symm
section
variable {A : Ar} {ix : Int} {s : Sl} {n : Nd}
end

section
variable {A B : Ar} {ix : Int} {s : Sl}
end
end Go.Proofs.Ytbhohohgojcapaa

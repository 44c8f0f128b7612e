import Derived.Test.YtbhohohgojcapaaGreatPkC1
import Derived.Test.YtbhohohgojcapaaGreatPkC2
import Derived.Test.YtbhohohgojcapaaGreatPkB3
import Derived.Test.YtbhohohgojcapaaGreatPkC6
import Derived.BigQuiet
set_option maxHeartbeats 64000000
namespace Go.Proofs.YtbhohohgojcapaaGreat
open Go.RowKit
def BIG : Nat := 59000000000000
def IsO13 (w : World) (lo : Nat) (cs : Array Value) (o : O13) : Prop :=
 ∃ kv vv hv c0 c1 c2 c3 c4 c5, cs = #[.int .i64 o.kd, .int .i64 o.a, .int .i64 o.b, kv, vv, hv, .bool o.ch, c0, c1, c2, c3, c4, c5] /\ (Byts w (λ b => b < lo) kv o.key /\ Byts w (λ b => b < lo) vv o.val /\ Byts w (λ b => b < lo) hv o.hi /\ IsNd w (λ b => b < lo) c0 c1 c2 c3 c4 c5 o.nd) /\
 (I64 o.kd /\ I64 o.a /\ I64 o.b) /\ Sm BIG 1 o.key.length /\ Sm BIG 1 o.val.length /\ Sm BIG 1 o.hi.length /\ NdSm BIG o.nd
theorem IsO13.keeps {w w' : World} {lo : Nat} {cs : Array Value} {o : O13} {G : Nat -> Prop} (h : IsO13 w lo cs o) (k : Keeps G w w') (hg : ∀ x, x < lo -> ¬ G x) : IsO13 w' lo cs o := by
 obtain ⟨kv, vv, hv, c0, c1, c2, c3, c4, c5, e, ⟨h1, h2, h3, h4⟩, h5⟩ := h
 exact ⟨kv, vv, hv, c0, c1, c2, c3, c4, c5, e, ⟨h1.keeps k (λ x _ => hg x), h2.keeps k (λ x _ => hg x), h3.keeps k (λ x _ => hg x), h4.keeps k (λ x _ => hg x)⟩, h5⟩
abbrev O13At := RowAt 13 216 IsO13
section
variable {w : World} {G : Nat -> Prop} {b p q lo : Nat} {A : Ar} {o : O13} {cs : Array Value}
theorem with_ok {n : Nd} (h : right n = true) (hl : n.lvl = 0) (key : List UInt8) : (has n.keys key = true -> below n.keys key < n.vals.length) /\ (has n.keys key = false -> below n.keys key <= n.vals.length) := by
 obtain ⟨h1, h2, _⟩ := right_iff.1 h
 obtain ⟨h3, _⟩ := h2 hl
 rw [h3]
 exact ⟨λ hh => has_lt h1 hh, λ _ => below_le _ _⟩
theorem wrap_in (x : Int) (h1 : -9223372036854775808 <= x) (h2 : x <= 9223372036854775807) : IntKind.i64.wrap x = x := by rw [IntKind.wrap_i64]; omega
theorem nd_of {w : World} {G : Nat -> Prop} {b p q : Nat} {A B : Ar} (h : J w G b p q A B) {P : Nd -> Prop} (hz : P Nd.zero) (hA : ∀ s ∈ A.sl, P s.nd) (i : Int) : P (opNd A i) := by
 unfold opNd
 split
 ·exact hz
 ·rename_i s hs
  obtain ⟨_, _, hi, _⟩ := get_some hs
  exact hA s (List.mem_of_getElem? hi)
set_option maxRecDepth 100000 in
theorem turn_0 (hJ : J w G b p q A A) (ho : IsO13 w lo cs o) (hlo : ∀ x, x < lo -> ¬ G x) (hr : RightA A) (hsm : SmA 64 A) (hp : 1 <= A.sl.length) (hk : o.kd = 0) : Calls Tryz.prog 10 #[pV b, .agg cs] w λ e w' => e = .returned (.bool true) /\ J w' G b p q (turnM A o) (turnM A o) /\ Keeps G w w' := by
 obtain ⟨kd, a, b', key, val, hi, ch, nd⟩ := o
 obtain ⟨kv, vv, hv, c0, c1, c2, c3, c4, c5, rfl, ⟨hkey, hval, hhi, hnd⟩, ⟨i1, i2, i3⟩, z1, z2, z3, z4⟩ := ho
 simp only at hkey hval hhi hnd i1 i2 i3 z1 z2 z3 z4 hk
 obtain ⟨KA, kc, e1, _, _⟩ := hkey.form
 obtain ⟨VA, vc, e2, _, _⟩ := hval.form
 obtain ⟨HA, hc, e3, _, _⟩ := hhi.form
 subst e1 e2 e3
 obtain ⟨X1, xj1, f1, _, _⟩ := hnd.1.high.form
 obtain ⟨X3, xj3, f3, _, _⟩ := hnd.2.keys.form
 obtain ⟨X4, xj4, f4, _, _⟩ := hnd.2.vals.form
 obtain ⟨X5, xj5, f5, _, _⟩ := hnd.2.kids.form
 have f0 := hnd.1.lvl
 have f2 := hnd.1.right
 unfold iV at f0 f2
 subst f0 f1 f2 f3 f4 f5
 have PA := λ wx => pick13_ (n := (A.sl.length : Int)) wx i2 (by omega)
 obtain ⟨hx1, hx2⟩ := pk_range a (A.sl.length : Int) (by omega)
 have hbd := hJ.bound.1
 have hturn : ∀ T, turnM A ⟨kd, a, b', key, val, hi, ch, nd⟩ = T -> turnM A ⟨kd, a, b', key, val, hi, ch, nd⟩ = T := λ _ h => h
 skip
 obtain ⟨i, hi0⟩ : ∃ i : Nat, pk a (A.sl.length : Int) = (i : Int) := ⟨(pk a (A.sl.length : Int)).toNat, by omega⟩
 obtain ⟨s, hs⟩ : ∃ s, A.get ((i : Int) + 1) = some s := get_in (by omega) (by omega)
 have hm : opNd A ((i : Int) + 1) = s.nd := opNd_some hs
 have hrm : right s.nd = true := by rw [<- hm]; exact nd_of (P := λ n => right n = true) hJ right_zero hr _
 have hsm2 : NdSm 64 s.nd := by rw [<- hm]; exact nd_of (P := λ n => NdSm 64 n) hJ (zero_sm (by decide)) hsm _
 have HTU : Hid (∀ T, turnM A ⟨kd, a, b', key, val, hi, ch, nd⟩ = T -> turnM A ⟨kd, a, b', key, val, hi, ch, nd⟩ = T) := λ _ h => h
 have HAT : Hid (at13 A ⟨kd, a, b', key, val, hi, ch, nd⟩ = (i : Int) /\ nd13 A ⟨kd, a, b', key, val, hi, ch, nd⟩ = s.nd) := by
  have h1 : at13 A ⟨kd, a, b', key, val, hi, ch, nd⟩ = (i : Int) := hi0
  exact ⟨h1, by unfold nd13; rw [h1]; exact hm⟩
 rw [hi0] at PA hx1 hx2
 clear hi0 hm hturn HTU
 have HJ := Hd hJ
 have HKEY := Hd hkey
 have HVAL := Hd hval
 have HND := Hd hnd
 have HZ : Hid (Sm BIG 1 key.length /\ Sm BIG 1 val.length /\ NdSm BIG nd /\ I64 a) := ⟨z1, z2, z4, i2⟩
 have HLO := Hd hlo
 have HRM : Hid (right s.nd = true) := hrm
 have HSM : Hid (NdSm 64 s.nd) := hsm2
 have HS := Hd hs
 have hkl : nd.keys.length < 9223372036854775807 := by have h := z4.2.1.1; unfold Sm at h; omega
 have HKL : Hid (nd.keys.length < 9223372036854775807) := hkl
 clear hJ hkey hval hhi hnd i1 i2 i3 z1 z2 z3 z4 hlo hr hsm hrm hsm2 hs hkl
 subst hk
 unfold pV
 unfold iV at PA
 go_enter Tryz.func10, Tryz.ntmps10
 go_wp2_with fail
 refine code_at (λ w1 hw => ?_)
 have hk : Keeps Nob w w1 := by rw [hw]; exact Keeps.alloc _ _ _
 have HP : Hid (Blk w1 w.heap.size 37 #[.int .i64 0, .int .i64 a, .int .i64 b', .slice KA key.length kc, .slice VA val.length vc, .slice HA hi.length hc, .bool ch, .int .i64 nd.lvl, .slice X1 nd.high.length xj1, .int .i64 nd.right, .slice X3 nd.keys.length xj3, .slice X4 nd.vals.length xj4, .slice X5 nd.kids.length xj5]) := by show Blk _ _ _ _; rw [hw]; exact Blk.new _ _ _
 clear hw
 replace HKEY := Hd (HKEY.out.keeps hk (λ _ _ _ => id))
 replace HVAL := Hd (HVAL.out.keeps hk (λ _ _ _ => id))
 replace HND := Hd (HND.out.keeps hk (λ _ _ _ => id))
 have K := Hd hk
 clear hk
 obtain ⟨P, hP⟩ : ∃ P, w.heap.size = P := ⟨_, rfl⟩
 rw [hP] at HP ⊢
 have HPW : Hid (w.heap.size = P) := hP
 clear hP
 refine rC_ [0, 1, 2, 3, 4, 5, 6, 7, 8] 7 (λ W => W.cell? ⟨P, 1, none⟩ = some (.int .i64 a)) ?_ ?_
 ·exact HP.out.cell 1
 refine canon_at (λ w2 hw => ?_)
 have hk : Keeps Nob w1 w2 := by rw [hw]; exact Keeps.drew _ _
 clear hw
 replace HKEY := Hd (HKEY.out.keeps hk (λ _ _ _ => id))
 replace HVAL := Hd (HVAL.out.keeps hk (λ _ _ _ => id))
 replace HND := Hd (HND.out.keeps hk (λ _ _ _ => id))
 replace HP := Hd (HP.out.keeps hk id)
 replace K := tr_ K hk
 clear hk
 iterate 5
  refine cR_ (v := ?_) rfl ?_ ?_
  rotate_left
  ·intro W hW
   try (replace hW : World.cell? _ _ = some _ := hW)
   go_simp
   try rfl
  simp only [Act.put, sa_, sb_, sc_]
 have c0 : w2.cell? ⟨b, 1, none⟩ = some (.pointer (some ⟨q, 0, none⟩)) := (HJ.out.nob K.out).blk.cell 1
 refine cA_ rfl ?_
 go_wp2
 refine ⟨.inr (HP.out.cell 1), ?_⟩
 have FU := (HJ.out.nob K.out).usedR
 unfold pV iV at FU
 refine cA_ rfl ?_
 go_wp2_with (go_at_call 16; refine FU.mono ?_; rintro e wk ⟨rfl, rfl⟩)
 refine ⟨.inr (HP.out.cell 1), ?_⟩
 refine cA_ rfl ?_
 go_wp2_with (go_at_call 21; refine (PA _).mono ?_; rintro e wk ⟨rfl, rfl⟩)
 refine ⟨.inl (by kernel_rfl), ?_⟩
 iterate 1
  refine cR_ (v := ?_) rfl ?_ ?_
  rotate_left
  ·intro W hW
   try (replace hW : World.cell? _ _ = some _ := hW)
   go_simp
   try rfl
  simp only [Act.put, sa_, sb_, sc_]
 refine wpCanon_nil ?_
 clear FU PA
 obtain ⟨i', g, o, cc, n0, n1, n2, n3, n4, n5, D, hii, hil, hL, h1, h2, h3, h4, h5, h6, hnd⟩ := (HJ.out.nob K.out).slotY HS.out
 obtain rfl : i = i' := by omega
 generalize hm : s.nd = m at *
 have HM := Hd hm
 clear hm
 obtain ⟨Y1, yj1, f1, _, _⟩ := hnd.1.high.form
 obtain ⟨Y3, yj3, f3, _, _⟩ := hnd.2.keys.form
 obtain ⟨Y4, yj4, f4, _, _⟩ := hnd.2.vals.form
 obtain ⟨Y5, yj5, f5, _, _⟩ := hnd.2.kids.form
 have f0 := hnd.1.lvl
 have f2 := hnd.1.right
 unfold iV at f0 f2
 subst f0 f1 f2 f3 f4 f5
 have HMD := Hd hnd
 have hll : A.sl.length <= 9223372036854775807 := by omega
 have hlt : g < w2.heap.size := World.block_lt_of_cell? _ _ h1
 clear hii hnd
 have lP := HP.out.lt
 have qHP0 := HP.out.cell 0
 have qHP7 := HP.out.cell 7
 have qHP8 := HP.out.cell 8
 have qHP9 := HP.out.cell 9
 have qHP10 := HP.out.cell 10
 have qHP11 := HP.out.cell 11
 have qHP12 := HP.out.cell 12
 go_wp2_with fail
 clear qHP0 qHP7 qHP8 qHP9 qHP10 qHP11 qHP12
 refine calls_at (λ w3 hw => ?_)
 have hk : Keeps Nob w2 w3 := by rw [hw]; exact Keeps.alloc _ _ _
 have HN : Hid (Blk w3 w2.heap.size 35 #[.int .i64 m.lvl, .slice Y1 m.high.length yj1, .int .i64 m.right, .slice Y3 m.keys.length yj3, .slice Y4 m.vals.length yj4, .slice Y5 m.kids.length yj5]) := by show Blk _ _ _ _; rw [hw]; exact Blk.new _ _ _
 clear hw
 replace HKEY := Hd (HKEY.out.keeps hk (λ _ _ _ => id))
 replace HVAL := Hd (HVAL.out.keeps hk (λ _ _ _ => id))
 replace HND := Hd (HND.out.keeps hk (λ _ _ _ => id))
 replace HP := Hd (HP.out.keeps hk id)
 replace HMD := Hd (HMD.out.keeps hk (λ _ _ _ => id))
 replace K := tr_ K hk
 clear hk
 clear h1 h2 h3 h4 h5 h6 hL lP
 refine (rightR HND.out HKL.out).mono ?_
 rintro e w4 ⟨rfl, hk⟩
 replace HKEY := Hd (HKEY.out.keeps hk (λ _ _ _ => id))
 replace HVAL := Hd (HVAL.out.keeps hk (λ _ _ _ => id))
 replace HND := Hd (HND.out.keeps hk (λ _ _ _ => id))
 replace HP := Hd (HP.out.keeps hk id)
 replace HMD := Hd (HMD.out.keeps hk (λ _ _ _ => id))
 replace HN := Hd (HN.out.keeps hk id)
 replace K := tr_ K hk
 clear hk
 rcases hrn : right nd with _ | _
 ·go_wp2
  go_ret
  refine ⟨rfl, ?_, K.out.mono (λ _ _ h => h.elim)⟩
  rw [show turnM A _ = A from by unfold turnM; rw [if_pos rfl, if_neg (by show ¬ right nd = true; rw [hrn]; decide)]]
  exact HJ.out.nob K.out
 ·have HRN := Hd hrn
  clear hrn
  have qHP1 := HP.out.cell 1
  have qHP7 := HP.out.cell 7
  have qHP8 := HP.out.cell 8
  have qHP9 := HP.out.cell 9
  have qHP10 := HP.out.cell 10
  have qHP11 := HP.out.cell 11
  have qHP12 := HP.out.cell 12
  go_wp2_with fail
  clear qHP1 qHP7 qHP8 qHP9 qHP10 qHP11 qHP12
  have hop : IsOp w4 (λ x => x < lo) #[.int .i64 7, .int .i64 a, .int .i64 0, .int .u64 0, .bool false, .int .i64 nd.lvl, .slice X1 nd.high.length xj1, .int .i64 nd.right, .slice X3 nd.keys.length xj3, .slice X4 nd.vals.length xj4, .slice X5 nd.kids.length xj5] ⟨7, a, 0, 0, false, nd⟩ := ⟨⟨_, _, _, _, _, _, rfl, HND.out⟩, (by show I64 7; unfold I64; omega), HZ.out.2.2.2, (by show I64 0; unfold I64; omega), (by show U64 0; unfold U64; omega), HZ.out.2.2.1.mono (Nat.zero_le _)⟩
  refine (rawJ (HJ.out.shr K.out (λ _ _ _ h => h)) hop (λ x hx hg => HLO.out x hx hg.1)).mono ?_
  rintro e w9 ⟨rfl, hj, hk9⟩
  have HJ9 := Hd hj
  have K9 := Hd hk9
  clear hop hj hk9
  go_wp2
  go_ret
  refine ⟨rfl, ?_, (K.out.mono (λ _ _ h => h.elim)).trans K9.out (λ _ _ h => h.1)⟩
  rw [show turnM A _ = step A ⟨7, a, 0, 0, false, nd⟩ from by unfold turnM; rw [if_pos rfl, if_pos (by exact HRN.out)]]
  exact HJ9.out.weaken (λ _ h => h.1)
set_option maxRecDepth 100000 in
theorem turn_4 (hJ : J w G b p q A A) (ho : IsO13 w lo cs o) (hlo : ∀ x, x < lo -> ¬ G x) (hr : RightA A) (hsm : SmA 64 A) (hp : 1 <= A.sl.length) (hk : o.kd = 4) : Calls Tryz.prog 10 #[pV b, .agg cs] w λ e w' => e = .returned (.bool true) /\ J w' G b p q (turnM A o) (turnM A o) /\ Keeps G w w' := by
 obtain ⟨kd, a, b', key, val, hi, ch, nd⟩ := o
 obtain ⟨kv, vv, hv, c0, c1, c2, c3, c4, c5, rfl, ⟨hkey, hval, hhi, hnd⟩, ⟨i1, i2, i3⟩, z1, z2, z3, z4⟩ := ho
 simp only at hkey hval hhi hnd i1 i2 i3 z1 z2 z3 z4 hk
 obtain ⟨KA, kc, e1, _, _⟩ := hkey.form
 obtain ⟨VA, vc, e2, _, _⟩ := hval.form
 obtain ⟨HA, hc, e3, _, _⟩ := hhi.form
 subst e1 e2 e3
 obtain ⟨X1, xj1, f1, _, _⟩ := hnd.1.high.form
 obtain ⟨X3, xj3, f3, _, _⟩ := hnd.2.keys.form
 obtain ⟨X4, xj4, f4, _, _⟩ := hnd.2.vals.form
 obtain ⟨X5, xj5, f5, _, _⟩ := hnd.2.kids.form
 have f0 := hnd.1.lvl
 have f2 := hnd.1.right
 unfold iV at f0 f2
 subst f0 f1 f2 f3 f4 f5
 have PA := λ wx => pick13_ (n := (A.sl.length : Int)) wx i2 (by omega)
 obtain ⟨hx1, hx2⟩ := pk_range a (A.sl.length : Int) (by omega)
 have hbd := hJ.bound.1
 have hturn : ∀ T, turnM A ⟨kd, a, b', key, val, hi, ch, nd⟩ = T -> turnM A ⟨kd, a, b', key, val, hi, ch, nd⟩ = T := λ _ h => h
 skip
 obtain ⟨i, hi0⟩ : ∃ i : Nat, pk a (A.sl.length : Int) = (i : Int) := ⟨(pk a (A.sl.length : Int)).toNat, by omega⟩
 obtain ⟨s, hs⟩ : ∃ s, A.get ((i : Int) + 1) = some s := get_in (by omega) (by omega)
 have hm : opNd A ((i : Int) + 1) = s.nd := opNd_some hs
 have hrm : right s.nd = true := by rw [<- hm]; exact nd_of (P := λ n => right n = true) hJ right_zero hr _
 have hsm2 : NdSm 64 s.nd := by rw [<- hm]; exact nd_of (P := λ n => NdSm 64 n) hJ (zero_sm (by decide)) hsm _
 have HTU : Hid (∀ T, turnM A ⟨kd, a, b', key, val, hi, ch, nd⟩ = T -> turnM A ⟨kd, a, b', key, val, hi, ch, nd⟩ = T) := λ _ h => h
 have HAT : Hid (at13 A ⟨kd, a, b', key, val, hi, ch, nd⟩ = (i : Int) /\ nd13 A ⟨kd, a, b', key, val, hi, ch, nd⟩ = s.nd) := by
  have h1 : at13 A ⟨kd, a, b', key, val, hi, ch, nd⟩ = (i : Int) := hi0
  exact ⟨h1, by unfold nd13; rw [h1]; exact hm⟩
 rw [hi0] at PA hx1 hx2
 clear hi0 hm hturn HTU
 have HJ := Hd hJ
 have HKEY := Hd hkey
 have HVAL := Hd hval
 have HND := Hd hnd
 have HZ : Hid (Sm BIG 1 key.length /\ Sm BIG 1 val.length /\ NdSm BIG nd /\ I64 a) := ⟨z1, z2, z4, i2⟩
 have HLO := Hd hlo
 have HRM : Hid (right s.nd = true) := hrm
 have HSM : Hid (NdSm 64 s.nd) := hsm2
 have HS := Hd hs
 have hkl : nd.keys.length < 9223372036854775807 := by have h := z4.2.1.1; unfold Sm at h; omega
 have HKL : Hid (nd.keys.length < 9223372036854775807) := hkl
 clear hJ hkey hval hhi hnd i1 i2 i3 z1 z2 z3 z4 hlo hr hsm hrm hsm2 hs hkl
 subst hk
 unfold pV
 unfold iV at PA
 go_enter Tryz.func10, Tryz.ntmps10
 go_wp2_with fail
 refine code_at (λ w1 hw => ?_)
 have hk : Keeps Nob w w1 := by rw [hw]; exact Keeps.alloc _ _ _
 have HP : Hid (Blk w1 w.heap.size 37 #[.int .i64 4, .int .i64 a, .int .i64 b', .slice KA key.length kc, .slice VA val.length vc, .slice HA hi.length hc, .bool ch, .int .i64 nd.lvl, .slice X1 nd.high.length xj1, .int .i64 nd.right, .slice X3 nd.keys.length xj3, .slice X4 nd.vals.length xj4, .slice X5 nd.kids.length xj5]) := by show Blk _ _ _ _; rw [hw]; exact Blk.new _ _ _
 clear hw
 replace HKEY := Hd (HKEY.out.keeps hk (λ _ _ _ => id))
 replace HVAL := Hd (HVAL.out.keeps hk (λ _ _ _ => id))
 replace HND := Hd (HND.out.keeps hk (λ _ _ _ => id))
 have K := Hd hk
 clear hk
 obtain ⟨P, hP⟩ : ∃ P, w.heap.size = P := ⟨_, rfl⟩
 rw [hP] at HP ⊢
 have HPW : Hid (w.heap.size = P) := hP
 clear hP
 refine rC_ [0, 1, 2, 3, 4, 5, 6, 7, 8] 7 (λ W => W.cell? ⟨P, 1, none⟩ = some (.int .i64 a)) ?_ ?_
 ·exact HP.out.cell 1
 refine canon_at (λ w2 hw => ?_)
 have hk : Keeps Nob w1 w2 := by rw [hw]; exact Keeps.drew _ _
 clear hw
 replace HKEY := Hd (HKEY.out.keeps hk (λ _ _ _ => id))
 replace HVAL := Hd (HVAL.out.keeps hk (λ _ _ _ => id))
 replace HND := Hd (HND.out.keeps hk (λ _ _ _ => id))
 replace HP := Hd (HP.out.keeps hk id)
 replace K := tr_ K hk
 clear hk
 iterate 5
  refine cR_ (v := ?_) rfl ?_ ?_
  rotate_left
  ·intro W hW
   try (replace hW : World.cell? _ _ = some _ := hW)
   go_simp
   try rfl
  simp only [Act.put, sa_, sb_, sc_]
 have c0 : w2.cell? ⟨b, 1, none⟩ = some (.pointer (some ⟨q, 0, none⟩)) := (HJ.out.nob K.out).blk.cell 1
 refine cA_ rfl ?_
 go_wp2
 refine ⟨.inr (HP.out.cell 1), ?_⟩
 have FU := (HJ.out.nob K.out).usedR
 unfold pV iV at FU
 refine cA_ rfl ?_
 go_wp2_with (go_at_call 16; refine FU.mono ?_; rintro e wk ⟨rfl, rfl⟩)
 refine ⟨.inr (HP.out.cell 1), ?_⟩
 refine cA_ rfl ?_
 go_wp2_with (go_at_call 21; refine (PA _).mono ?_; rintro e wk ⟨rfl, rfl⟩)
 refine ⟨.inl (by kernel_rfl), ?_⟩
 iterate 1
  refine cR_ (v := ?_) rfl ?_ ?_
  rotate_left
  ·intro W hW
   try (replace hW : World.cell? _ _ = some _ := hW)
   go_simp
   try rfl
  simp only [Act.put, sa_, sb_, sc_]
 refine wpCanon_nil ?_
 clear FU PA
 obtain ⟨i', g, o, cc, n0, n1, n2, n3, n4, n5, D, hii, hil, hL, h1, h2, h3, h4, h5, h6, hnd⟩ := (HJ.out.nob K.out).slotY HS.out
 obtain rfl : i = i' := by omega
 generalize hm : s.nd = m at *
 have HM := Hd hm
 clear hm
 obtain ⟨Y1, yj1, f1, _, _⟩ := hnd.1.high.form
 obtain ⟨Y3, yj3, f3, _, _⟩ := hnd.2.keys.form
 obtain ⟨Y4, yj4, f4, _, _⟩ := hnd.2.vals.form
 obtain ⟨Y5, yj5, f5, _, _⟩ := hnd.2.kids.form
 have f0 := hnd.1.lvl
 have f2 := hnd.1.right
 unfold iV at f0 f2
 subst f0 f1 f2 f3 f4 f5
 have HMD := Hd hnd
 have hll : A.sl.length <= 9223372036854775807 := by omega
 have hlt : g < w2.heap.size := World.block_lt_of_cell? _ _ h1
 clear hii hnd
 have lP := HP.out.lt
 have qHP0 := HP.out.cell 0
 go_wp2_with fail
 clear qHP0
 refine calls_at (λ w3 hw => ?_)
 have hk : Keeps Nob w2 w3 := by rw [hw]; exact Keeps.alloc _ _ _
 have HN : Hid (Blk w3 w2.heap.size 35 #[.int .i64 m.lvl, .slice Y1 m.high.length yj1, .int .i64 m.right, .slice Y3 m.keys.length yj3, .slice Y4 m.vals.length yj4, .slice Y5 m.kids.length yj5]) := by show Blk _ _ _ _; rw [hw]; exact Blk.new _ _ _
 clear hw
 replace HKEY := Hd (HKEY.out.keeps hk (λ _ _ _ => id))
 replace HVAL := Hd (HVAL.out.keeps hk (λ _ _ _ => id))
 replace HND := Hd (HND.out.keeps hk (λ _ _ _ => id))
 replace HP := Hd (HP.out.keeps hk id)
 replace HMD := Hd (HMD.out.keeps hk (λ _ _ _ => id))
 replace K := tr_ K hk
 clear hk
 clear h1 h2 h3 h4 h5 h6 hL lP
 have hop : IsOp w3 (λ _ => False) #[.int .i64 2, .int .i64 ((i : Int) + 1), .int .i64 0, .int .u64 0, .bool false, .int .i64 0, .slice none 0 0, .int .i64 0, .slice none 0 0, .slice none 0 0, .slice none 0 0] ⟨2, (i : Int) + 1, 0, 0, false, Nd.zero⟩ := ⟨⟨_, _, _, _, _, _, rfl, IsNd.zero _ _⟩, (by show I64 2; unfold I64; omega), (by show I64 ((i : Int) + 1); unfold I64; omega), (by show I64 0; unfold I64; omega), (by show U64 0; unfold U64; omega), sm_zero⟩
 refine (rawJ (HJ.out.shr K.out (λ _ _ _ h => h)) hop (λ _ h => h.elim)).mono ?_
 rintro e w9 ⟨rfl, hj, hk9⟩
 have HJ9 := Hd hj
 have K9 := Hd hk9
 clear hop hj hk9
 go_wp2
 go_ret
 refine ⟨rfl, ?_, (K.out.mono (λ _ _ h => h.elim)).trans K9.out (λ _ _ h => h.1)⟩
 rw [show turnM A _ = step A ⟨2, (i : Int) + 1, 0, 0, false, Nd.zero⟩ from by unfold turnM; rw [if_neg (show ¬ (4 : Int) = 0 by decide), if_neg (show ¬ (4 : Int) = 1 by decide), if_neg (show ¬ (4 : Int) = 2 by decide), if_neg (show ¬ (4 : Int) = 3 by decide), if_pos rfl, HAT.out.1]]
 exact HJ9.out.weaken (λ _ h => h.1)
set_option maxRecDepth 100000 in
theorem turn_5 (hJ : J w G b p q A A) (ho : IsO13 w lo cs o) (hlo : ∀ x, x < lo -> ¬ G x) (hr : RightA A) (hsm : SmA 64 A) (hp : 1 <= A.sl.length) (hk : o.kd = 5) : Calls Tryz.prog 10 #[pV b, .agg cs] w λ e w' => e = .returned (.bool true) /\ J w' G b p q (turnM A o) (turnM A o) /\ Keeps G w w' := by
 obtain ⟨kd, a, b', key, val, hi, ch, nd⟩ := o
 obtain ⟨kv, vv, hv, c0, c1, c2, c3, c4, c5, rfl, ⟨hkey, hval, hhi, hnd⟩, ⟨i1, i2, i3⟩, z1, z2, z3, z4⟩ := ho
 simp only at hkey hval hhi hnd i1 i2 i3 z1 z2 z3 z4 hk
 obtain ⟨KA, kc, e1, _, _⟩ := hkey.form
 obtain ⟨VA, vc, e2, _, _⟩ := hval.form
 obtain ⟨HA, hc, e3, _, _⟩ := hhi.form
 subst e1 e2 e3
 obtain ⟨X1, xj1, f1, _, _⟩ := hnd.1.high.form
 obtain ⟨X3, xj3, f3, _, _⟩ := hnd.2.keys.form
 obtain ⟨X4, xj4, f4, _, _⟩ := hnd.2.vals.form
 obtain ⟨X5, xj5, f5, _, _⟩ := hnd.2.kids.form
 have f0 := hnd.1.lvl
 have f2 := hnd.1.right
 unfold iV at f0 f2
 subst f0 f1 f2 f3 f4 f5
 have PA := λ wx => pick13_ (n := (A.sl.length : Int)) wx i2 (by omega)
 obtain ⟨hx1, hx2⟩ := pk_range a (A.sl.length : Int) (by omega)
 have hbd := hJ.bound.1
 have hturn : ∀ T, turnM A ⟨kd, a, b', key, val, hi, ch, nd⟩ = T -> turnM A ⟨kd, a, b', key, val, hi, ch, nd⟩ = T := λ _ h => h
 skip
 obtain ⟨i, hi0⟩ : ∃ i : Nat, pk a (A.sl.length : Int) = (i : Int) := ⟨(pk a (A.sl.length : Int)).toNat, by omega⟩
 obtain ⟨s, hs⟩ : ∃ s, A.get ((i : Int) + 1) = some s := get_in (by omega) (by omega)
 have hm : opNd A ((i : Int) + 1) = s.nd := opNd_some hs
 have hrm : right s.nd = true := by rw [<- hm]; exact nd_of (P := λ n => right n = true) hJ right_zero hr _
 have hsm2 : NdSm 64 s.nd := by rw [<- hm]; exact nd_of (P := λ n => NdSm 64 n) hJ (zero_sm (by decide)) hsm _
 have HTU : Hid (∀ T, turnM A ⟨kd, a, b', key, val, hi, ch, nd⟩ = T -> turnM A ⟨kd, a, b', key, val, hi, ch, nd⟩ = T) := λ _ h => h
 have HAT : Hid (at13 A ⟨kd, a, b', key, val, hi, ch, nd⟩ = (i : Int) /\ nd13 A ⟨kd, a, b', key, val, hi, ch, nd⟩ = s.nd) := by
  have h1 : at13 A ⟨kd, a, b', key, val, hi, ch, nd⟩ = (i : Int) := hi0
  exact ⟨h1, by unfold nd13; rw [h1]; exact hm⟩
 rw [hi0] at PA hx1 hx2
 clear hi0 hm hturn HTU
 have HJ := Hd hJ
 have HKEY := Hd hkey
 have HVAL := Hd hval
 have HND := Hd hnd
 have HZ : Hid (Sm BIG 1 key.length /\ Sm BIG 1 val.length /\ NdSm BIG nd /\ I64 a) := ⟨z1, z2, z4, i2⟩
 have HLO := Hd hlo
 have HRM : Hid (right s.nd = true) := hrm
 have HSM : Hid (NdSm 64 s.nd) := hsm2
 have HS := Hd hs
 have hkl : nd.keys.length < 9223372036854775807 := by have h := z4.2.1.1; unfold Sm at h; omega
 have HKL : Hid (nd.keys.length < 9223372036854775807) := hkl
 clear hJ hkey hval hhi hnd i1 i2 i3 z1 z2 z3 z4 hlo hr hsm hrm hsm2 hs hkl
 subst hk
 unfold pV
 unfold iV at PA
 go_enter Tryz.func10, Tryz.ntmps10
 go_wp2_with fail
 refine code_at (λ w1 hw => ?_)
 have hk : Keeps Nob w w1 := by rw [hw]; exact Keeps.alloc _ _ _
 have HP : Hid (Blk w1 w.heap.size 37 #[.int .i64 5, .int .i64 a, .int .i64 b', .slice KA key.length kc, .slice VA val.length vc, .slice HA hi.length hc, .bool ch, .int .i64 nd.lvl, .slice X1 nd.high.length xj1, .int .i64 nd.right, .slice X3 nd.keys.length xj3, .slice X4 nd.vals.length xj4, .slice X5 nd.kids.length xj5]) := by show Blk _ _ _ _; rw [hw]; exact Blk.new _ _ _
 clear hw
 replace HKEY := Hd (HKEY.out.keeps hk (λ _ _ _ => id))
 replace HVAL := Hd (HVAL.out.keeps hk (λ _ _ _ => id))
 replace HND := Hd (HND.out.keeps hk (λ _ _ _ => id))
 have K := Hd hk
 clear hk
 obtain ⟨P, hP⟩ : ∃ P, w.heap.size = P := ⟨_, rfl⟩
 rw [hP] at HP ⊢
 have HPW : Hid (w.heap.size = P) := hP
 clear hP
 refine rC_ [0, 1, 2, 3, 4, 5, 6, 7, 8] 7 (λ W => W.cell? ⟨P, 1, none⟩ = some (.int .i64 a)) ?_ ?_
 ·exact HP.out.cell 1
 refine canon_at (λ w2 hw => ?_)
 have hk : Keeps Nob w1 w2 := by rw [hw]; exact Keeps.drew _ _
 clear hw
 replace HKEY := Hd (HKEY.out.keeps hk (λ _ _ _ => id))
 replace HVAL := Hd (HVAL.out.keeps hk (λ _ _ _ => id))
 replace HND := Hd (HND.out.keeps hk (λ _ _ _ => id))
 replace HP := Hd (HP.out.keeps hk id)
 replace K := tr_ K hk
 clear hk
 iterate 5
  refine cR_ (v := ?_) rfl ?_ ?_
  rotate_left
  ·intro W hW
   try (replace hW : World.cell? _ _ = some _ := hW)
   go_simp
   try rfl
  simp only [Act.put, sa_, sb_, sc_]
 have c0 : w2.cell? ⟨b, 1, none⟩ = some (.pointer (some ⟨q, 0, none⟩)) := (HJ.out.nob K.out).blk.cell 1
 refine cA_ rfl ?_
 go_wp2
 refine ⟨.inr (HP.out.cell 1), ?_⟩
 have FU := (HJ.out.nob K.out).usedR
 unfold pV iV at FU
 refine cA_ rfl ?_
 go_wp2_with (go_at_call 16; refine FU.mono ?_; rintro e wk ⟨rfl, rfl⟩)
 refine ⟨.inr (HP.out.cell 1), ?_⟩
 refine cA_ rfl ?_
 go_wp2_with (go_at_call 21; refine (PA _).mono ?_; rintro e wk ⟨rfl, rfl⟩)
 refine ⟨.inl (by kernel_rfl), ?_⟩
 iterate 1
  refine cR_ (v := ?_) rfl ?_ ?_
  rotate_left
  ·intro W hW
   try (replace hW : World.cell? _ _ = some _ := hW)
   go_simp
   try rfl
  simp only [Act.put, sa_, sb_, sc_]
 refine wpCanon_nil ?_
 clear FU PA
 obtain ⟨i', g, o, cc, n0, n1, n2, n3, n4, n5, D, hii, hil, hL, h1, h2, h3, h4, h5, h6, hnd⟩ := (HJ.out.nob K.out).slotY HS.out
 obtain rfl : i = i' := by omega
 generalize hm : s.nd = m at *
 have HM := Hd hm
 clear hm
 obtain ⟨Y1, yj1, f1, _, _⟩ := hnd.1.high.form
 obtain ⟨Y3, yj3, f3, _, _⟩ := hnd.2.keys.form
 obtain ⟨Y4, yj4, f4, _, _⟩ := hnd.2.vals.form
 obtain ⟨Y5, yj5, f5, _, _⟩ := hnd.2.kids.form
 have f0 := hnd.1.lvl
 have f2 := hnd.1.right
 unfold iV at f0 f2
 subst f0 f1 f2 f3 f4 f5
 have HMD := Hd hnd
 have hll : A.sl.length <= 9223372036854775807 := by omega
 have hlt : g < w2.heap.size := World.block_lt_of_cell? _ _ h1
 clear hii hnd
 have lP := HP.out.lt
 have qHP0 := HP.out.cell 0
 have qHP6 := HP.out.cell 6
 go_wp2_with fail
 clear qHP0 qHP6
 refine calls_at (λ w3 hw => ?_)
 have hk : Keeps Nob w2 w3 := by rw [hw]; exact Keeps.alloc _ _ _
 have HN : Hid (Blk w3 w2.heap.size 35 #[.int .i64 m.lvl, .slice Y1 m.high.length yj1, .int .i64 m.right, .slice Y3 m.keys.length yj3, .slice Y4 m.vals.length yj4, .slice Y5 m.kids.length yj5]) := by show Blk _ _ _ _; rw [hw]; exact Blk.new _ _ _
 clear hw
 replace HKEY := Hd (HKEY.out.keeps hk (λ _ _ _ => id))
 replace HVAL := Hd (HVAL.out.keeps hk (λ _ _ _ => id))
 replace HND := Hd (HND.out.keeps hk (λ _ _ _ => id))
 replace HP := Hd (HP.out.keeps hk id)
 replace HMD := Hd (HMD.out.keeps hk (λ _ _ _ => id))
 replace K := tr_ K hk
 clear hk
 clear h1 h2 h3 h4 h5 h6 hL lP
 have hop : IsOp w3 (λ _ => False) #[.int .i64 3, .int .i64 ((i : Int) + 1), .int .i64 0, .int .u64 0, .bool ch, .int .i64 0, .slice none 0 0, .int .i64 0, .slice none 0 0, .slice none 0 0, .slice none 0 0] ⟨3, (i : Int) + 1, 0, 0, ch, Nd.zero⟩ := ⟨⟨_, _, _, _, _, _, rfl, IsNd.zero _ _⟩, (by show I64 3; unfold I64; omega), (by show I64 ((i : Int) + 1); unfold I64; omega), (by show I64 0; unfold I64; omega), (by show U64 0; unfold U64; omega), sm_zero⟩
 refine (rawJ (HJ.out.shr K.out (λ _ _ _ h => h)) hop (λ _ h => h.elim)).mono ?_
 rintro e w9 ⟨rfl, hj, hk9⟩
 have HJ9 := Hd hj
 have K9 := Hd hk9
 clear hop hj hk9
 go_wp2
 go_ret
 refine ⟨rfl, ?_, (K.out.mono (λ _ _ h => h.elim)).trans K9.out (λ _ _ h => h.1)⟩
 rw [show turnM A _ = step A ⟨3, (i : Int) + 1, 0, 0, ch, Nd.zero⟩ from by unfold turnM; rw [if_neg (show ¬ (5 : Int) = 0 by decide), if_neg (show ¬ (5 : Int) = 1 by decide), if_neg (show ¬ (5 : Int) = 2 by decide), if_neg (show ¬ (5 : Int) = 3 by decide), if_neg (show ¬ (5 : Int) = 4 by decide), if_pos rfl, HAT.out.1]]
 exact HJ9.out.weaken (λ _ h => h.1)
set_option maxRecDepth 100000 in
theorem turn_6 (hJ : J w G b p q A A) (ho : IsO13 w lo cs o) (hlo : ∀ x, x < lo -> ¬ G x) (hr : RightA A) (hsm : SmA 64 A) (hp : 1 <= A.sl.length) (hroot : 1 <= A.root /\ A.root <= A.sl.length) (hk : ¬ o.kd = 0 /\ ¬ o.kd = 1 /\ ¬ o.kd = 2 /\ ¬ o.kd = 3 /\ ¬ o.kd = 4 /\ ¬ o.kd = 5) : Calls Tryz.prog 10 #[pV b, .agg cs] w λ e w' => e = .returned (.bool true) /\ J w' G b p q (turnM A o) (turnM A o) /\ Keeps G w w' := by
 obtain ⟨kd, a, b', key, val, hi, ch, nd⟩ := o
 obtain ⟨kv, vv, hv, c0, c1, c2, c3, c4, c5, rfl, ⟨hkey, hval, hhi, hnd⟩, ⟨i1, i2, i3⟩, z1, z2, z3, z4⟩ := ho
 simp only at hkey hval hhi hnd i1 i2 i3 z1 z2 z3 z4 hk
 obtain ⟨KA, kc, e1, _, _⟩ := hkey.form
 obtain ⟨VA, vc, e2, _, _⟩ := hval.form
 obtain ⟨HA, hc, e3, _, _⟩ := hhi.form
 subst e1 e2 e3
 obtain ⟨X1, xj1, f1, _, _⟩ := hnd.1.high.form
 obtain ⟨X3, xj3, f3, _, _⟩ := hnd.2.keys.form
 obtain ⟨X4, xj4, f4, _, _⟩ := hnd.2.vals.form
 obtain ⟨X5, xj5, f5, _, _⟩ := hnd.2.kids.form
 have f0 := hnd.1.lvl
 have f2 := hnd.1.right
 unfold iV at f0 f2
 subst f0 f1 f2 f3 f4 f5
 have PA := λ wx => pick13_ (n := (A.sl.length : Int)) wx i2 (by omega)
 obtain ⟨hx1, hx2⟩ := pk_range a (A.sl.length : Int) (by omega)
 have hbd := hJ.bound.1
 have hturn : ∀ T, turnM A ⟨kd, a, b', key, val, hi, ch, nd⟩ = T -> turnM A ⟨kd, a, b', key, val, hi, ch, nd⟩ = T := λ _ h => h
 skip
 obtain ⟨i, hi0⟩ : ∃ i : Nat, pk a (A.sl.length : Int) = (i : Int) := ⟨(pk a (A.sl.length : Int)).toNat, by omega⟩
 obtain ⟨s, hs⟩ : ∃ s, A.get ((i : Int) + 1) = some s := get_in (by omega) (by omega)
 have hm : opNd A ((i : Int) + 1) = s.nd := opNd_some hs
 have hrm : right s.nd = true := by rw [<- hm]; exact nd_of (P := λ n => right n = true) hJ right_zero hr _
 have hsm2 : NdSm 64 s.nd := by rw [<- hm]; exact nd_of (P := λ n => NdSm 64 n) hJ (zero_sm (by decide)) hsm _
 have HTU : Hid (∀ T, turnM A ⟨kd, a, b', key, val, hi, ch, nd⟩ = T -> turnM A ⟨kd, a, b', key, val, hi, ch, nd⟩ = T) := λ _ h => h
 have HAT : Hid (at13 A ⟨kd, a, b', key, val, hi, ch, nd⟩ = (i : Int) /\ nd13 A ⟨kd, a, b', key, val, hi, ch, nd⟩ = s.nd) := by
  have h1 : at13 A ⟨kd, a, b', key, val, hi, ch, nd⟩ = (i : Int) := hi0
  exact ⟨h1, by unfold nd13; rw [h1]; exact hm⟩
 rw [hi0] at PA hx1 hx2
 clear hi0 hm hturn HTU
 have HJ := Hd hJ
 have HKEY := Hd hkey
 have HVAL := Hd hval
 have HND := Hd hnd
 have HZ : Hid (Sm BIG 1 key.length /\ Sm BIG 1 val.length /\ NdSm BIG nd /\ I64 a) := ⟨z1, z2, z4, i2⟩
 have HLO := Hd hlo
 have HRM : Hid (right s.nd = true) := hrm
 have HSM : Hid (NdSm 64 s.nd) := hsm2
 have HS := Hd hs
 have hkl : nd.keys.length < 9223372036854775807 := by have h := z4.2.1.1; unfold Sm at h; omega
 have HKL : Hid (nd.keys.length < 9223372036854775807) := hkl
 clear hJ hkey hval hhi hnd i1 i2 i3 z1 z2 z3 z4 hlo hr hsm hrm hsm2 hs hkl
 have hk0 : (kd == 0) = false := by simpa using hk.1
 have hk1 : (kd == 1) = false := by simpa using hk.2.1
 have hk2 : (kd == 2) = false := by simpa using hk.2.2.1
 have hk3 : (kd == 3) = false := by simpa using hk.2.2.2.1
 have hk4 : (kd == 4) = false := by simpa using hk.2.2.2.2.1
 have hk5 : (kd == 5) = false := by simpa using hk.2.2.2.2.2
 have HK := Hd hk
 clear hk
 unfold pV
 unfold iV at PA
 go_enter Tryz.func10, Tryz.ntmps10
 go_wp2_with fail
 refine code_at (λ w1 hw => ?_)
 have hk : Keeps Nob w w1 := by rw [hw]; exact Keeps.alloc _ _ _
 have HP : Hid (Blk w1 w.heap.size 37 #[.int .i64 kd, .int .i64 a, .int .i64 b', .slice KA key.length kc, .slice VA val.length vc, .slice HA hi.length hc, .bool ch, .int .i64 nd.lvl, .slice X1 nd.high.length xj1, .int .i64 nd.right, .slice X3 nd.keys.length xj3, .slice X4 nd.vals.length xj4, .slice X5 nd.kids.length xj5]) := by show Blk _ _ _ _; rw [hw]; exact Blk.new _ _ _
 clear hw
 replace HKEY := Hd (HKEY.out.keeps hk (λ _ _ _ => id))
 replace HVAL := Hd (HVAL.out.keeps hk (λ _ _ _ => id))
 replace HND := Hd (HND.out.keeps hk (λ _ _ _ => id))
 have K := Hd hk
 clear hk
 obtain ⟨P, hP⟩ : ∃ P, w.heap.size = P := ⟨_, rfl⟩
 rw [hP] at HP ⊢
 have HPW : Hid (w.heap.size = P) := hP
 clear hP
 refine rC_ [0, 1, 2, 3, 4, 5, 6, 7, 8] 7 (λ W => W.cell? ⟨P, 1, none⟩ = some (.int .i64 a)) ?_ ?_
 ·exact HP.out.cell 1
 refine canon_at (λ w2 hw => ?_)
 have hk : Keeps Nob w1 w2 := by rw [hw]; exact Keeps.drew _ _
 clear hw
 replace HKEY := Hd (HKEY.out.keeps hk (λ _ _ _ => id))
 replace HVAL := Hd (HVAL.out.keeps hk (λ _ _ _ => id))
 replace HND := Hd (HND.out.keeps hk (λ _ _ _ => id))
 replace HP := Hd (HP.out.keeps hk id)
 replace K := tr_ K hk
 clear hk
 iterate 5
  refine cR_ (v := ?_) rfl ?_ ?_
  rotate_left
  ·intro W hW
   try (replace hW : World.cell? _ _ = some _ := hW)
   go_simp
   try rfl
  simp only [Act.put, sa_, sb_, sc_]
 have c0 : w2.cell? ⟨b, 1, none⟩ = some (.pointer (some ⟨q, 0, none⟩)) := (HJ.out.nob K.out).blk.cell 1
 refine cA_ rfl ?_
 go_wp2
 refine ⟨.inr (HP.out.cell 1), ?_⟩
 have FU := (HJ.out.nob K.out).usedR
 unfold pV iV at FU
 refine cA_ rfl ?_
 go_wp2_with (go_at_call 16; refine FU.mono ?_; rintro e wk ⟨rfl, rfl⟩)
 refine ⟨.inr (HP.out.cell 1), ?_⟩
 refine cA_ rfl ?_
 go_wp2_with (go_at_call 21; refine (PA _).mono ?_; rintro e wk ⟨rfl, rfl⟩)
 refine ⟨.inl (by kernel_rfl), ?_⟩
 iterate 1
  refine cR_ (v := ?_) rfl ?_ ?_
  rotate_left
  ·intro W hW
   try (replace hW : World.cell? _ _ = some _ := hW)
   go_simp
   try rfl
  simp only [Act.put, sa_, sb_, sc_]
 refine wpCanon_nil ?_
 clear FU PA
 obtain ⟨i', g, o, cc, n0, n1, n2, n3, n4, n5, D, hii, hil, hL, h1, h2, h3, h4, h5, h6, hnd⟩ := (HJ.out.nob K.out).slotY HS.out
 obtain rfl : i = i' := by omega
 generalize hm : s.nd = m at *
 have HM := Hd hm
 clear hm
 obtain ⟨Y1, yj1, f1, _, _⟩ := hnd.1.high.form
 obtain ⟨Y3, yj3, f3, _, _⟩ := hnd.2.keys.form
 obtain ⟨Y4, yj4, f4, _, _⟩ := hnd.2.vals.form
 obtain ⟨Y5, yj5, f5, _, _⟩ := hnd.2.kids.form
 have f0 := hnd.1.lvl
 have f2 := hnd.1.right
 unfold iV at f0 f2
 subst f0 f1 f2 f3 f4 f5
 have HMD := Hd hnd
 have hll : A.sl.length <= 9223372036854775807 := by omega
 have hlt : g < w2.heap.size := World.block_lt_of_cell? _ _ h1
 clear hii hnd
 have lP := HP.out.lt
 have qHP0 := HP.out.cell 0
 have HROOT : Hid (1 <= A.root /\ A.root <= A.sl.length) := hroot
 clear hroot
 have FR : ∀ o, Calls Tryz.prog 42 #[.pointer (some ⟨q, 0, none⟩)] (w2.alloc o) (λ e w' => e = .returned (.int .i64 A.root) /\ w2.alloc o = w') := λ o => (HJ.out.nob (K.out.trans (Keeps.alloc Nob _ o) (λ _ _ h => h))).rootR
 have hb1 : b < w2.heap.size := (HJ.out.nob K.out).blk.lt
 go_wp2_with (first | (go_at_call 42; refine (FR _).mono ?_; rintro e wk ⟨rfl, rfl⟩) | fail)
 clear qHP0
 refine calls_at (λ w3 hw => ?_)
 have hk : Keeps Nob w2 w3 := by rw [hw]; exact Keeps.alloc _ _ _
 have HN : Hid (Blk w3 w2.heap.size 35 #[.int .i64 m.lvl, .slice Y1 m.high.length yj1, .int .i64 m.right, .slice Y3 m.keys.length yj3, .slice Y4 m.vals.length yj4, .slice Y5 m.kids.length yj5]) := by show Blk _ _ _ _; rw [hw]; exact Blk.new _ _ _
 clear hw
 replace HKEY := Hd (HKEY.out.keeps hk (λ _ _ _ => id))
 replace HVAL := Hd (HVAL.out.keeps hk (λ _ _ _ => id))
 replace HND := Hd (HND.out.keeps hk (λ _ _ _ => id))
 replace HP := Hd (HP.out.keeps hk id)
 replace HMD := Hd (HMD.out.keeps hk (λ _ _ _ => id))
 replace K := tr_ K hk
 clear hk
 clear h1 h2 h3 h4 h5 h6 hL lP FR hb1
 have hop : IsOp w3 (λ _ => False) #[.int .i64 6, .int .i64 A.root, .int .i64 ((i : Int) + 1), .int .u64 0, .bool false, .int .i64 0, .slice none 0 0, .int .i64 0, .slice none 0 0, .slice none 0 0, .slice none 0 0] ⟨6, A.root, (i : Int) + 1, 0, false, Nd.zero⟩ := ⟨⟨_, _, _, _, _, _, rfl, IsNd.zero _ _⟩, (by show I64 6; unfold I64; omega), (by have h := HROOT.out; show I64 A.root; unfold I64; omega), (by show I64 ((i : Int) + 1); unfold I64; omega), (by show U64 0; unfold U64; omega), sm_zero⟩
 refine (rawJ (HJ.out.shr K.out (λ _ _ _ h => h)) hop (λ _ h => h.elim)).mono ?_
 rintro e w9 ⟨rfl, hj, hk9⟩
 have HJ9 := Hd hj
 have K9 := Hd hk9
 clear hop hj hk9
 go_wp2
 go_ret
 refine ⟨rfl, ?_, (K.out.mono (λ _ _ h => h.elim)).trans K9.out (λ _ _ h => h.1)⟩
 rw [show turnM A _ = step A ⟨6, A.root, (i : Int) + 1, 0, false, Nd.zero⟩ from by unfold turnM; rw [if_neg HK.out.1, if_neg HK.out.2.1, if_neg HK.out.2.2.1, if_neg HK.out.2.2.2.1, if_neg HK.out.2.2.2.2.1, if_neg HK.out.2.2.2.2.2, HAT.out.1]]
 exact HJ9.out.weaken (λ _ h => h.1)
end
end Go.Proofs.YtbhohohgojcapaaGreat

import Derived.Test.YtbhohohgojcapaaGreatPkA1
import Derived.Test.YtbhohohgojcapaaGreatPkB3
import Derived.Test.YtbhohohgojcapaaGreatPkA8
import Derived.Test.YtbhohohgojcapaaGreatPkA0
namespace Go.Proofs.YtbhohohgojcapaaGreat
open Go.ChangeShapes Go.WideShapes Go.ChangeAt Go.RowKit
set_option maxRecDepth 100000
section
variable {H : Type} {enc : TypeId × Value -> H} {w : World} {base : Nat} {spare : Nat -> Bool} {held : Bool} {fuel : Nat} {cs : List Value} {x : DataW H × List MemPlace}
theorem open_b1 {v : Value} (h : DataW.trod enc Tryz.prog w base spare held fuel 4 [v] = some x) : ∃ b, v = .bool b := by
 obtain ⟨b, e, _⟩ := DataW.trod_bool Tryz.underlying4 h
 injection e with e _
 exact ⟨b, e⟩
theorem i64_of {n : Int} (h : I64_ n) : I64 n := bounds_i64 h
theorem list_of {P : Nat -> OpM -> Prop} : ∀ (n : Nat), (∀ i, i < n -> ∃ x, P i x) -> ∃ ls : List OpM, ls.length = n /\ ∀ (i : Nat) x, ls[i]? = some x -> P i x
 | 0, _ => ⟨[], rfl, λ i x h => by simp at h⟩
 | n + 1, h => by
  obtain ⟨ls, h2, h3⟩ := list_of n (λ i hi => h i (by omega))
  obtain ⟨x, hp⟩ := h n (by omega)
  refine ⟨ls ++ [x], by simp [h2], λ i y hy => ?_⟩
  by_cases hi : i < n
  ·rw [List.getElem?_append_left (by omega)] at hy
   exact h3 i y hy
  ·rw [List.getElem?_append_right (by omega)] at hy
   have e : i = n := by
    rcases hh : i - ls.length with _ | k
    ·omega
    ·rw [hh] at hy; simp at hy
   subst e
   rw [h2, Nat.sub_self] at hy
   cases hy
   exact hp
end
end Go.Proofs.YtbhohohgojcapaaGreat
namespace Go.Proofs.YtbhohohgojcapaaGreat
open Go.ChangeShapes Go.WideShapes Go.ChangeAt Go.RowKit
set_option maxRecDepth 100000
section
variable {H : Type} {enc : TypeId × Value -> H} {w : World} {base : Nat} {spare : Nat -> Bool} {held : Bool} {fuel : Nat} {cs : List Value} {x : DataW H × List MemPlace}
theorem list_of_ {α : Type} {P : Nat -> α -> Prop} : ∀ (n : Nat), (∀ i, i < n -> ∃ x, P i x) -> ∃ ls : List α, ls.length = n /\ ∀ (i : Nat) x, ls[i]? = some x -> P i x
 | 0, _ => ⟨[], rfl, λ i x h => by simp at h⟩
 | n + 1, h => by
  obtain ⟨ls, h2, h3⟩ := list_of_ n (λ i hi => h i (by omega))
  obtain ⟨x, hp⟩ := h n (by omega)
  refine ⟨ls ++ [x], by simp [h2], λ i y hy => ?_⟩
  by_cases hi : i < n
  ·rw [List.getElem?_append_left (by omega)] at hy
   exact h3 i y hy
  ·rw [List.getElem?_append_right (by omega)] at hy
   have e : i = n := by
    rcases hh : i - ls.length with _ | k
    ·omega
    ·rw [hh] at hy; simp at hy
   subst e
   rw [h2, Nat.sub_self] at hy
   cases hy
   exact hp
theorem open_row {α : Type} {R : World -> Nat -> Array Value -> α -> Prop} {v : Value} {s e : TypeId} {k m : Nat} (hu : Tryz.prog.underlying s = some (.slice e)) (hk : Tryz.prog.cellsOf e = k) (hm : Tryz.prog.bytesOf e = m) (hpos : 0 < k) (hmp : 0 < m)
  (hR : ∀ (cs : List Value) (x : DataW H × List MemPlace) fuel, DataW.trod enc Tryz.prog w base spare held fuel e cs = some x -> Sz e x.1 -> ∃ o, R w w.heap.size cs.toArray o /\ cs.length = k)
  (h : DataW.trod enc Tryz.prog w base spare held fuel s [v] = some x) (hsz : Sz s x.1) : ∃ os, RowAt k m R w w.heap.size v os := by
 rcases DataW.trod_slice hu h with ⟨e, _⟩ | ⟨a, len, cap, elems, rest, n, _, e, hx, hb, hlc, hcm, hel, hcells, _, _⟩
 ·injection e with e _
  subst e
  exact ⟨[], none, 0, rfl, Nat.le_refl _, by decide, by simp, λ h => absurd rfl h⟩
 ·injection e with e _
  subst e
  rw [hx] at hsz
  obtain ⟨g1, g2⟩ := sz_slice hsz hu
  rw [hm, reach_eq, List.length_map, hel] at g1
  obtain ⟨os, h2, h3⟩ := list_of_ (P := λ i o => ∃ cs : Array Value, R w w.heap.size cs o /\ cs.size = k /\ ∀ (j : Nat) x, cs[j]? = some x -> w.cell? (a.add (i * k + j)) = some x) len (λ i hi => by
   have := hcells i hi
   rw [hk, List.getElem?_eq_getElem (by omega)] at this
   obtain ⟨us, hus, hd⟩ := Option.bind_eq_some_iff.1 this
   obtain ⟨_, hul, hue⟩ := World.cells?_some hus
   obtain ⟨o, ho, hlen⟩ := hR _ _ _ hd (g2 _ (List.mem_map.2 ⟨_, List.getElem_mem _, rfl⟩))
   refine ⟨o, _, ho, by simpa using hlen, λ j y hy => ?_⟩
   have hj : j < k := by
    have := (Array.getElem?_eq_some_iff.1 hy).1
    simp only [List.size_toArray] at this
    omega
   have := hue j hj
   rw [add_add_] at this
   rw [this]
   simpa using hy)
  refine ⟨os, some a, cap, by rw [h2], by omega, hcm, by rw [h2]; omega, λ hne => ⟨a, rfl, ?_, λ i o ho => ?_⟩⟩
  ·obtain ⟨o, ho⟩ : ∃ o, os[0]? = some o := by cases os with | nil => exact absurd rfl hne | cons o l => exact ⟨o, rfl⟩
   obtain ⟨cs, _, hsz2, hc⟩ := h3 0 o ho
   have := World.block_lt_of_cell? _ _ (hc 0 _ (Array.getElem?_eq_getElem (by omega)))
   rwa [blk_add] at this
  ·obtain ⟨cs, h4, _, h5⟩ := h3 i o ho
   exact ⟨cs, h4, h5⟩
end
end Go.Proofs.YtbhohohgojcapaaGreat

set_option maxHeartbeats 64000000
namespace Go.Proofs.YtbhohohgojcapaaGreat
open Go.RowKit
def Rise (l : List (List UInt8)) : Prop := ∀ (j : Nat) a b, l[j]? = some a -> l[j + 1]? = some b -> cmp a b < 0
def rises : List (List UInt8) -> Bool
 | [] => true
 | [_] => true
 | a :: b :: l => decide (cmp a b < 0) && rises (b :: l)
theorem rises_iff : ∀ (l : List (List UInt8)), rises l = true ↔ Rise l
 | [] => ⟨λ _ j a b h => by simp at h, λ _ => rfl⟩
 | [_] => ⟨λ _ j a b _ h => by simp at h, λ _ => rfl⟩
 | a :: b :: l => by
  unfold rises
  rw [Bool.and_eq_true, decide_eq_true_eq, rises_iff (b :: l)]
  constructor
  ·rintro ⟨h1, h2⟩ j x y hx hy
   cases j with
   | zero => simp at hx hy; subst hx hy; exact h1
   | succ j => exact h2 j x y (by simpa using hx) (by simpa using hy)
  ·intro h
   exact ⟨h 0 a b rfl rfl, λ j x y hx hy => h (j + 1) x y (by simpa using hx) (by simpa using hy)⟩
section
variable {S T : Nat -> Prop} {w : World} {a : Value} {ls : List (List UInt8)}
set_option maxRecDepth 100000 in
theorem risesR (h1 : Txts w S a ls) : Calls Tryz.prog 73 #[a] w λ e w' => e = .returned (.bool (rises ls)) /\ Keeps Nob w w' := by
 obtain ⟨A, c, rfl, hn1, hm1⟩ := h1.form
 have hz1 : ls.length <= 9223372036854775807 := Nat.le_trans hn1 hm1
 have H1 := Hd h1
 clear h1 hn1 hm1
 go_enter Tryz.func73, Tryz.ntmps73
 go_wp2
 go_loopw [3] (λ i wr => ∃ k m : Nat, Hid (k = m + 1) /\ (k <= ls.length \/ m = 0) /\ i = .int .i64 k /\ (∀ (j : Nat) a b, j < m -> ls[j]? = some a -> ls[j + 1]? = some b -> cmp a b < 0) /\ Keeps Nob w wr) (λ i _ => ls.length + 1 - (intOf i).toNat)
 case atStart => exact ⟨1, 0, rfl, .inr rfl, rfl, λ j a b h => by omega, Keeps.refl _ _⟩
 case round =>
  obtain ⟨k, m, HKM, hkl, rfl, hup, hK⟩ := hrel
  have HU := Hd hup
  have HK := Hd hK
  clear hup hK
  by_cases hlt : k < ls.length
  ·have hml : m < ls.length := by have : k = m + 1 := HKM; omega
   have hkm : (k : Int) - 1 = (m : Int) := by have : k = m + 1 := HKM; omega
   have hwr : IntKind.i64.wrap (m : Int) = (m : Int) := by simp [IntKind.wrap, IntKind.bits, IntKind.signed]; omega
   obtain ⟨x, hx⟩ : ∃ x, ls[m]? = some x := ⟨_, List.getElem?_eq_getElem hml⟩
   obtain ⟨y, hy⟩ : ∃ y, ls[k]? = some y := ⟨_, List.getElem?_eq_getElem hlt⟩
   obtain ⟨ad, rfl, _, hc⟩ := H1.out.cells hlt
   obtain ⟨u, hu, hbu⟩ := hc m x hx
   obtain ⟨v, hv, hbv⟩ := hc k y hy
   have hu' : wr.cell? (ad.add m) = some u := HK.out.cell hu id
   have hv' : wr.cell? (ad.add k) = some v := HK.out.cell hv id
   have HX := Hd hx
   have HY := Hd hy
   have HC := Hd (cmpR ((hbu.keeps HK.out (λ _ _ _ => id)).keeps (Keeps.drew Nob wr) (λ _ _ _ => id)) ((hbv.keeps HK.out (λ _ _ _ => id)).keeps (Keeps.drew Nob wr) (λ _ _ _ => id)))
   clear hc hu hv hbu hbv hx hy
   go_wp2
   refine rC_ [0, 1, 2, 3, 4, 5, 6, 7, 8, 9, 10] 99 (λ W => W.cell? (ad.add m) = some u /\ W.cell? (ad.add k) = some v) ⟨hu', hv'⟩ ?_
   iterate 2
    refine cR_ (v := ?_) rfl ?_ ?_
    rotate_left
    ·intro W hW
     try (obtain ⟨h1, h2⟩ : _ /\ _ := hW)
     go_simp
     try rfl
    simp only [Act.put, sa_, sb_, sc_]
   refine wpCanon_read (v := .int .i64 (m : Int)) rfl (by kernel_rfl) (by rfl) ?_ ?_
   ·intro W hW
    go_simp
    try (first | rfl | exact hwr | (rw [hwr]))
   simp only [Act.put, sa_, sb_, sc_]
   iterate 6
    refine cR_ (v := ?_) rfl ?_ ?_
    rotate_left
    ·intro W hW
     try (obtain ⟨h1, h2⟩ : _ /\ _ := hW)
     go_simp
     try rfl
    simp only [Act.put, sa_, sb_, sc_]
   refine cA_ rfl ?_
   rcases cmp_cases x y with hcm | hcm | hcm
   all_goals
    have HCM := Hd hcm
    clear hcm
    go_wp2_with (go_at_call 102; refine HC.out.mono ?_; rintro e w1 ⟨rfl, hk1⟩; have HK1 := Hd ((Keeps.drew Nob wr).trans hk1 (λ _ _ h => h)); clear hk1; rw [HCM.out])
    refine ⟨.inr ⟨HK1.out.cell hu' id, HK1.out.cell hv' id⟩, ?_⟩
    refine cR_ (v := ?_) rfl ?_ ?_
    rotate_left
    ·intro W hW
     go_simp
     try rfl
    simp only [Act.put, sa_, sb_, sc_]
    refine wpCanon_nil ?_
    go_wp2
   ·go_roundw
    case rel =>
     refine ⟨k + 1, k, rfl, by omega, by go_num, λ j a b hj ha hb => ?_, HK.out.trans HK1.out (λ _ _ h => h)⟩
     by_cases hjm : j < m
     ·exact HU.out j a b hjm ha hb
     ·have hkm2 : k = m + 1 := HKM
      have : j = m := by omega
      subst this
      have e1 := ha.symm.trans HX.out
      have e2 : ls[j + 1]? = some y := by rw [<- hkm2]; exact HY.out
      have e3 := hb.symm.trans e2
      injection e1 with e1
      injection e3 with e3
      subst e1 e3
      rw [HCM.out]
      decide
    case measure => simp [intOf]; omega
   all_goals
    go_ret
    refine ⟨?_, HK.out.trans HK1.out (λ _ _ h => h)⟩
    have : rises ls = false := by
     rcases hr : rises ls with _ | _
     ·rfl
     ·have hkm2 : k = m + 1 := HKM
      have := (rises_iff ls).1 hr m x y HX.out (by rw [<- hkm2]; exact HY.out)
      rw [HCM.out] at this
      exact absurd this (by decide)
    rw [this]; rfl
  ·go_wp2
   go_ret
   refine ⟨?_, HK.out⟩
   have hkm2 : k = m + 1 := HKM
   have : rises ls = true := (rises_iff ls).2 (λ j a b ha hb => HU.out j a b (by have := (List.getElem?_eq_some_iff.1 hb).1; omega) ha hb)
   rw [this]; rfl
theorem beq_nat (a b : Nat) : ((a : Int) == (b : Int)) = decide (a = b) := by
 by_cases h : a = b
 ·simp [h]
 ·rw [decide_eq_false h, beq_eq_false_iff_ne]; omega
def right (n : Nd) : Bool := if n.lvl = 0 then rises n.keys && (decide (n.vals.length = n.keys.length) && decide (n.kids.length = 0)) else rises n.keys && (decide (0 < n.lvl) && (decide (n.vals.length = 0) && decide (n.kids.length = n.keys.length + 1)))
def leaf (n : Nd) : Bool := right n && decide (n.lvl = 0)
def inner (n : Nd) : Bool := right n && decide (0 < n.lvl)
variable {c0 c1 c2 c3 c4 c5 : Value} {n : Nd}
set_option maxRecDepth 100000 in
theorem rightR (h : IsNd w S c0 c1 c2 c3 c4 c5 n) (hs : n.keys.length < 9223372036854775807) : Calls Tryz.prog 36 #[.agg #[c0, c1, c2, c3, c4, c5]] w λ e w' => e = .returned (.bool (right n)) /\ Keeps Nob w w' := by
 obtain ⟨A3, k3, e3, _, _⟩ := h.2.keys.form
 obtain ⟨A4, k4, e4, _, _⟩ := h.2.vals.form
 obtain ⟨A5, k5, e5, _, _⟩ := h.2.kids.form
 have e0 := h.1.lvl
 have hz3 : n.keys.length <= 9223372036854775807 := by obtain ⟨_, _, _, p, q⟩ := h.2.keys.form; exact Nat.le_trans p q
 have hz5 : n.kids.length <= 9223372036854775807 := by obtain ⟨_, _, _, p, q⟩ := h.2.kids.form; exact Nat.le_trans p q
 subst e0 e3 e4 e5
 unfold iV
 have H := Hd h
 have HS := Hd hs
 clear h hs
 generalize hr : right n = r
 have HR := Hd hr
 clear hr
 obtain ⟨rs, hrs⟩ : ∃ r, rises n.keys = r := ⟨_, rfl⟩
 have HRS := Hd hrs
 clear hrs
 go_enter Tryz.func36, Tryz.ntmps36
 go_wp2_with fail
 refine calls_at (λ wa hwa => ?_)
 have BA : Blk wa w.heap.size 35 #[.int .i64 n.lvl, c1, c2, .slice A3 n.keys.length k3, .slice A4 n.vals.length k4, .slice A5 n.kids.length k5] := by rw [hwa]; exact Blk.new _ _ _
 have hka : Keeps Nob w wa := by rw [hwa]; exact Keeps.alloc _ w _
 clear hwa
 refine (risesR (H.out.2.keys.keeps hka (λ _ _ _ => id))).mono ?_
 rintro e w1 ⟨rfl, hK⟩
 rw [HRS.out]
 have q := λ i => (BA.keeps hK id).cell i
 have K1 := Hd (hka.trans hK (λ _ _ h => h))
 clear BA hka hK
 obtain ⟨b1, hb1⟩ : ∃ b, decide (n.vals.length = n.keys.length) = b := ⟨_, rfl⟩
 obtain ⟨b2, hb2⟩ : ∃ b, decide (n.kids.length = 0) = b := ⟨_, rfl⟩
 obtain ⟨b3, hb3⟩ : ∃ b, decide (0 < n.lvl) = b := ⟨_, rfl⟩
 obtain ⟨b4, hb4⟩ : ∃ b, decide (n.vals.length = 0) = b := ⟨_, rfl⟩
 obtain ⟨b5, hb5⟩ : ∃ b, decide (n.kids.length = n.keys.length + 1) = b := ⟨_, rfl⟩
 have d1 := (beq_nat n.vals.length n.keys.length).trans hb1
 have d2 := (beq_nat n.kids.length 0).trans hb2
 have d4 := (beq_nat n.vals.length 0).trans hb4
 have d5 := (beq_nat n.kids.length (n.keys.length + 1)).trans hb5
 have hz6 : n.keys.length < 9223372036854775807 := HS.out
 have HB := Hd (And.intro hb1 (And.intro hb2 (And.intro hb3 (And.intro hb4 hb5))))
 have d3 := hb3
 rw [Int.natCast_add, Int.natCast_one] at d5
 simp only [Int.natCast_zero] at d2 d4
 clear hb1 hb2 hb3 hb4 hb5
 by_cases hl0 : n.lvl = 0
 ·have t0 : (n.lvl == 0) = true := by simp [hl0]
  have HL := Hd hl0
  clear hl0 d3 d4 d5
  cases rs <;> cases b1 <;> cases b2
  all_goals
   go_wp2
   go_ret
   refine ⟨?_, K1.out⟩
   rw [<- HR.out]
   unfold right
   rw [if_pos HL.out, HRS.out, HB.out.1, HB.out.2.1]
   rfl
 ·have t0 : (n.lvl == 0) = false := by simp [hl0]
  have HL := Hd hl0
  clear hl0 d1 d2
  cases rs <;> cases b3 <;> cases b4 <;> cases b5
  all_goals
   go_wp2
   go_ret
   refine ⟨?_, K1.out⟩
   rw [<- HR.out]
   unfold right
   rw [if_neg HL.out, HRS.out, HB.out.2.2.1, HB.out.2.2.2.1, HB.out.2.2.2.2]
   rfl
end
end Go.Proofs.YtbhohohgojcapaaGreat

namespace Go.Proofs.YtbhohohgojcapaaGreat
open Go.RowKit
def below (l : List (List UInt8)) (k : List UInt8) : Nat := l.countP (λ x => decide (cmp x k < 0))
def has (l : List (List UInt8)) (k : List UInt8) : Bool := l.any (λ x => cmp x k == 0)
theorem below_le (l k) : below l k <= l.length := List.countP_le_length
theorem below_take (l : List (List UInt8)) (k : List UInt8) (n : Nat) : below (l.take n) k <= n := Nat.le_trans (below_le _ _) (List.length_take_le _ _)
theorem below_succ {l : List (List UInt8)} {k x : List UInt8} {n : Nat} (h : l[n]? = some x) : below (l.take (n + 1)) k = below (l.take n) k + if cmp x k < 0 then 1 else 0 := by
 rw [List.take_add_one, h]
 unfold below
 rw [List.countP_append]
 simp [List.countP_cons]
theorem has_succ {l : List (List UInt8)} {k x : List UInt8} {n : Nat} (h : l[n]? = some x) : has (l.take (n + 1)) k = (has (l.take n) k || cmp x k == 0) := by
 rw [List.take_add_one, h]
 unfold has
 rw [List.any_append]
 simp
end Go.Proofs.YtbhohohgojcapaaGreat

namespace Go.Proofs.YtbhohohgojcapaaGreat
open Go.RowKit
theorem cmp_cons (x y : UInt8) (l m : List UInt8) : cmp (x :: l) (y :: m) = if x < y then -1 else if y < x then 1 else cmp l m := by
 show Lib.compareBytes (x :: l) (y :: m) = _
 conv => lhs; unfold Lib.compareBytes
theorem cmp_lt_trans : ∀ (a b c : List UInt8), cmp a b < 0 -> cmp b c < 0 -> cmp a c < 0
 | [], [], _, h, _ => absurd h (by decide)
 | [], _ :: _, [], _, h => absurd h (by show ¬ (1 : Int) < 0; decide)
 | [], _ :: _, _ :: _, _, _ => by show (-1 : Int) < 0; decide
 | _ :: _, [], _, h, _ => absurd h (by show ¬ (1 : Int) < 0; decide)
 | _ :: _, _ :: _, [], _, h => absurd h (by show ¬ (1 : Int) < 0; decide)
 | x :: a, y :: b, z :: c, h1, h2 => by
  rw [cmp_cons] at h1 h2 ⊢
  by_cases hxy : x < y
  ·by_cases hyz : y < z
   ·rw [if_pos (UInt8.lt_trans hxy hyz)]; decide
   ·rw [if_neg hyz] at h2
    by_cases hzy : z < y
    ·rw [if_pos hzy] at h2; exact absurd h2 (by decide)
    ·have : y = z := UInt8.le_antisymm (UInt8.not_lt.1 hzy) (UInt8.not_lt.1 hyz)
     subst this
     rw [if_pos hxy]; decide
  ·rw [if_neg hxy] at h1
   by_cases hyx : y < x
   ·rw [if_pos hyx] at h1; exact absurd h1 (by decide)
   ·have : x = y := UInt8.le_antisymm (UInt8.not_lt.1 hyx) (UInt8.not_lt.1 hxy)
    subst this
    rw [if_neg hyx] at h1
    by_cases hxz : x < z
    ·rw [if_pos hxz]; decide
    ·rw [if_neg hxz] at h2 ⊢
     by_cases hzx : z < x
     ·rw [if_pos hzx] at h2; exact absurd h2 (by decide)
     ·rw [if_neg hzx] at h2 ⊢
      exact cmp_lt_trans a b c h1 h2
theorem cmp_gt {a b : List UInt8} (h : cmp a b < 0) : ¬ cmp b a < 0 /\ cmp b a ≠ 0 := by
 refine ⟨λ h2 => ?_, λ h2 => ?_⟩
 ·have := cmp_lt_trans a b a h h2
  rw [cmp_self] at this
  exact absurd this (by decide)
 ·have := cmp_zero b a h2
  subst this
  rw [cmp_self] at h
  exact absurd h (by decide)
theorem rise_lt {l : List (List UInt8)} (h : Rise l) (i : Nat) {a : List UInt8} (ha : l[i]? = some a) : ∀ (d : Nat) b, l[i + 1 + d]? = some b -> cmp a b < 0
 | 0, b, hb => h i a b ha hb
 | d + 1, b, hb => by
  have hlt : i + 1 + d < l.length := by have := (List.getElem?_eq_some_iff.1 hb).1; omega
  have hc : l[i + 1 + d]? = some l[i + 1 + d] := List.getElem?_eq_getElem hlt
  exact cmp_lt_trans _ _ _ (rise_lt h i ha d _ hc) (h (i + 1 + d) _ _ hc (by rw [<- hb]; congr 1))
theorem rise_lt' {l : List (List UInt8)} (h : Rise l) {i j : Nat} {a b : List UInt8} (hij : i < j) (ha : l[i]? = some a) (hb : l[j]? = some b) : cmp a b < 0 :=
 rise_lt h i ha (j - (i + 1)) b (by rw [show i + 1 + (j - (i + 1)) = j by omega]; exact hb)
theorem has_at {l : List (List UInt8)} {key : List UInt8} (h : has l key = true) : ∃ j : Nat, l[j]? = some key := by
 unfold has at h
 rw [List.any_eq_true] at h
 obtain ⟨x, hx, hc⟩ := h
 have h0 : cmp x key = 0 := by simpa using hc
 have := cmp_zero x key h0
 subst this
 exact List.getElem?_of_mem hx
theorem below_at {l : List (List UInt8)} {key : List UInt8} (h : Rise l) {j : Nat} (hj : l[j]? = some key) : below l key = j := by
 have hlt : j < l.length := (List.getElem?_eq_some_iff.1 hj).1
 unfold below
 rw [<- List.take_append_drop j l, List.countP_append]
 have h1 : (l.take j).countP (λ x => decide (cmp x key < 0)) = j := by
  have e : (l.take j).length = j := by rw [List.length_take]; omega
  rw [List.countP_eq_length.2 (λ x hx => ?_), e]
  obtain ⟨i, hi⟩ := List.getElem?_of_mem hx
  rw [List.getElem?_take] at hi
  split at hi
  ·rename_i hij
   exact decide_eq_true (rise_lt' h hij hi hj)
  ·cases hi
 have h2 : (l.drop j).countP (λ x => decide (cmp x key < 0)) = 0 := by
  refine List.countP_eq_zero.2 (λ x hx => ?_)
  obtain ⟨i, hi⟩ := List.getElem?_of_mem hx
  rw [List.getElem?_drop] at hi
  by_cases h0 : i = 0
  ·subst h0
   rw [Nat.add_zero, hj] at hi
   cases hi
   rw [cmp_self]; decide
  ·have := (cmp_gt (rise_lt' h (show j < j + i by omega) hj hi)).1
   simpa using this
 rw [h1, h2, Nat.add_zero]
theorem at_below {l : List (List UInt8)} {key : List UInt8} (h : Rise l) (hh : has l key = true) : l[below l key]? = some key := by
 obtain ⟨j, hj⟩ := has_at hh
 rw [below_at h hj]; exact hj
end Go.Proofs.YtbhohohgojcapaaGreat

namespace Go.Proofs.YtbhohohgojcapaaGreat
theorem then_at {K : Act -> World -> Prop} {Q : Exit -> Act -> World -> Prop} {e : Exit} {a : Act} {w : World} (h : ∀ w', w' = w -> Exit.then K Q e a w') : Exit.then K Q e a w := h w rfl
end Go.Proofs.YtbhohohgojcapaaGreat

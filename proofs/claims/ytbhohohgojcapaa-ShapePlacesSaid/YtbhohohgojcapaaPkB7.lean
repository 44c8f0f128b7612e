import Derived.Test.YtbhohohgojcapaaPkB6
import Derived.Maps.OwnOps
import Derived.Maps.Views
namespace Go.Proofs.Ytbhohohgojcapaa
open Go.RowKit

section
variable {S T : Nat → Prop} {w : World} {a : Value} {ls : List (List UInt8)}

def keyBad (high x : List UInt8) : Bool := !(decide ((1 : Int) ≤ (x.length : Int) ∧ (x.length : Int) ≤ 64)) || beyond high x
def valBad (x : List UInt8) : Bool := decide ((256 : Int) < (x.length : Int))

set_option maxRecDepth 100000 in
theorem keyF {B : Nat} {c0 c1 c2 c3 c4 c5 u : Value} {high x : List UInt8} (hb : Blk w B 37 #[c0, c1, c2, c3, c4, c5]) (h1 : Byts w S c1 high) (h2 : Byts w T u x) :
    Calls Try.prog 131 #[u, .pointer (some ⟨B, 0, none⟩)] w fun e w' => e = .returned (.bool (keyBad high x)) ∧ Keeps Nob w w' := by
  obtain ⟨A, c, rfl, hn, hm⟩ := h2.form
  have hz : x.length ≤ 9223372036854775807 := Nat.le_trans hn hm
  have HC := Lib.hid (beyondP (c0 := c0) (c2 := c2) (c3 := c3) (c4 := c4) (c5 := c5) h1 h2)
  unfold keyBad
  obtain ⟨b1, hb1⟩ : ∃ b, decide ((1 : Int) ≤ (x.length : Int) ∧ (x.length : Int) ≤ 64) = b := ⟨_, rfl⟩
  obtain ⟨b2, hb2⟩ : ∃ b, beyond high x = b := ⟨_, rfl⟩
  rw [hb1, hb2]
  have HB1 := Lib.hid hb1
  have HB2 := Lib.hid hb2
  have q := fun i => hb.cell i
  clear hb1 hb2 h1 h2 hb hn hm
  cases b1 <;> cases b2
  all_goals
    go_enter Try.func131, Try.ntmps131
    go_wp2_with (first
      | (go_at_call 121; refine (betweenP _ _ _ _).mono ?_; rintro e w1 ⟨rfl, rfl⟩; rw [HB1.out])
      | (go_at_call 132; refine HC.out.mono ?_; rintro e w1 ⟨rfl, hk⟩; have HK := Lib.hid hk; clear hk; rw [HB2.out]))
    go_ret
    first
      | exact ⟨rfl, HK.out⟩
      | exact ⟨rfl, Keeps.refl _ _⟩

theorem valF {u : Value} {x : List UInt8} (h2 : Byts w T u x) :
    Calls Try.prog 138 #[u] w fun e w' => e = .returned (.bool (valBad x)) ∧ Keeps Nob w w' := by
  obtain ⟨A, c, rfl, hn, hm⟩ := h2.form
  clear h2
  unfold valBad
  obtain ⟨b1, hb1⟩ : ∃ b, decide ((256 : Int) < (x.length : Int)) = b := ⟨_, rfl⟩
  rw [hb1]
  cases b1
  all_goals
    go_enter Try.func138, Try.ntmps138
    go_wp2
    go_ret
    exact ⟨rfl, Keeps.refl _ _⟩

set_option maxRecDepth 100000 in
set_option maxHeartbeats 1000000 in
theorem indexC {q : Option Addr} {p : List UInt8 → Bool} (h : Txts w S a ls) (hp : ∀ W u x, Keeps Nob w W → Byts W S u x → Calls Try.prog 131 #[u, .pointer q] W fun e w' => e = .returned (.bool (p x)) ∧ Keeps Nob W w') :
    Calls Try.prog 137 #[a, .func (.func 131) #[] #[.pointer q]] w fun e w' => ∃ r : Int, e = .returned (.int .i64 r) ∧ decide (0 ≤ r) = ls.any p ∧ Keeps Nob w w' := by
  obtain ⟨A, c, rfl, hn, hm⟩ := h.form
  have hz : ls.length ≤ 9223372036854775807 := Nat.le_trans hn hm
  have H := Lib.hid h
  have HP := Lib.hid hp
  clear h hp hn hm
  go_enter Try.func137, Try.ntmps137
  go_wp2
  go_loopw [8] (fun i wr => ∃ k : Nat, k ≤ ls.length ∧ i = .int .i64 k ∧ (ls.take k).any p = false ∧ Keeps Nob w wr) (fun i _ => ls.length - (intOf i).toNat)
  case atStart => exact ⟨0, Nat.zero_le _, rfl, rfl, Keeps.refl _ _⟩
  obtain ⟨k, hk, rfl, hany, hK⟩ := hrel
  have HA := Lib.hid hany
  have HK := Lib.hid hK
  clear hany hK
  rcases Nat.lt_or_ge k ls.length with hlt | hlt
  · obtain ⟨x, hx⟩ : ∃ x, ls[k]? = some x := ⟨_, List.getElem?_eq_getElem hlt⟩
    obtain ⟨ad, rfl, _, hc⟩ := H.out.cells hlt
    obtain ⟨u, hu, hbu⟩ := hc k x hx
    have hu' : wr.cell? (ad.add k) = some u := HK.out.cell hu id
    have HC := Lib.hid (HP.out wr u x HK.out (hbu.keeps HK.out (fun _ _ _ => id)))
    have HX := Lib.hid hx
    clear hc hu hbu hx
    obtain ⟨b, hb⟩ : ∃ b, p x = b := ⟨_, rfl⟩
    have HB := Lib.hid hb
    clear hb
    cases b
    · go_wp2_with (go_at_call 131; refine HC.out.mono ?_; rintro e w1 ⟨rfl, hk1⟩; have HK1 := Lib.hid hk1; clear hk1; rw [HB.out])
      go_roundw
      case rel => exact ⟨k + 1, by omega, by go_num, by rw [List.take_add_one, HX.out, List.any_append, HA.out]; simp [HB.out], HK.out.trans HK1.out (fun _ _ h => h)⟩
      case measure => simp [intOf]; omega
    · go_wp2_with (go_at_call 131; refine HC.out.mono ?_; rintro e w1 ⟨rfl, hk1⟩; have HK1 := Lib.hid hk1; clear hk1; rw [HB.out])
      go_ret
      refine ⟨k, rfl, ?_, HK.out.trans HK1.out (fun _ _ h => h)⟩
      have : ls.any p = true := List.any_eq_true.2 ⟨x, List.mem_of_getElem? HX.out, HB.out⟩
      rw [this]
      exact decide_eq_true (by omega)
  · obtain rfl : k = ls.length := by omega
    go_wp2
    go_ret
    refine ⟨-1, rfl, ?_, HK.out⟩
    have h := HA.out
    rw [List.take_length] at h
    rw [h]; rfl

set_option maxRecDepth 100000 in
theorem containsC {q : Option Addr} {p : List UInt8 → Bool} (h : Txts w S a ls) (hp : ∀ W u x, Keeps Nob w W → Byts W S u x → Calls Try.prog 131 #[u, .pointer q] W fun e w' => e = .returned (.bool (p x)) ∧ Keeps Nob W w') :
    Calls Try.prog 130 #[a, .func (.func 131) #[] #[.pointer q]] w fun e w' => e = .returned (.bool (ls.any p)) ∧ Keeps Nob w w' := by
  have HC := Lib.hid (indexC h hp)
  clear h hp
  go_enter Try.func130, Try.ntmps130
  go_wp2_with (go_at_call 137; refine HC.out.mono ?_; rintro e w1 ⟨r, rfl, hr, hk1⟩; have HR := Lib.hid hr; have HK1 := Lib.hid hk1; clear hk1 hr)
  go_ret
  refine ⟨?_, HK1.out⟩
  rw [← HR.out]; rfl

set_option maxRecDepth 100000 in
set_option maxHeartbeats 1000000 in
theorem indexL {p : List UInt8 → Bool} (h : Txts w S a ls) (hp : ∀ W u x, Keeps Nob w W → Byts W S u x → Calls Try.prog 138 #[u] W fun e w' => e = .returned (.bool (p x)) ∧ Keeps Nob W w') :
    Calls Try.prog 137 #[a, .func (.func 138) #[] #[]] w fun e w' => ∃ r : Int, e = .returned (.int .i64 r) ∧ decide (0 ≤ r) = ls.any p ∧ Keeps Nob w w' := by
  obtain ⟨A, c, rfl, hn, hm⟩ := h.form
  have hz : ls.length ≤ 9223372036854775807 := Nat.le_trans hn hm
  have H := Lib.hid h
  have HP := Lib.hid hp
  clear h hp hn hm
  go_enter Try.func137, Try.ntmps137
  go_wp2
  go_loopw [8] (fun i wr => ∃ k : Nat, k ≤ ls.length ∧ i = .int .i64 k ∧ (ls.take k).any p = false ∧ Keeps Nob w wr) (fun i _ => ls.length - (intOf i).toNat)
  case atStart => exact ⟨0, Nat.zero_le _, rfl, rfl, Keeps.refl _ _⟩
  obtain ⟨k, hk, rfl, hany, hK⟩ := hrel
  have HA := Lib.hid hany
  have HK := Lib.hid hK
  clear hany hK
  rcases Nat.lt_or_ge k ls.length with hlt | hlt
  · obtain ⟨x, hx⟩ : ∃ x, ls[k]? = some x := ⟨_, List.getElem?_eq_getElem hlt⟩
    obtain ⟨ad, rfl, _, hc⟩ := H.out.cells hlt
    obtain ⟨u, hu, hbu⟩ := hc k x hx
    have hu' : wr.cell? (ad.add k) = some u := HK.out.cell hu id
    have HC := Lib.hid (HP.out wr u x HK.out (hbu.keeps HK.out (fun _ _ _ => id)))
    have HX := Lib.hid hx
    clear hc hu hbu hx
    obtain ⟨b, hb⟩ : ∃ b, p x = b := ⟨_, rfl⟩
    have HB := Lib.hid hb
    clear hb
    cases b
    · go_wp2_with (go_at_call 138; refine HC.out.mono ?_; rintro e w1 ⟨rfl, hk1⟩; have HK1 := Lib.hid hk1; clear hk1; rw [HB.out])
      go_roundw
      case rel => exact ⟨k + 1, by omega, by go_num, by rw [List.take_add_one, HX.out, List.any_append, HA.out]; simp [HB.out], HK.out.trans HK1.out (fun _ _ h => h)⟩
      case measure => simp [intOf]; omega
    · go_wp2_with (go_at_call 138; refine HC.out.mono ?_; rintro e w1 ⟨rfl, hk1⟩; have HK1 := Lib.hid hk1; clear hk1; rw [HB.out])
      go_ret
      refine ⟨k, rfl, ?_, HK.out.trans HK1.out (fun _ _ h => h)⟩
      have : ls.any p = true := List.any_eq_true.2 ⟨x, List.mem_of_getElem? HX.out, HB.out⟩
      rw [this]
      exact decide_eq_true (by omega)
  · obtain rfl : k = ls.length := by omega
    go_wp2
    go_ret
    refine ⟨-1, rfl, ?_, HK.out⟩
    have h := HA.out
    rw [List.take_length] at h
    rw [h]; rfl

set_option maxRecDepth 100000 in
theorem containsL {p : List UInt8 → Bool} (h : Txts w S a ls) (hp : ∀ W u x, Keeps Nob w W → Byts W S u x → Calls Try.prog 138 #[u] W fun e w' => e = .returned (.bool (p x)) ∧ Keeps Nob W w') :
    Calls Try.prog 130 #[a, .func (.func 138) #[] #[]] w fun e w' => e = .returned (.bool (ls.any p)) ∧ Keeps Nob w w' := by
  have HC := Lib.hid (indexL h hp)
  clear h hp
  go_enter Try.func130, Try.ntmps130
  go_wp2_with (go_at_call 137; refine HC.out.mono ?_; rintro e w1 ⟨r, rfl, hr, hk1⟩; have HR := Lib.hid hr; have HK1 := Lib.hid hk1; clear hk1 hr)
  go_ret
  refine ⟨?_, HK1.out⟩
  rw [← HR.out]; rfl
end
end Go.Proofs.Ytbhohohgojcapaa

namespace Go.Proofs.Ytbhohohgojcapaa
open Go.RowKit Go.Maps

def leafOk (n : Nd) (leaf : Int) : Bool := decide (n.vals.length = n.keys.length) && (decide ((n.keys.length : Int) ≤ leaf) && (decide (n.kids.length = 0) && !(n.vals.any valBad)))
def kidsFine (l : List Int) (nodes : Int) : Bool := decide (l.Nodup) && l.all (fun k => decide (1 ≤ k ∧ k ≤ nodes))
def innerOk (n : Nd) (nodes inner : Int) : Bool := kidsFine n.kids nodes && (decide (n.vals.length = 0) && (decide (n.kids.length = n.keys.length + 1) && decide ((n.kids.length : Int) ≤ inner)))

def K64 (n : Int) : Prop := (Lit.int .i64 n).wf = true

section
variable {S T : Nat → Prop} {w : World} {c0 c1 c2 c3 c4 c5 : Value} {n : Nd}

set_option maxRecDepth 100000 in
set_option maxHeartbeats 1000000 in
theorem leafP {a0 a1 a2 a3 a4 : Int} (h : IsNd w S c0 c1 c2 c3 c4 c5 n) : Calls Try.prog 134 #[.agg #[c0, c1, c2, c3, c4, c5], .agg #[.int .i64 a0, .int .i64 a1, .int .i64 a2, .int .i64 a3, .int .i64 a4]] w fun e w' => e = .returned (.bool (leafOk n a1)) ∧ Keeps Nob w w' := by
  obtain ⟨X1, k1, e1, _, _⟩ := h.1.high.form
  obtain ⟨X3, k3, e3, y3, z3⟩ := h.2.keys.form
  obtain ⟨X4, k4, e4, y4, z4⟩ := h.2.vals.form
  obtain ⟨X5, k5, e5, y5, z5⟩ := h.2.kids.form
  have e0 := h.1.lvl
  have e2 := h.1.right
  unfold iV at e0 e2
  subst e0 e1 e2 e3 e4 e5
  have HN0 := Lib.hid h
  clear h y3 y4 y5 z3 z4 z5
  unfold leafOk
  obtain ⟨b, hb⟩ : ∃ b, n.vals.any valBad = b := ⟨_, rfl⟩
  rw [hb]
  have HB := Lib.hid hb
  clear hb
  have PRE : ∀ (wa : World), Keeps Nob w wa → Calls Try.prog 130 #[.slice X4 n.vals.length k4, .func (.func 138) #[] #[]] wa fun e w' => e = .returned (.bool b) ∧ Keeps Nob wa w' := fun wa hk => by
    have := containsL (p := valBad) (HN0.out.keeps hk (fun _ _ _ => id)).2.vals (fun W u x hkW hx => valF hx)
    rwa [HB.out] at this
  clear HN0 HB
  obtain ⟨bA, hA⟩ : ∃ b, ((n.vals.length : Int) == (n.keys.length : Int)) = b := ⟨_, rfl⟩
  obtain ⟨bB, hB⟩ : ∃ b, decide ((n.keys.length : Int) ≤ a1) = b := ⟨_, rfl⟩
  obtain ⟨bC, hC⟩ : ∃ b, ((n.kids.length : Int) == 0) = b := ⟨_, rfl⟩
  have eA : decide (n.vals.length = n.keys.length) = bA := by rw [← hA]; apply Bool.eq_iff_iff.2; simp; omega
  have eC : decide (n.kids.length = 0) = bC := by rw [← hC]; apply Bool.eq_iff_iff.2; simp
  rw [eA, hB, eC]
  clear eA eC
  have HAH := Lib.hid hA
  have HBH := Lib.hid hB
  have HCH := Lib.hid hC
  clear hA hB hC
  cases bA <;> cases bB <;> cases bC <;> cases b
  all_goals
    go_enter Try.func134, Try.ntmps134
    go_wp2_with fail
    refine calls_at (fun wa hw => ?_)
    obtain ⟨N, hN⟩ : ∃ N, w.heap.size = N := ⟨_, rfl⟩
    have hka : Keeps Nob w wa := by rw [hw]; exact (Keeps.alloc _ _ _).alloc' _
    have BN : Blk wa N 37 #[.int .i64 n.lvl, .slice X1 n.high.length k1, .int .i64 n.right, .slice X3 n.keys.length k3, .slice X4 n.vals.length k4, .slice X5 n.kids.length k5] := by rw [hw, ← hN]; exact (Blk.new w _ _).alloc _
    have BC : Blk wa (N + 1) 69 #[.int .i64 a0, .int .i64 a1, .int .i64 a2, .int .i64 a3, .int .i64 a4] := by rw [hw, ← hN]; exact Blk.new' (by simp) _ _
    rw [hN]
    have HBN := Lib.hid BN
    have HBC := Lib.hid BC
    have HKA := Lib.hid hka
    clear hw hN BN BC
    refine (PRE wa hka).mono ?_
    rintro e w1 ⟨rfl, hk1⟩
    have q := fun i => (HBN.out.keeps hk1 id).cell i
    have q2 := fun i => (HBC.out.keeps hk1 id).cell i
    have HK := Lib.hid (HKA.out.trans hk1 (fun _ _ h => h))
    clear hk1 hka PRE
    have hA := HAH.out
    have hB := HBH.out
    have hC := HCH.out
    go_wp2
    go_ret
    exact ⟨rfl, HK.out⟩
end
end Go.Proofs.Ytbhohohgojcapaa

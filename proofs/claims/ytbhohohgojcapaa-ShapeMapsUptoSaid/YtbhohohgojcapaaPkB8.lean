import Derived.Test.YtbhohohgojcapaaPkB7
namespace Go.Proofs.Ytbhohohgojcapaa
open Go.RowKit

section
variable {S T : Nat → Prop} {w : World} {a : Value} {ls : List (List UInt8)}

def keyBad (high x : List UInt8) : Bool := !(decide ((1 : Int) ≤ (x.length : Int) ∧ (x.length : Int) ≤ 64)) || beyond high x
def valBad (x : List UInt8) : Bool := decide ((256 : Int) < (x.length : Int))

set_option maxRecDepth 100000 in
theorem keyF {B : Nat} {c0 c1 c2 c3 c4 c5 u : Value} {high x : List UInt8} (hb : Blk w B 37 #[c0, c1, c2, c3, c4, c5]) (h1 : Byts w S c1 high) (h2 : Byts w T u x) :
    Calls Try.prog 131 #[u, .pointer (some ⟨B, 0, none⟩)] w fun e w' => e = .returned (.bool (keyBad high x)) ∧ Keeps Nob w w' := by
  obtain ⟨A, c, rfl, hn, hm⟩ := h2.form
  have hz : x.length ≤ 9223372036854775807 := Nat.le_trans hn hm
  have HC := Lib.hid (beyondP (c0 := c0) (c2 := c2) (c3 := c3) (c4 := c4) (c5 := c5) h1 h2)
  unfold keyBad
  obtain ⟨b1, hb1⟩ : ∃ b, decide ((1 : Int) ≤ (x.length : Int) ∧ (x.length : Int) ≤ 64) = b := ⟨_, rfl⟩
  obtain ⟨b2, hb2⟩ : ∃ b, beyond high x = b := ⟨_, rfl⟩
  rw [hb1, hb2]
  have HB1 := Lib.hid hb1
  have HB2 := Lib.hid hb2
  have q := fun i => hb.cell i
  clear hb1 hb2 h1 h2 hb hn hm
  cases b1 <;> cases b2
  all_goals
    go_enter Try.func131, Try.ntmps131
    go_wp2_with (first
      | (go_at_call 121; refine (betweenP _ _ _ _).mono ?_; rintro e w1 ⟨rfl, rfl⟩; rw [HB1.out])
      | (go_at_call 132; refine HC.out.mono ?_; rintro e w1 ⟨rfl, hk⟩; have HK := Lib.hid hk; clear hk; rw [HB2.out]))
    go_ret
    first
      | exact ⟨rfl, HK.out⟩
      | exact ⟨rfl, Keeps.refl _ _⟩

theorem valF {u : Value} {x : List UInt8} (h2 : Byts w T u x) :
    Calls Try.prog 138 #[u] w fun e w' => e = .returned (.bool (valBad x)) ∧ Keeps Nob w w' := by
  obtain ⟨A, c, rfl, hn, hm⟩ := h2.form
  clear h2
  unfold valBad
  obtain ⟨b1, hb1⟩ : ∃ b, decide ((256 : Int) < (x.length : Int)) = b := ⟨_, rfl⟩
  rw [hb1]
  cases b1
  all_goals
    go_enter Try.func138, Try.ntmps138
    go_wp2
    go_ret
    exact ⟨rfl, Keeps.refl _ _⟩

set_option maxRecDepth 100000 in
set_option maxHeartbeats 1000000 in
theorem indexC {q : Option Addr} {p : List UInt8 → Bool} (h : Txts w S a ls) (hp : ∀ W u x, Keeps Nob w W → Byts W S u x → Calls Try.prog 131 #[u, .pointer q] W fun e w' => e = .returned (.bool (p x)) ∧ Keeps Nob W w') :
    Calls Try.prog 137 #[a, .func (.func 131) #[] #[.pointer q]] w fun e w' => ∃ r : Int, e = .returned (.int .i64 r) ∧ decide (0 ≤ r) = ls.any p ∧ Keeps Nob w w' := by
  obtain ⟨A, c, rfl, hn, hm⟩ := h.form
  have hz : ls.length ≤ 9223372036854775807 := Nat.le_trans hn hm
  have H := Lib.hid h
  have HP := Lib.hid hp
  clear h hp hn hm
  go_enter Try.func137, Try.ntmps137
  go_wp2
  go_loopw [8] (fun i wr => ∃ k : Nat, k ≤ ls.length ∧ i = .int .i64 k ∧ (ls.take k).any p = false ∧ Keeps Nob w wr) (fun i _ => ls.length - (intOf i).toNat)
  case atStart => exact ⟨0, Nat.zero_le _, rfl, rfl, Keeps.refl _ _⟩
  obtain ⟨k, hk, rfl, hany, hK⟩ := hrel
  have HA := Lib.hid hany
  have HK := Lib.hid hK
  clear hany hK
  rcases Nat.lt_or_ge k ls.length with hlt | hlt
  · obtain ⟨x, hx⟩ : ∃ x, ls[k]? = some x := ⟨_, List.getElem?_eq_getElem hlt⟩
    obtain ⟨ad, rfl, _, hc⟩ := H.out.cells hlt
    obtain ⟨u, hu, hbu⟩ := hc k x hx
    have hu' : wr.cell? (ad.add k) = some u := HK.out.cell hu id
    have HC := Lib.hid (HP.out wr u x HK.out (hbu.keeps HK.out (fun _ _ _ => id)))
    have HX := Lib.hid hx
    clear hc hu hbu hx
    obtain ⟨b, hb⟩ : ∃ b, p x = b := ⟨_, rfl⟩
    have HB := Lib.hid hb
    clear hb
    cases b
    · go_wp2_with (go_at_call 131; refine HC.out.mono ?_; rintro e w1 ⟨rfl, hk1⟩; have HK1 := Lib.hid hk1; clear hk1; rw [HB.out])
      go_roundw
      case rel => exact ⟨k + 1, by omega, by go_num, by rw [List.take_add_one, HX.out, List.any_append, HA.out]; simp [HB.out], HK.out.trans HK1.out (fun _ _ h => h)⟩
      case measure => simp [intOf]; omega
    · go_wp2_with (go_at_call 131; refine HC.out.mono ?_; rintro e w1 ⟨rfl, hk1⟩; have HK1 := Lib.hid hk1; clear hk1; rw [HB.out])
      go_ret
      refine ⟨k, rfl, ?_, HK.out.trans HK1.out (fun _ _ h => h)⟩
      have : ls.any p = true := List.any_eq_true.2 ⟨x, List.mem_of_getElem? HX.out, HB.out⟩
      rw [this]
      exact decide_eq_true (by omega)
  · obtain rfl : k = ls.length := by omega
    go_wp2
    go_ret
    refine ⟨-1, rfl, ?_, HK.out⟩
    have h := HA.out
    rw [List.take_length] at h
    rw [h]; rfl

set_option maxRecDepth 100000 in
theorem containsC {q : Option Addr} {p : List UInt8 → Bool} (h : Txts w S a ls) (hp : ∀ W u x, Keeps Nob w W → Byts W S u x → Calls Try.prog 131 #[u, .pointer q] W fun e w' => e = .returned (.bool (p x)) ∧ Keeps Nob W w') :
    Calls Try.prog 130 #[a, .func (.func 131) #[] #[.pointer q]] w fun e w' => e = .returned (.bool (ls.any p)) ∧ Keeps Nob w w' := by
  have HC := Lib.hid (indexC h hp)
  clear h hp
  go_enter Try.func130, Try.ntmps130
  go_wp2_with (go_at_call 137; refine HC.out.mono ?_; rintro e w1 ⟨r, rfl, hr, hk1⟩; have HR := Lib.hid hr; have HK1 := Lib.hid hk1; clear hk1 hr)
  go_ret
  refine ⟨?_, HK1.out⟩
  rw [← HR.out]; rfl

set_option maxRecDepth 100000 in
set_option maxHeartbeats 1000000 in
theorem indexL {p : List UInt8 → Bool} (h : Txts w S a ls) (hp : ∀ W u x, Keeps Nob w W → Byts W S u x → Calls Try.prog 138 #[u] W fun e w' => e = .returned (.bool (p x)) ∧ Keeps Nob W w') :
    Calls Try.prog 137 #[a, .func (.func 138) #[] #[]] w fun e w' => ∃ r : Int, e = .returned (.int .i64 r) ∧ decide (0 ≤ r) = ls.any p ∧ Keeps Nob w w' := by
  obtain ⟨A, c, rfl, hn, hm⟩ := h.form
  have hz : ls.length ≤ 9223372036854775807 := Nat.le_trans hn hm
  have H := Lib.hid h
  have HP := Lib.hid hp
  clear h hp hn hm
  go_enter Try.func137, Try.ntmps137
  go_wp2
  go_loopw [8] (fun i wr => ∃ k : Nat, k ≤ ls.length ∧ i = .int .i64 k ∧ (ls.take k).any p = false ∧ Keeps Nob w wr) (fun i _ => ls.length - (intOf i).toNat)
  case atStart => exact ⟨0, Nat.zero_le _, rfl, rfl, Keeps.refl _ _⟩
  obtain ⟨k, hk, rfl, hany, hK⟩ := hrel
  have HA := Lib.hid hany
  have HK := Lib.hid hK
  clear hany hK
  rcases Nat.lt_or_ge k ls.length with hlt | hlt
  · obtain ⟨x, hx⟩ : ∃ x, ls[k]? = some x := ⟨_, List.getElem?_eq_getElem hlt⟩
    obtain ⟨ad, rfl, _, hc⟩ := H.out.cells hlt
    obtain ⟨u, hu, hbu⟩ := hc k x hx
    have hu' : wr.cell? (ad.add k) = some u := HK.out.cell hu id
    have HC := Lib.hid (HP.out wr u x HK.out (hbu.keeps HK.out (fun _ _ _ => id)))
    have HX := Lib.hid hx
    clear hc hu hbu hx
    obtain ⟨b, hb⟩ : ∃ b, p x = b := ⟨_, rfl⟩
    have HB := Lib.hid hb
    clear hb
    cases b
    · go_wp2_with (go_at_call 138; refine HC.out.mono ?_; rintro e w1 ⟨rfl, hk1⟩; have HK1 := Lib.hid hk1; clear hk1; rw [HB.out])
      go_roundw
      case rel => exact ⟨k + 1, by omega, by go_num, by rw [List.take_add_one, HX.out, List.any_append, HA.out]; simp [HB.out], HK.out.trans HK1.out (fun _ _ h => h)⟩
      case measure => simp [intOf]; omega
    · go_wp2_with (go_at_call 138; refine HC.out.mono ?_; rintro e w1 ⟨rfl, hk1⟩; have HK1 := Lib.hid hk1; clear hk1; rw [HB.out])
      go_ret
      refine ⟨k, rfl, ?_, HK.out.trans HK1.out (fun _ _ h => h)⟩
      have : ls.any p = true := List.any_eq_true.2 ⟨x, List.mem_of_getElem? HX.out, HB.out⟩
      rw [this]
      exact decide_eq_true (by omega)
  · obtain rfl : k = ls.length := by omega
    go_wp2
    go_ret
    refine ⟨-1, rfl, ?_, HK.out⟩
    have h := HA.out
    rw [List.take_length] at h
    rw [h]; rfl

set_option maxRecDepth 100000 in
theorem containsL {p : List UInt8 → Bool} (h : Txts w S a ls) (hp : ∀ W u x, Keeps Nob w W → Byts W S u x → Calls Try.prog 138 #[u] W fun e w' => e = .returned (.bool (p x)) ∧ Keeps Nob W w') :
    Calls Try.prog 130 #[a, .func (.func 138) #[] #[]] w fun e w' => e = .returned (.bool (ls.any p)) ∧ Keeps Nob w w' := by
  have HC := Lib.hid (indexL h hp)
  clear h hp
  go_enter Try.func130, Try.ntmps130
  go_wp2_with (go_at_call 137; refine HC.out.mono ?_; rintro e w1 ⟨r, rfl, hr, hk1⟩; have HR := Lib.hid hr; have HK1 := Lib.hid hk1; clear hk1 hr)
  go_ret
  refine ⟨?_, HK1.out⟩
  rw [← HR.out]; rfl
end
end Go.Proofs.Ytbhohohgojcapaa

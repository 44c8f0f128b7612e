import Derived.Test.YtbhohohgojcapaaPkC7
import Derived.Test.YtbhohohgojcapaaPkC6
import Derived.Deep.Cut
import Derived.BigQuiet
import Derived.Test.YtbhohohgojcapaaPkB9
import Derived.Test.YtbhohohgojcapaaPkA8
import Derived.Test.YtbhohohgojcapaaPkB5
namespace Go.Proofs.Ytbhohohgojcapaa
open Go.RowKit

section
variable {S T : Nat → Prop} {w : World} {a c0 c1 c2 c3 c4 c5 : Value} {n : Nd} {x : List UInt8}

end
end Go.Proofs.Ytbhohohgojcapaa

namespace Go.Proofs.Ytbhohohgojcapaa
open Go.RowKit

abbrev oL (b : Nat) (x y : Value) : Ob := muBlk b 79 #[x, y]
section
variable {w : World} {M D : Nat → Prop} {q : Nat} {L : Value} {xs : List Value} {A : Ar} {a0 a1 a2 a3 a4 first level : Int} {mv : Value} {met0 : List Int}
end
end Go.Proofs.Ytbhohohgojcapaa

namespace Go.Proofs.Ytbhohohgojcapaa
open Go.RowKit

/-- Of a node's first k kids: is each where it must be? -/
def kidsIn (down : Ch) (low : List UInt8) (n : Nd) (k : Nat) : Bool := (List.range k).all (fun k => kidOk down (n.kids.getD k 0) (wantLow low n k))
theorem kidsIn_succ {down : Ch} {low : List UInt8} {n : Nd} {k : Nat} : kidsIn down low n (k + 1) = (kidsIn down low n k && kidOk down (n.kids.getD k 0) (wantLow low n k)) := by
  unfold kidsIn
  rw [List.range_succ, List.all_append]
  simp
theorem kidsIn_not {down : Ch} {low : List UInt8} {n : Nd} {k : Nat} (hk : k < n.kids.length) (h : kidOk down (n.kids.getD k 0) (wantLow low n k) = false) : nodeKids down low n = false := by
  unfold nodeKids
  rw [List.all_eq_false]
  exact ⟨k, List.mem_range.2 hk, by rw [h]; decide⟩
theorem kidsM_drop {A : Ar} {down up : Ch} {i : Nat} {id : Int} {low : List UInt8} (h : up[i]? = some (id, low)) : kidsM A down (up.drop i) = if nodeKids down low (opNd A id) = true then kidsM A down (up.drop (i + 1)) else .wrong id 113 := by
  obtain ⟨hi, e⟩ := List.getElem?_eq_some_iff.1 h
  rw [List.drop_eq_getElem_cons hi, e]
  rfl
section
variable {w : World} {M D F F' : Nat → Prop} {q : Nat} {L : Value} {xs : List Value} {A : Ar} {up down : Ch} {Uv Uw Nv Nw : Value}
end
end Go.Proofs.Ytbhohohgojcapaa

namespace Go.Proofs.Ytbhohohgojcapaa
open Go.RowKit

structure May (n : Nd) (a0 a1 a2 : Int) : Prop where
  lvl : 0 ≤ n.lvl ∧ n.lvl ≤ 32
  right : 0 ≤ n.right ∧ n.right ≤ a0
  high : n.high.length = 0 ↔ n.right = 0
  high64 : n.high.length ≤ 64
  rise : Rise n.keys
  key : ∀ k ∈ n.keys, (1 ≤ k.length ∧ k.length ≤ 64) ∧ beyond n.high k = false
  leaf : n.lvl = 0 → n.vals.length = n.keys.length ∧ (n.keys.length : Int) ≤ a1 ∧ n.kids = [] ∧ ∀ v ∈ n.vals, v.length ≤ 256
  inner : n.lvl ≠ 0 → n.kids.Nodup ∧ (∀ k ∈ n.kids, 1 ≤ k ∧ k ≤ a0) ∧ n.vals = [] ∧ n.kids.length = n.keys.length + 1 ∧ (n.kids.length : Int) ≤ a2

theorem keyBad_iff (high x : List UInt8) : keyBad high x = false ↔ (1 ≤ x.length ∧ x.length ≤ 64) ∧ beyond high x = false := by
  unfold keyBad
  rw [Bool.or_eq_false_iff]
  simp only [Bool.not_eq_false', decide_eq_true_eq]
  constructor
  · rintro ⟨h1, h2⟩; exact ⟨by omega, h2⟩
  · rintro ⟨h1, h2⟩; exact ⟨by omega, h2⟩

theorem may_iff {n : Nd} {a0 a1 a2 a3 a4 : Int} (hc : confOk a0 a1 a2 a3 a4 = true) : mayE n a0 a1 a2 a3 a4 = 0 ↔ May n a0 a1 a2 := by
  unfold mayE
  rw [if_pos hc]
  have hh : headOk n a0 = true ↔ (0 ≤ n.lvl ∧ n.lvl ≤ 32) ∧ (0 ≤ n.right ∧ n.right ≤ a0) ∧ (n.high.length = 0 ↔ n.right = 0) ∧ n.high.length ≤ 64 := by
    unfold headOk
    simp only [Bool.and_eq_true, decide_eq_true_eq, beq_iff_eq]
    have e : (((n.high.length : Int) == 0) = (n.right == 0)) ↔ (n.high.length = 0 ↔ n.right = 0) := by
      rw [Bool.eq_iff_iff]; simp
    rw [e]
    constructor
    · rintro ⟨h1, h2, h3, h4⟩; exact ⟨h1, h2, h3, by omega⟩
    · rintro ⟨h1, h2, h3, h4⟩; exact ⟨h1, h2, h3, by omega⟩
  have hk : keysOk n = true ↔ Rise n.keys ∧ ∀ k ∈ n.keys, (1 ≤ k.length ∧ k.length ≤ 64) ∧ beyond n.high k = false := by
    unfold keysOk
    rw [Bool.and_eq_true, rises_iff, Bool.not_eq_true', List.any_eq_false]
    constructor
    · rintro ⟨h1, h2⟩
      exact ⟨h1, fun k hk => (keyBad_iff _ _).1 (by simpa using h2 k hk)⟩
    · rintro ⟨h1, h2⟩
      exact ⟨h1, fun k hk => by rw [(keyBad_iff _ _).2 (h2 k hk)]; simp⟩
  have hf : formOk n a0 a1 a2 = true ↔ (n.lvl = 0 → n.vals.length = n.keys.length ∧ (n.keys.length : Int) ≤ a1 ∧ n.kids = [] ∧ ∀ v ∈ n.vals, v.length ≤ 256) ∧ (n.lvl ≠ 0 → n.kids.Nodup ∧ (∀ k ∈ n.kids, 1 ≤ k ∧ k ≤ a0) ∧ n.vals = [] ∧ n.kids.length = n.keys.length + 1 ∧ (n.kids.length : Int) ≤ a2) := by
    unfold formOk
    by_cases hl : n.lvl = 0
    · rw [if_pos hl]
      unfold leafOk
      simp only [Bool.and_eq_true, decide_eq_true_eq, Bool.not_eq_true', List.any_eq_false, List.length_eq_zero_iff]
      constructor
      · rintro ⟨h1, h2, h3, h4⟩
        refine ⟨fun _ => ⟨h1, h2, h3, fun v hv => ?_⟩, fun h => absurd hl h⟩
        have := h4 v hv
        unfold valBad at this
        simp at this
        omega
      · rintro ⟨h1, _⟩
        obtain ⟨h1, h2, h3, h4⟩ := h1 hl
        refine ⟨h1, h2, h3, fun v hv => ?_⟩
        have := h4 v hv
        unfold valBad
        simp
        omega
    · rw [if_neg hl]
      unfold innerOk kidsFine
      simp only [Bool.and_eq_true, decide_eq_true_eq, List.all_eq_true, List.length_eq_zero_iff]
      constructor
      · rintro ⟨⟨h1, h2⟩, h3, h4, h5⟩
        exact ⟨fun h => absurd h hl, fun _ => ⟨h1, h2, h3, h4, h5⟩⟩
      · rintro ⟨_, h1⟩
        obtain ⟨h1, h2, h3, h4, h5⟩ := h1 hl
        exact ⟨⟨h1, h2⟩, h3, h4, h5⟩
  constructor
  · intro h
    by_cases hb : (headOk n a0 && (keysOk n && formOk n a0 a1 a2)) = true
    · simp only [Bool.and_eq_true] at hb
      obtain ⟨b1, b2, b3⟩ := hb
      obtain ⟨g1, g2, g3, g4⟩ := hh.1 b1
      obtain ⟨g5, g6⟩ := hk.1 b2
      obtain ⟨g7, g8⟩ := hf.1 b3
      exact ⟨g1, g2, g3, g4, g5, g6, g7, g8⟩
    · rw [if_neg hb] at h
      exact absurd h (by decide)
  · intro h
    rw [hh.2 ⟨h.lvl, h.right, h.high, h.high64⟩, hk.2 ⟨h.rise, h.key⟩, hf.2 ⟨h.leaf, h.inner⟩]
    rfl
end Go.Proofs.Ytbhohohgojcapaa

namespace Go.Proofs.Ytbhohohgojcapaa
open Go.RowKit

/-- How many keys are below; is it there? -/
def below (l : List (List UInt8)) (k : List UInt8) : Nat := l.countP (fun x => decide (cmp x k < 0))
def has (l : List (List UInt8)) (k : List UInt8) : Bool := l.any (fun x => cmp x k == 0)
theorem below_le (l k) : below l k ≤ l.length := List.countP_le_length
theorem below_take (l : List (List UInt8)) (k : List UInt8) (n : Nat) : below (l.take n) k ≤ n := Nat.le_trans (below_le _ _) (List.length_take_le _ _)
theorem below_succ {l : List (List UInt8)} {k x : List UInt8} {n : Nat} (h : l[n]? = some x) : below (l.take (n + 1)) k = below (l.take n) k + if cmp x k < 0 then 1 else 0 := by
  rw [List.take_add_one, h]
  unfold below
  rw [List.countP_append]
  simp [List.countP_cons]
theorem has_succ {l : List (List UInt8)} {k x : List UInt8} {n : Nat} (h : l[n]? = some x) : has (l.take (n + 1)) k = (has (l.take n) k || cmp x k == 0) := by
  rw [List.take_add_one, h]
  unfold has
  rw [List.any_append]
  simp

end Go.Proofs.Ytbhohohgojcapaa

namespace Go.Proofs.Ytbhohohgojcapaa
open Go.RowKit

theorem cmp_cons (x y : UInt8) (l m : List UInt8) : cmp (x :: l) (y :: m) = if x < y then -1 else if y < x then 1 else cmp l m := by
  show Lib.compareBytes (x :: l) (y :: m) = _
  conv => lhs; unfold Lib.compareBytes
theorem cmp_lt_trans : ∀ (a b c : List UInt8), cmp a b < 0 → cmp b c < 0 → cmp a c < 0
  | [], [], _, h, _ => absurd h (by decide)
  | [], _ :: _, [], _, h => absurd h (by show ¬ (1 : Int) < 0; decide)
  | [], _ :: _, _ :: _, _, _ => by show (-1 : Int) < 0; decide
  | _ :: _, [], _, h, _ => absurd h (by show ¬ (1 : Int) < 0; decide)
  | _ :: _, _ :: _, [], _, h => absurd h (by show ¬ (1 : Int) < 0; decide)
  | x :: a, y :: b, z :: c, h1, h2 => by
    rw [cmp_cons] at h1 h2 ⊢
    by_cases hxy : x < y
    · by_cases hyz : y < z
      · rw [if_pos (UInt8.lt_trans hxy hyz)]; decide
      · rw [if_neg hyz] at h2
        by_cases hzy : z < y
        · rw [if_pos hzy] at h2; exact absurd h2 (by decide)
        · have : y = z := UInt8.le_antisymm (UInt8.not_lt.1 hzy) (UInt8.not_lt.1 hyz)
          subst this
          rw [if_pos hxy]; decide
    · rw [if_neg hxy] at h1
      by_cases hyx : y < x
      · rw [if_pos hyx] at h1; exact absurd h1 (by decide)
      · have : x = y := UInt8.le_antisymm (UInt8.not_lt.1 hyx) (UInt8.not_lt.1 hxy)
        subst this
        rw [if_neg hyx] at h1
        by_cases hxz : x < z
        · rw [if_pos hxz]; decide
        · rw [if_neg hxz] at h2 ⊢
          by_cases hzx : z < x
          · rw [if_pos hzx] at h2; exact absurd h2 (by decide)
          · rw [if_neg hzx] at h2 ⊢
            exact cmp_lt_trans a b c h1 h2
theorem cmp_gt {a b : List UInt8} (h : cmp a b < 0) : ¬ cmp b a < 0 ∧ cmp b a ≠ 0 := by
  refine ⟨fun h2 => ?_, fun h2 => ?_⟩
  · have := cmp_lt_trans a b a h h2
    rw [cmp_self] at this
    exact absurd this (by decide)
  · have := cmp_zero b a h2
    subst this
    rw [cmp_self] at h
    exact absurd h (by decide)

theorem rise_lt {l : List (List UInt8)} (h : Rise l) (i : Nat) {a : List UInt8} (ha : l[i]? = some a) : ∀ (d : Nat) b, l[i + 1 + d]? = some b → cmp a b < 0
  | 0, b, hb => h i a b ha hb
  | d + 1, b, hb => by
    have hlt : i + 1 + d < l.length := by have := (List.getElem?_eq_some_iff.1 hb).1; omega
    have hc : l[i + 1 + d]? = some l[i + 1 + d] := List.getElem?_eq_getElem hlt
    exact cmp_lt_trans _ _ _ (rise_lt h i ha d _ hc) (h (i + 1 + d) _ _ hc (by rw [← hb]; congr 1))
theorem rise_lt' {l : List (List UInt8)} (h : Rise l) {i j : Nat} {a b : List UInt8} (hij : i < j) (ha : l[i]? = some a) (hb : l[j]? = some b) : cmp a b < 0 :=
  rise_lt h i ha (j - (i + 1)) b (by rw [show i + 1 + (j - (i + 1)) = j by omega]; exact hb)

theorem has_at {l : List (List UInt8)} {key : List UInt8} (h : has l key = true) : ∃ j : Nat, l[j]? = some key := by
  unfold has at h
  rw [List.any_eq_true] at h
  obtain ⟨x, hx, hc⟩ := h
  have h0 : cmp x key = 0 := by simpa using hc
  have := cmp_zero x key h0
  subst this
  exact List.getElem?_of_mem hx
theorem below_at {l : List (List UInt8)} {key : List UInt8} (h : Rise l) {j : Nat} (hj : l[j]? = some key) : below l key = j := by
  have hlt : j < l.length := (List.getElem?_eq_some_iff.1 hj).1
  unfold below
  rw [← List.take_append_drop j l, List.countP_append]
  have h1 : (l.take j).countP (fun x => decide (cmp x key < 0)) = j := by
    have e : (l.take j).length = j := by rw [List.length_take]; omega
    rw [List.countP_eq_length.2 (fun x hx => ?_), e]
    obtain ⟨i, hi⟩ := List.getElem?_of_mem hx
    rw [List.getElem?_take] at hi
    split at hi
    · rename_i hij
      exact decide_eq_true (rise_lt' h hij hi hj)
    · cases hi
  have h2 : (l.drop j).countP (fun x => decide (cmp x key < 0)) = 0 := by
    refine List.countP_eq_zero.2 (fun x hx => ?_)
    obtain ⟨i, hi⟩ := List.getElem?_of_mem hx
    rw [List.getElem?_drop] at hi
    by_cases h0 : i = 0
    · subst h0
      rw [Nat.add_zero, hj] at hi
      cases hi
      rw [cmp_self]; decide
    · have := (cmp_gt (rise_lt' h (show j < j + i by omega) hj hi)).1
      simpa using this
  rw [h1, h2, Nat.add_zero]
theorem at_below {l : List (List UInt8)} {key : List UInt8} (h : Rise l) (hh : has l key = true) : l[below l key]? = some key := by
  obtain ⟨j, hj⟩ := has_at hh
  rw [below_at h hj]; exact hj
end Go.Proofs.Ytbhohohgojcapaa

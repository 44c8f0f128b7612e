import Derived.Test.YtbhohohgojcapaaPkB8
import Derived.Maps.OwnOps
import Derived.Maps.Views
namespace Go.Proofs.Ytbhohohgojcapaa
open Go.RowKit Go.Maps

def leafOk (n : Nd) (leaf : Int) : Bool := decide (n.vals.length = n.keys.length) && (decide ((n.keys.length : Int) ≤ leaf) && (decide (n.kids.length = 0) && !(n.vals.any valBad)))
def kidsFine (l : List Int) (nodes : Int) : Bool := decide (l.Nodup) && l.all (fun k => decide (1 ≤ k ∧ k ≤ nodes))
def innerOk (n : Nd) (nodes inner : Int) : Bool := kidsFine n.kids nodes && (decide (n.vals.length = 0) && (decide (n.kids.length = n.keys.length + 1) && decide ((n.kids.length : Int) ≤ inner)))

def K64 (n : Int) : Prop := (Lit.int .i64 n).wf = true

section
variable {S T : Nat → Prop} {w : World} {c0 c1 c2 c3 c4 c5 : Value} {n : Nd}

set_option maxRecDepth 100000 in
set_option maxHeartbeats 1000000 in
theorem leafP {a0 a1 a2 a3 a4 : Int} (h : IsNd w S c0 c1 c2 c3 c4 c5 n) : Calls Try.prog 134 #[.agg #[c0, c1, c2, c3, c4, c5], .agg #[.int .i64 a0, .int .i64 a1, .int .i64 a2, .int .i64 a3, .int .i64 a4]] w fun e w' => e = .returned (.bool (leafOk n a1)) ∧ Keeps Nob w w' := by
  obtain ⟨X1, k1, e1, _, _⟩ := h.1.high.form
  obtain ⟨X3, k3, e3, y3, z3⟩ := h.2.keys.form
  obtain ⟨X4, k4, e4, y4, z4⟩ := h.2.vals.form
  obtain ⟨X5, k5, e5, y5, z5⟩ := h.2.kids.form
  have e0 := h.1.lvl
  have e2 := h.1.right
  unfold iV at e0 e2
  subst e0 e1 e2 e3 e4 e5
  have HN0 := Lib.hid h
  clear h y3 y4 y5 z3 z4 z5
  unfold leafOk
  obtain ⟨b, hb⟩ : ∃ b, n.vals.any valBad = b := ⟨_, rfl⟩
  rw [hb]
  have HB := Lib.hid hb
  clear hb
  have PRE : ∀ (wa : World), Keeps Nob w wa → Calls Try.prog 130 #[.slice X4 n.vals.length k4, .func (.func 138) #[] #[]] wa fun e w' => e = .returned (.bool b) ∧ Keeps Nob wa w' := fun wa hk => by
    have := containsL (p := valBad) (HN0.out.keeps hk (fun _ _ _ => id)).2.vals (fun W u x hkW hx => valF hx)
    rwa [HB.out] at this
  clear HN0 HB
  obtain ⟨bA, hA⟩ : ∃ b, ((n.vals.length : Int) == (n.keys.length : Int)) = b := ⟨_, rfl⟩
  obtain ⟨bB, hB⟩ : ∃ b, decide ((n.keys.length : Int) ≤ a1) = b := ⟨_, rfl⟩
  obtain ⟨bC, hC⟩ : ∃ b, ((n.kids.length : Int) == 0) = b := ⟨_, rfl⟩
  have eA : decide (n.vals.length = n.keys.length) = bA := by rw [← hA]; apply Bool.eq_iff_iff.2; simp; omega
  have eC : decide (n.kids.length = 0) = bC := by rw [← hC]; apply Bool.eq_iff_iff.2; simp
  rw [eA, hB, eC]
  clear eA eC
  have HAH := Lib.hid hA
  have HBH := Lib.hid hB
  have HCH := Lib.hid hC
  clear hA hB hC
  cases bA <;> cases bB <;> cases bC <;> cases b
  all_goals
    go_enter Try.func134, Try.ntmps134
    go_wp2_with fail
    refine calls_at (fun wa hw => ?_)
    obtain ⟨N, hN⟩ : ∃ N, w.heap.size = N := ⟨_, rfl⟩
    have hka : Keeps Nob w wa := by rw [hw]; exact (Keeps.alloc _ _ _).alloc' _
    have BN : Blk wa N 37 #[.int .i64 n.lvl, .slice X1 n.high.length k1, .int .i64 n.right, .slice X3 n.keys.length k3, .slice X4 n.vals.length k4, .slice X5 n.kids.length k5] := by rw [hw, ← hN]; exact (Blk.new w _ _).alloc _
    have BC : Blk wa (N + 1) 69 #[.int .i64 a0, .int .i64 a1, .int .i64 a2, .int .i64 a3, .int .i64 a4] := by rw [hw, ← hN]; exact Blk.new' (by simp) _ _
    rw [hN]
    have HBN := Lib.hid BN
    have HBC := Lib.hid BC
    have HKA := Lib.hid hka
    clear hw hN BN BC
    refine (PRE wa hka).mono ?_
    rintro e w1 ⟨rfl, hk1⟩
    have q := fun i => (HBN.out.keeps hk1 id).cell i
    have q2 := fun i => (HBC.out.keeps hk1 id).cell i
    have HK := Lib.hid (HKA.out.trans hk1 (fun _ _ h => h))
    clear hk1 hka PRE
    have hA := HAH.out
    have hB := HBH.out
    have hC := HCH.out
    go_wp2
    go_ret
    exact ⟨rfl, HK.out⟩
end
end Go.Proofs.Ytbhohohgojcapaa

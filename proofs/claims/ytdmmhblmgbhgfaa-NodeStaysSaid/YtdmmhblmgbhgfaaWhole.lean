/- whole: a node that was lent out reads as it did, its spare room too. -/
import Derived.Test.YtdmmhblmgbhgfaaSame
import Derived.Test.YtdmmhblmgbhgfaaShape
namespace Go.Proofs.Ytdmmhblmgbhgfaa
open Go.RowKit

section
variable {S T : Nat → Prop} {w : World} {a0 a1 a2 a3 a4 a5 b0 b1 b2 b3 b4 b5 : Value} {n : Nd}

theorem keys_end {A : Option Addr} {c : Nat} {l : List (List UInt8)} {vs : List Value} {u : Value} (h : Own w S 44 1 (.slice A (l.length + 1) c) (l.length + 1) (vs ++ [u])) (hl : vs.length = l.length) : ∃ ad, A = some ad ∧ w.cell? (ad.add l.length) = some u ∧ l.length + 1 ≤ c ∧ c ≤ 9223372036854775807 := by
  obtain ⟨h1, h2, _⟩ := h.at_
  obtain ⟨ad, e, _, hc⟩ := h.g.cells (by simp)
  exact ⟨ad, e, hc l.length u (by rw [← hl]; simp), h1, h2⟩

set_option maxRecDepth 100000 in
set_option maxHeartbeats 1000000 in
theorem whole9 (h1 : Lent w S a0 a1 a2 a3 a4 a5 n) (h2 : IsNd w T b0 b1 b2 b3 b4 b5 n) : Calls Try.prog 42 #[.agg #[a0, a1, a2, a3, a4, a5], .agg #[b0, b1, b2, b3, b4, b5]] w fun e w' => e = .returned (.bool true) ∧ Keeps Nob w w' := by
  have hO := Lib.hid h1.o.r
  have H2 := Lib.hid h2
  obtain ⟨A1, c1, e1, g1⟩ := h1.high
  obtain ⟨A3, c3, vs3, u3, e3, g3, g3l, _, z3⟩ := h1.keys
  obtain ⟨A4, c4, vs4, u4, e4, g4, g4l, _, z4⟩ := h1.vals
  obtain ⟨A5, c5, e5, g5⟩ := h1.kids
  obtain ⟨B1, d1, i1, _, _⟩ := h2.1.high.form
  obtain ⟨B3, d3, i3, _, _⟩ := h2.2.keys.form
  obtain ⟨B4, d4, i4, _, _⟩ := h2.2.vals.form
  obtain ⟨B5, d5, i5, _, _⟩ := h2.2.kids.form
  have e0 := h1.lvl
  have e2 := h1.right
  have i0 := h2.1.lvl
  have i2 := h2.1.right
  subst e0 e1 e2 e3 e4 e5 i0 i1 i2 i3 i4 i5
  obtain ⟨x1, rfl, _, y1⟩ := g1.r.cells (i := n.high.length) (by simp)
  obtain ⟨x3, rfl, y3, m3, n3⟩ := keys_end g3 g3l
  obtain ⟨x4, rfl, y4, m4, n4⟩ := keys_end g4 g4l
  replace z3 := z3.r
  replace z4 := z4.r
  obtain ⟨x5, rfl, _, y5⟩ := g5.r.cells (i := n.kids.length) (by simp)
  have m1 : n.high.length + 2 ≤ c1 ∧ c1 ≤ 9223372036854775807 := by obtain ⟨_, _, e, p, q⟩ := g1.r.form; simp at e p; obtain ⟨_, _, rfl⟩ := e; exact ⟨by omega, q⟩
  have m5 : n.kids.length + 1 ≤ c5 ∧ c5 ≤ 9223372036854775807 := by obtain ⟨_, _, e, p, q⟩ := g5.r.form; simp at e p; obtain ⟨_, _, rfl⟩ := e; exact ⟨by omega, q⟩
  obtain ⟨m1, n1⟩ := m1
  obtain ⟨m5, n5⟩ := m5
  have y1a : w.cell? (x1.add n.high.length) = some (.int .u8 7) := y1 n.high.length 7 (by simp)
  have y1b : w.cell? (x1.add (n.high.length + 1)) = some (.int .u8 7) := y1 (n.high.length + 1) 7 (by simp)
  have y5a : w.cell? (x5.add n.kids.length) = some (.int .i64 777) := y5 n.kids.length 777 (by simp)
  have Y := Lib.hid (And.intro y1a (And.intro y1b (And.intro y3 (And.intro y4 y5a))))
  have Z := Lib.hid (And.intro z3 z4)
  clear h1 h2 g1 g3 g4 g5 y1 y5 y1a y1b y3 y4 y5a z3 z4
  unfold iV at *
  go_enter Try.func42, Try.ntmps42
  go_wp2_with fail
  refine calls_at (fun wa hwa => ?_)
  have BA : Blk wa w.heap.size 51 #[.int .i64 n.lvl, .slice (some x1) n.high.length c1, .int .i64 n.right, .slice (some x3) n.keys.length c3, .slice (some x4) n.vals.length c4, .slice (some x5) n.kids.length c5] := by rw [hwa]; exact (Blk.new _ _ _).alloc _
  have BB : Blk wa (w.heap.size + 1) 51 #[.int .i64 n.lvl, .slice B1 n.high.length d1, .int .i64 n.right, .slice B3 n.keys.length d3, .slice B4 n.vals.length d4, .slice B5 n.kids.length d5] := by rw [hwa]; exact Blk.new' (by simp) _ _
  have hka : Keeps Nob w wa := by rw [hwa]; exact (Keeps.alloc _ w _).alloc' _
  clear hwa
  refine (sameN (hO.out.keeps hka (fun _ _ _ => id)) (H2.out.keeps hka (fun _ _ _ => id))).mono ?_
  rintro e w1 ⟨rfl, hK⟩
  rw [sameNd_self]
  have BA1 := BA.keeps hK id
  have BB1 := BB.keeps hK id
  have K1 := Lib.hid (hka.trans hK (fun _ _ h => h))
  obtain ⟨y1a, y1b, y3, y4, y5a⟩ := Y.out
  have j1 := K1.out.cell y1a id
  have j2 : w1.cell? ⟨x1.block, x1.off + (n.high.length + 1), none⟩ = some (.int .u8 7) := by have := K1.out.cell y1b id; unfold Addr.add at this; simpa using this
  have j3 := K1.out.cell y3 id
  have j4 := K1.out.cell y4 id
  have j5 := K1.out.cell y5a id
  have s3 := run_str (Z.out.1.keeps K1.out (fun _ _ _ => id))
  have s4 := run_str (Z.out.2.keeps K1.out (fun _ _ _ => id))
  have q := fun i => BA1.cell i
  have p := fun i => BB1.cell i
  clear BA BB hka hK y1a y1b y3 y4 y5a Y Z BA1 BB1
  go_wp2
  go_ret
  exact ⟨rfl, K1.out⟩
end
end Go.Proofs.Ytdmmhblmgbhgfaa

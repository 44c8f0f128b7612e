/- Are two nodes the same: the document's answer. -/
import Derived.Test.YtbhohohgojcapaaTexts
namespace Go.Proofs.Ytbhohohgojcapaa
open Go.RowKit

section
variable {S T : Nat → Prop} {w : World} {a0 a1 a2 a3 a4 a5 b0 b1 b2 b3 b4 b5 : Value} {n m : Nd}
set_option maxRecDepth 100000 in
set_option maxHeartbeats 1000000 in
theorem sameN (h1 : IsNd w S a0 a1 a2 a3 a4 a5 n) (h2 : IsNd w T b0 b1 b2 b3 b4 b5 m) : Calls Try.prog 19 #[.agg #[a0, a1, a2, a3, a4, a5], .agg #[b0, b1, b2, b3, b4, b5]] w fun e w' => e = .returned (.bool (sameNd n m)) ∧ Keeps Nob w w' := by
  have H1 := Lib.hid h1
  have H2 := Lib.hid h2
  unfold sameNd
  clear h1 h2
  generalize hh : sameHd n m = bh
  generalize hb : sameBd n m = bb
  have HH := Lib.hid hh
  have HB := Lib.hid hb
  clear hh hb
  go_enter Try.func19, Try.ntmps19
  go_wp2_with fail
  refine calls_at (fun wa hwa => ?_)
  have BA : Blk wa w.heap.size 37 #[a0, a1, a2, a3, a4, a5] := by rw [hwa]; exact (Blk.new _ _ _).alloc _
  have BB : Blk wa (w.heap.size + 1) 37 #[b0, b1, b2, b3, b4, b5] := by rw [hwa]; exact Blk.new' (by simp) _ _
  have hka : Keeps Nob w wa := by rw [hwa]; exact (Keeps.alloc _ w _).alloc' _
  clear hwa
  refine (sameH (H1.out.1.keeps hka (fun _ _ _ => id)) (H2.out.1.keeps hka (fun _ _ _ => id))).mono ?_
  rintro e w1 ⟨rfl, hK⟩
  rw [HH.out]
  have BA1 := BA.keeps hK id
  have BB1 := BB.keeps hK id
  have K1 := Lib.hid (hka.trans hK (fun _ _ h => h))
  clear BA BB hka hK
  have q3 := BA1.cell 3
  have q4 := BA1.cell 4
  have q5 := BA1.cell 5
  have p3 := BB1.cell 3
  have p4 := BB1.cell 4
  have p5 := BB1.cell 5
  clear BA1 BB1
  go_wp2_with fail
  refine (sameB (H1.out.2.keeps K1.out (fun _ _ _ => id)) (H2.out.2.keeps K1.out (fun _ _ _ => id))).mono ?_
  rintro e w2 ⟨rfl, hK⟩
  rw [HB.out]
  have K2 := Lib.hid (K1.out.trans hK (fun _ _ h => h))
  clear hK K1 q3 q4 q5 p3 p4 p5
  cases bh
  all_goals
    go_wp2
    go_ret
    exact ⟨rfl, K2.out⟩
end
end Go.Proofs.Ytbhohohgojcapaa

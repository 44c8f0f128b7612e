/- The live question of layer 9: its answer is yes. -/
import Derived.Test.YtdmmhblmgbhgfaaWith
import Derived.Lib.SlBytesConst
namespace Go.Proofs.Ytdmmhblmgbhgfaa
open Go.RowKit

theorem cell_mark (w : World) (b : Nat) (x : Value) (e : TypeId) (f : Nat × Nat) (hb : b = w.heap.size) : (w.alloc (.cells #[x] e f)).cell? ⟨b, 0, none⟩ = some x := by
  subst hb
  have h : (w.alloc (.cells #[x] e f)).heap[w.heap.size]? = some (.cells #[x] e f) := heap_alloc_new w _
  exact cell_of_row _ _ 0 #[x] e f h
theorem byts_one {w : World} {S : Nat → Prop} {g : Nat} {x : UInt8} (h : w.cell? ⟨g, 0, none⟩ = some (bV x)) (hs : S g) : Byts w S (.slice (some ⟨g, 0, none⟩) 1 1) [x] := by
  refine ⟨_, _, rfl, Nat.le_refl _, by decide, fun _ => ⟨_, rfl, hs, fun i y hx => ?_⟩⟩
  match i, hx with
  | 0, hx => cases hx; rw [add_lit]; exact h
theorem txts_two {w : World} {S : Nat → Prop} {g : Nat} {u1 u2 : Value} {x1 x2 : List UInt8} (hc1 : w.cell? ⟨g, 0, none⟩ = some u1) (hc2 : w.cell? ⟨g, 1, none⟩ = some u2) (hs : S g) (h1 : Byts w S u1 x1) (h2 : Byts w S u2 x2) : Txts w S (.slice (some ⟨g, 0, none⟩) 2 2) [x1, x2] := by
  refine ⟨[u1, u2], ⟨_, _, rfl, Nat.le_refl _, by decide, fun _ => ⟨_, rfl, hs, fun i x hx => ?_⟩⟩, rfl, fun i a y ha hy => ?_⟩
  · rw [add_lit]
    match i, hx with
    | 0, hx => cases hx; exact hc1
    | 1, hx => cases hx; exact hc2
  · match i, ha, hy with
    | 0, ha, hy => cases ha; cases hy; exact h1
    | 1, ha, hy => cases ha; cases hy; exact h2

def n9 : Nd := ⟨0, [], 0, [[98], [100]], [[49], [50]], []⟩
theorem wth9 : wth n9 [99] [51] = ⟨0, [], 0, [[98], [99], [100]], [[49], [51], [50]], []⟩ := by rfl
theorem find9 : below [[98], [99], [100]] [99] = 1 ∧ has [[98], [99], [100]] [99] = true := ⟨rfl, rfl⟩

theorem sm9 : NdSm 64 n9 := by
  refine ⟨by unfold Sm; decide, ⟨by unfold Sm; decide, fun x hx => ?_⟩, ⟨by unfold Sm; decide, fun x hx => ?_⟩, by unfold Sm; decide⟩ <;> (simp [n9] at hx; rcases hx with rfl | rfl <;> (unfold Sm; decide))

set_option maxRecDepth 100000 in
set_option maxHeartbeats 1000000 in
theorem head9 (w : World) : Calls Try.prog 38 #[] w fun e w' => e = .returned (.bool true) ∧ Keeps Nob w w' := by
  have hcv : ∀ (w : World) (b : Nat) (C : Array Value) (n c : Nat), b = w.heap.size → (convert 44 44 (.slice (some ⟨b, 0, none⟩) n c)).run Try.prog (w.alloc (.cells C 5)) = .ok (.slice (some ⟨b, 0, none⟩) n c) (w.alloc (.cells C 5 (C.size, C.size + 1))) := fun w b C n c hb => by
    subst hb; exact Lib.run_convert_bytes_const (P := Try.prog) w 44 5 C n c Try.underlying44 Try.underlying5
  go_enter Try.func38, Try.ntmps38
  go_wp2_with (first
    | (go_at_call 55; refine calls_at (fun wa hwa => ?_);
       have hka : Keeps Nob w wa := (by rw [hwa]; exact ((((((((Keeps.alloc _ w _).alloc' _).alloc' _).alloc' _).alloc' _).alloc' _).alloc' _).alloc' _).alloc' _);
       have q1 : wa.cell? ⟨w.heap.size, 0, none⟩ = some (bV 98) := (by rw [hwa]; go_simp; exact cell_mark _ _ _ _ _ (by simp));
       have q2 : wa.cell? ⟨w.heap.size + 1, 0, none⟩ = some (bV 100) := (by rw [hwa]; go_simp; exact cell_mark _ _ _ _ _ (by simp));
       have q3 : wa.cell? ⟨w.heap.size + 1 + 1, 0, none⟩ = some (.slice (some ⟨w.heap.size, 0, none⟩) 1 1) := (by rw [hwa]; go_simp);
       have q4 : wa.cell? ⟨w.heap.size + 1 + 1, 1, none⟩ = some (.slice (some ⟨w.heap.size + 1, 0, none⟩) 1 1) := (by rw [hwa]; go_simp);
       have q5 : wa.cell? ⟨w.heap.size + 1 + 1 + 1, 0, none⟩ = some (bV 49) := (by rw [hwa]; go_simp; exact cell_mark _ _ _ _ _ (by simp));
       have q6 : wa.cell? ⟨w.heap.size + 1 + 1 + 1 + 1, 0, none⟩ = some (bV 50) := (by rw [hwa]; go_simp; exact cell_mark _ _ _ _ _ (by simp));
       have q7 : wa.cell? ⟨w.heap.size + 1 + 1 + 1 + 1 + 1, 0, none⟩ = some (.slice (some ⟨w.heap.size + 1 + 1 + 1, 0, none⟩) 1 1) := (by rw [hwa]; go_simp);
       have q8 : wa.cell? ⟨w.heap.size + 1 + 1 + 1 + 1 + 1, 1, none⟩ = some (.slice (some ⟨w.heap.size + 1 + 1 + 1 + 1, 0, none⟩) 1 1) := (by rw [hwa]; go_simp);
       have q9 : wa.cell? ⟨w.heap.size + 1 + 1 + 1 + 1 + 1 + 1 + 1, 0, none⟩ = some (bV 99) := (by rw [hwa]; go_simp; exact cell_mark _ _ _ _ _ (by simp));
       have q10 : wa.cell? ⟨w.heap.size + 1 + 1 + 1 + 1 + 1 + 1 + 1 + 1, 0, none⟩ = some (bV 51) := (by rw [hwa]; go_simp; exact cell_mark _ _ _ _ _ (by simp));
       clear hwa;
       have hn : IsNd wa (fun _ => True) (.int .i64 0) (.slice none 0 0) (.int .i64 0) (.slice (some ⟨w.heap.size + 1 + 1, 0, none⟩) 2 2) (.slice (some ⟨w.heap.size + 1 + 1 + 1 + 1 + 1, 0, none⟩) 2 2) (.slice none 0 0) n9 :=
         ⟨⟨rfl, SlR.nil _ _ _ _ (by decide), rfl⟩, txts_two q3 q4 trivial (byts_one q1 trivial) (byts_one q2 trivial), txts_two q7 q8 trivial (byts_one q5 trivial) (byts_one q6 trivial), SlR.nil _ _ _ _ (by decide)⟩;
       refine (withP hn (byts_one (S := fun _ => True) q9 trivial) (byts_one (S := fun _ => True) q10 trivial) sm9 (by unfold Sm; decide) (by unfold Sm; decide)).mono ?_;
       rintro e w1 ⟨d0, d1, d2, d3, d4, d5, rfl, hO, hK⟩;
       rw [wth9] at hO;
       obtain ⟨D3, j3, f3⟩ := hO.2.keys.form;
       obtain ⟨D4, j4, f4⟩ := hO.2.vals.form;
       obtain ⟨D1, j1, f1⟩ := Own.form hO.1.high;
       obtain ⟨D5, j5, f5⟩ := Own.form hO.2.kids;
       have f0 := hO.1.lvl;
       have f2 := hO.1.right;
       unfold iV at f0 f2;
       simp only [List.length_cons, List.length_nil, Nat.zero_add, Nat.reduceAdd] at f1 f3 f4 f5;
       subst f0 f1 f2 f3 f4 f5;
       have HO := Lib.hid hO;
       have HKW := Lib.hid (hka.trans hK (fun _ _ => id));
       clear hO hK hka hn q1 q2 q3 q4 q5 q6 q7 q8 q9 q10)
    | (go_at_call 49; refine calls_at (fun wb hwb => ?_);
       have BX : Hid (Blk wb w1.heap.size 51 #[.int .i64 0, .slice D1 0 j1, .int .i64 0, .slice D3 3 j3, .slice D4 3 j4, .slice D5 0 j5]) := (by rw [hwb]; go_loud (exact (Blk.new _ _ _).alloc _));
       have HKB : Hid (Keeps Nob w1 wb) := (by rw [hwb]; exact (Keeps.alloc _ w1 _).alloc' _);
       have q9 : wb.cell? ⟨w1.heap.size + 1, 0, none⟩ = some (bV 99) := (by rw [hwb]; go_simp; exact cell_mark _ _ _ _ _ (by simp));
       clear hwb;
       refine (findP (HO.out.r.2.keys.keeps HKB.out (fun _ _ _ => id)) (byts_one (S := fun _ => True) q9 trivial)).mono ?_;
       rintro e w3 ⟨rfl, hK3⟩;
       rw [find9.1, find9.2];
       have HK3 := Lib.hid hK3;
       have z3 := (BX.out.keeps hK3 id).cell 3;
       have z4 := (BX.out.keeps hK3 id).cell 4;
       clear hK3))
  go_ret
  exact ⟨rfl, (HKW.out.trans HKB.out (fun _ _ => id)).trans HK3.out (fun _ _ => id)⟩
end Go.Proofs.Ytdmmhblmgbhgfaa

/- NodeMay, walked. -/
import Derived.Test.YtdmmhblmgbhgfaaHead9
import Derived.Test.YtdmmhblmgbhgfaaLent
import Derived.Test.YtdmmhblmgbhgfaaWhole
import Derived.Test.YtdmmhblmgbhgfaaCheckF
namespace Go.Proofs.Ytdmmhblmgbhgfaa
open Go.RowKit

section
variable {w : World} {c0 c1 c2 c3 c4 c5 ck : Value} {n : Nd}

set_option maxRecDepth 100000 in
set_option maxHeartbeats 1000000 in
theorem may_ok {a0 a1 a2 a3 a4 : Int} (h : IsNd w (fun b => b < w.heap.size) c0 c1 c2 c3 c4 c5 n) (hs : NdSm 64 n) (hk : ∀ k ∈ n.kids, K64 k) :
    Calls Try.prog 15 #[.agg #[c0, c1, c2, c3, c4, c5], .agg #[.int .i64 a0, .int .i64 a1, .int .i64 a2, .int .i64 a3, .int .i64 a4]] w fun e w' => e = .returned (.bool true) ∧ Keeps Nob w w' := by
  have H := Lib.hid h
  have HKW := Lib.hid hk
  have HS : Hid (NdSm 64 n) := hs
  clear h hs hk
  obtain ⟨vm, hvm⟩ : ∃ v, mayE n a0 a1 a2 a3 a4 = v := ⟨_, rfl⟩
  have Vm := Lib.hid hvm
  clear hvm
  go_enter Try.func15, Try.ntmps15
  go_wp2_with fail
  refine calls_at (fun wa hw => ?_)
  have hk : Keeps Nob w wa := by rw [hw]; exact (Keeps.alloc _ _ _).alloc' _
  have BN : Hid (Blk wa (w.heap.size) 51 #[c0, c1, c2, c3, c4, c5]) := by rw [hw]; exact (Blk.new _ _ _).alloc _
  have BC : Hid (Blk wa (w.heap.size + 1) 82 #[.int .i64 a0, .int .i64 a1, .int .i64 a2, .int .i64 a3, .int .i64 a4]) := by rw [hw]; exact Blk.new' (by simp) _ _
  have szwa := hk.size
  have ltBN := BN.out.lt
  have ltBC := BC.out.lt
  have K := Lib.hid hk
  clear hw hk
  have HN := Lib.hid (H.out.keeps K.out (fun _ _ _ => id))
  clear H
  refine (head9 wa).mono ?_
  rintro e w1 ⟨rfl, hk⟩
  replace BN := Lib.hid (BN.out.keeps hk id)
  replace BC := Lib.hid (BC.out.keeps hk id)
  replace HN := Lib.hid (HN.out.keeps hk (fun _ _ _ => id))
  have szw1 := hk.size
  replace K := Lib.hid (K.out.trans hk (fun _ _ h => h))
  clear hk
  have qBN := fun i => BN.out.cell i
  have lBN := BN.out.lt
  go_wp2_with fail
  clear qBN lBN
  refine (lent9 HN.out HS.out).mono ?_
  rintro e w2 ⟨d0, d1, d2, d3, d4, d5, rfl, hX, hk⟩
  replace BN := Lib.hid (BN.out.keeps hk id)
  replace BC := Lib.hid (BC.out.keeps hk id)
  replace HN := Lib.hid (HN.out.keeps hk (fun _ _ _ => id))
  have szw2 := hk.size
  replace K := Lib.hid (K.out.trans hk (fun _ _ h => h))
  clear hk
  obtain ⟨D1, dj1, f1⟩ := Own.form hX.high.o
  obtain ⟨D3, dj3, f3⟩ := OTx.form hX.keys.o
  obtain ⟨D4, dj4, f4⟩ := OTx.form hX.vals.o
  obtain ⟨D5, dj5, f5⟩ := Own.form hX.kids.o
  have f0 := hX.lvl
  have f2 := hX.right
  unfold iV at f0 f2
  subst f0 f1 f2 f3 f4 f5
  have HX := Lib.hid hX
  clear hX
  have qBC := fun i => BC.out.cell i
  have lBC := BC.out.lt
  go_wp2_with fail
  clear qBC lBC
  refine calls_at (fun wb hw => ?_)
  have hk : Keeps Nob w2 wb := by rw [hw]; exact Keeps.alloc _ _ _
  have BX : Hid (Blk wb (w2.heap.size) 51 #[.int .i64 n.lvl, .slice D1 n.high.length dj1, .int .i64 n.right, .slice D3 n.keys.length dj3, .slice D4 n.vals.length dj4, .slice D5 n.kids.length dj5]) := by rw [hw]; exact Blk.new _ _ _
  replace BN := Lib.hid (BN.out.keeps hk id)
  replace BC := Lib.hid (BC.out.keeps hk id)
  replace HN := Lib.hid (HN.out.keeps hk (fun _ _ _ => id))
  replace HX := Lib.hid (HX.out.keeps hk (fun _ _ _ => id))
  have szwb := hk.size
  have ltBX := BX.out.lt
  replace K := Lib.hid (K.out.trans hk (fun _ _ h => h))
  clear hw hk
  refine (checkP (a0 := a0) (a1 := a1) (a2 := a2) (a3 := a3) (a4 := a4) HX.out.o.r HKW.out (HS.out.mono (by decide))).mono ?_
  rintro e w3 ⟨rfl, hk⟩
  replace BN := Lib.hid (BN.out.keeps hk id)
  replace BC := Lib.hid (BC.out.keeps hk id)
  replace HN := Lib.hid (HN.out.keeps hk (fun _ _ _ => id))
  replace HX := Lib.hid (HX.out.keeps hk (fun _ _ _ => id))
  replace BX := Lib.hid (BX.out.keeps hk id)
  have szw3 := hk.size
  replace K := Lib.hid (K.out.trans hk (fun _ _ h => h))
  clear hk
  rw [Vm.out]
  have qBX := fun i => BX.out.cell i
  have lBX := BX.out.lt
  have qBN := fun i => BN.out.cell i
  have lBN := BN.out.lt
  go_wp2_with fail
  clear qBX lBX qBN lBN
  refine (whole9 HX.out HN.out).mono ?_
  rintro e w4 ⟨rfl, hk⟩
  replace BN := Lib.hid (BN.out.keeps hk id)
  replace BC := Lib.hid (BC.out.keeps hk id)
  replace HN := Lib.hid (HN.out.keeps hk (fun _ _ _ => id))
  replace HX := Lib.hid (HX.out.keeps hk (fun _ _ _ => id))
  replace BX := Lib.hid (BX.out.keeps hk id)
  have szw4 := hk.size
  replace K := Lib.hid (K.out.trans hk (fun _ _ h => h))
  clear hk
  have qBN := fun i => BN.out.cell i
  have lBN := BN.out.lt
  have qBC := fun i => BC.out.cell i
  have lBC := BC.out.lt
  go_wp2_with fail
  clear qBN lBN qBC lBC
  refine (checkR (a0 := a0) (a1 := a1) (a2 := a2) (a3 := a3) (a4 := a4) HN.out (HS.out.mono (by decide))).mono ?_
  rintro e w5 ⟨rfl, hk⟩
  replace BN := Lib.hid (BN.out.keeps hk id)
  replace BC := Lib.hid (BC.out.keeps hk id)
  replace HN := Lib.hid (HN.out.keeps hk (fun _ _ _ => id))
  replace HX := Lib.hid (HX.out.keeps hk (fun _ _ _ => id))
  replace BX := Lib.hid (BX.out.keeps hk id)
  have szw5 := hk.size
  replace K := Lib.hid (K.out.trans hk (fun _ _ h => h))
  clear hk
  rw [Vm.out]
  go_wp2
  go_ret
  exact ⟨by simp, K.out⟩
end
end Go.Proofs.Ytdmmhblmgbhgfaa

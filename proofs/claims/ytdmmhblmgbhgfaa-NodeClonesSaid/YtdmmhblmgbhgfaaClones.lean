/- NodeClones, walked. -/
import Derived.Test.YtdmmhblmgbhgfaaHead9
import Derived.Test.YtdmmhblmgbhgfaaLent
import Derived.Test.YtdmmhblmgbhgfaaSpoil
import Derived.Test.YtdmmhblmgbhgfaaWhole
namespace Go.Proofs.Ytdmmhblmgbhgfaa
open Go.RowKit

section
variable {w : World} {c0 c1 c2 c3 c4 c5 : Value} {n : Nd}

set_option maxRecDepth 100000 in
set_option maxHeartbeats 1000000 in
theorem clones_ok (h : IsNd w (fun b => b < w.heap.size) c0 c1 c2 c3 c4 c5 n) (hs : NdSm 64 n) :
    Calls Try.prog 8 #[.agg #[c0, c1, c2, c3, c4, c5]] w fun e w' => e = .returned (.bool true) ∧ Keeps Nob w w' := by
  have H := Lib.hid h
  have HS : Hid (NdSm 64 n) := hs
  clear h hs
  go_enter Try.func8, Try.ntmps8
  go_wp2_with fail
  refine calls_at (fun wa hw => ?_)
  have hk : Keeps Nob w wa := by rw [hw]; exact Keeps.alloc _ _ _
  have BN : Hid (Blk wa (w.heap.size) 51 #[c0, c1, c2, c3, c4, c5]) := by rw [hw]; exact Blk.new _ _ _
  have szwa := hk.size
  have ltBN := BN.out.lt
  have K := Lib.hid hk
  clear hw hk
  have HN := Lib.hid (H.out.keeps K.out (fun _ _ _ => id))
  clear H
  refine (head9 wa).mono ?_
  rintro e w1 ⟨rfl, hk⟩
  replace BN := Lib.hid (BN.out.keeps hk id)
  replace HN := Lib.hid (HN.out.keeps hk (fun _ _ _ => id))
  have szw1 := hk.size
  replace K := Lib.hid (K.out.trans hk (fun _ _ h => h))
  clear hk
  have qBN := fun i => BN.out.cell i
  have lBN := BN.out.lt
  go_wp2_with fail
  clear qBN lBN
  refine (lent9 HN.out HS.out).mono ?_
  rintro e w2 ⟨d0, d1, d2, d3, d4, d5, rfl, hX, hk⟩
  replace BN := Lib.hid (BN.out.keeps hk id)
  replace HN := Lib.hid (HN.out.keeps hk (fun _ _ _ => id))
  have szw2 := hk.size
  replace K := Lib.hid (K.out.trans hk (fun _ _ h => h))
  clear hk
  obtain ⟨D1, dj1, f1⟩ := Own.form hX.high.o
  obtain ⟨D3, dj3, f3⟩ := OTx.form hX.keys.o
  obtain ⟨D4, dj4, f4⟩ := OTx.form hX.vals.o
  obtain ⟨D5, dj5, f5⟩ := Own.form hX.kids.o
  have f0 := hX.lvl
  have f2 := hX.right
  unfold iV at f0 f2
  subst f0 f1 f2 f3 f4 f5
  have HX := Lib.hid hX
  clear hX
  go_wp2_with fail
  refine calls_at (fun wb hw => ?_)
  have hk : Keeps Nob w2 wb := by rw [hw]; exact Keeps.alloc _ _ _
  have BX : Hid (Blk wb (w2.heap.size) 51 #[.int .i64 n.lvl, .slice D1 n.high.length dj1, .int .i64 n.right, .slice D3 n.keys.length dj3, .slice D4 n.vals.length dj4, .slice D5 n.kids.length dj5]) := by rw [hw]; exact Blk.new _ _ _
  replace BN := Lib.hid (BN.out.keeps hk id)
  replace HN := Lib.hid (HN.out.keeps hk (fun _ _ _ => id))
  replace HX := Lib.hid (HX.out.keeps hk (fun _ _ _ => id))
  have szwb := hk.size
  have ltBX := BX.out.lt
  replace K := Lib.hid (K.out.trans hk (fun _ _ h => h))
  clear hw hk
  refine (cloneP HX.out.o.r (HS.out.mono (by decide))).mono ?_
  rintro e w3 ⟨a0, a1, a2, a3, a4, a5, rfl, hHA, hk, _⟩
  replace BN := Lib.hid (BN.out.keeps hk id)
  replace HN := Lib.hid (HN.out.keeps hk (fun _ _ _ => id))
  replace HX := Lib.hid (HX.out.keeps hk (fun _ _ _ => id))
  replace BX := Lib.hid (BX.out.keeps hk id)
  have szw3 := hk.size
  replace K := Lib.hid (K.out.trans hk (fun _ _ h => h))
  clear hk
  obtain ⟨A1, aj1, f1⟩ := Own.form hHA.1.high
  obtain ⟨A3, aj3, f3⟩ := OTx.form hHA.2.keys
  obtain ⟨A4, aj4, f4⟩ := OTx.form hHA.2.vals
  obtain ⟨A5, aj5, f5⟩ := Own.form hHA.2.kids
  have f0 := hHA.1.lvl
  have f2 := hHA.1.right
  unfold iV at f0 f2
  subst f0 f1 f2 f3 f4 f5
  have HA := Lib.hid hHA
  clear hHA
  have qBX := fun i => BX.out.cell i
  have lBX := BX.out.lt
  go_wp2_with fail
  clear qBX lBX
  refine calls_at (fun wc hw => ?_)
  have hk : Keeps Nob w3 wc := by rw [hw]; exact Keeps.alloc _ _ _
  have BA : Hid (Blk wc (w3.heap.size) 51 #[.int .i64 n.lvl, .slice A1 n.high.length aj1, .int .i64 n.right, .slice A3 n.keys.length aj3, .slice A4 n.vals.length aj4, .slice A5 n.kids.length aj5]) := by rw [hw]; exact Blk.new _ _ _
  replace BN := Lib.hid (BN.out.keeps hk id)
  replace HN := Lib.hid (HN.out.keeps hk (fun _ _ _ => id))
  replace HX := Lib.hid (HX.out.keeps hk (fun _ _ _ => id))
  replace BX := Lib.hid (BX.out.keeps hk id)
  replace HA := Lib.hid (HA.out.keeps hk (fun _ _ _ => id))
  have szwc := hk.size
  have ltBA := BA.out.lt
  replace K := Lib.hid (K.out.trans hk (fun _ _ h => h))
  clear hw hk
  refine (cloneP HX.out.o.r (HS.out.mono (by decide))).mono ?_
  rintro e w4 ⟨b0, b1, b2, b3, b4, b5, rfl, hB, hk, _⟩
  replace BN := Lib.hid (BN.out.keeps hk id)
  replace HN := Lib.hid (HN.out.keeps hk (fun _ _ _ => id))
  replace HX := Lib.hid (HX.out.keeps hk (fun _ _ _ => id))
  replace BX := Lib.hid (BX.out.keeps hk id)
  replace HA := Lib.hid (HA.out.keeps hk (fun _ _ _ => id))
  replace BA := Lib.hid (BA.out.keeps hk id)
  have szw4 := hk.size
  replace K := Lib.hid (K.out.trans hk (fun _ _ h => h))
  clear hk
  obtain ⟨B1, bj1, f1⟩ := Own.form hB.1.high
  obtain ⟨B3, bj3, f3⟩ := OTx.form hB.2.keys
  obtain ⟨B4, bj4, f4⟩ := OTx.form hB.2.vals
  obtain ⟨B5, bj5, f5⟩ := Own.form hB.2.kids
  have f0 := hB.1.lvl
  have f2 := hB.1.right
  unfold iV at f0 f2
  subst f0 f1 f2 f3 f4 f5
  have HB := Lib.hid hB
  clear hB
  have qBA := fun i => BA.out.cell i
  have lBA := BA.out.lt
  have qBN := fun i => BN.out.cell i
  have lBN := BN.out.lt
  go_wp2_with fail
  clear qBA lBA qBN lBN
  refine calls_at (fun wd hw => ?_)
  have hk : Keeps Nob w4 wd := by rw [hw]; exact Keeps.alloc _ _ _
  have BB : Hid (Blk wd (w4.heap.size) 51 #[.int .i64 n.lvl, .slice B1 n.high.length bj1, .int .i64 n.right, .slice B3 n.keys.length bj3, .slice B4 n.vals.length bj4, .slice B5 n.kids.length bj5]) := by rw [hw]; exact Blk.new _ _ _
  replace BN := Lib.hid (BN.out.keeps hk id)
  replace HN := Lib.hid (HN.out.keeps hk (fun _ _ _ => id))
  replace HX := Lib.hid (HX.out.keeps hk (fun _ _ _ => id))
  replace BX := Lib.hid (BX.out.keeps hk id)
  replace HA := Lib.hid (HA.out.keeps hk (fun _ _ _ => id))
  replace BA := Lib.hid (BA.out.keeps hk id)
  replace HB := Lib.hid (HB.out.keeps hk (fun _ _ _ => id))
  have szwd := hk.size
  have ltBB := BB.out.lt
  replace K := Lib.hid (K.out.trans hk (fun _ _ h => h))
  clear hw hk
  refine (sameN HA.out.r HN.out).mono ?_
  rintro e w5 ⟨rfl, hk⟩
  replace BN := Lib.hid (BN.out.keeps hk id)
  replace HN := Lib.hid (HN.out.keeps hk (fun _ _ _ => id))
  replace HX := Lib.hid (HX.out.keeps hk (fun _ _ _ => id))
  replace BX := Lib.hid (BX.out.keeps hk id)
  replace HA := Lib.hid (HA.out.keeps hk (fun _ _ _ => id))
  replace BA := Lib.hid (BA.out.keeps hk id)
  replace HB := Lib.hid (HB.out.keeps hk (fun _ _ _ => id))
  replace BB := Lib.hid (BB.out.keeps hk id)
  have szw5 := hk.size
  replace K := Lib.hid (K.out.trans hk (fun _ _ h => h))
  clear hk
  rw [sameNd_self]
  have qBA := fun i => BA.out.cell i
  have lBA := BA.out.lt
  go_wp2_with fail
  clear qBA lBA
  have HA2 := Lib.hid HA.out
  refine (spoil9 HA2.out).mono ?_
  rintro e w6 ⟨rfl, hk⟩
  replace BN := Lib.hid (BN.out.keeps hk (fun hm => by have := hm.1; have := hm.2; omega))
  replace HN := Lib.hid (HN.out.keeps hk (fun b hb hs hm => by have := hm.1; have := hm.2; have h1 : b < w.heap.size := hs; omega))
  replace HX := Lib.hid (HX.out.keeps hk (fun b hb hs hm => by have := hm.1; have := hm.2; have := hs.1; have := hs.2; omega))
  replace BX := Lib.hid (BX.out.keeps hk (fun hm => by have := hm.1; have := hm.2; omega))
  replace BA := Lib.hid (BA.out.keeps hk (fun hm => by have := hm.1; have := hm.2; omega))
  replace HB := Lib.hid (HB.out.keeps hk (fun b hb hs hm => by have := hm.1; have := hm.2; have := hs.1; have := hs.2; omega))
  replace BB := Lib.hid (BB.out.keeps hk (fun hm => by have := hm.1; have := hm.2; omega))
  have szw6 := hk.size
  replace K := Lib.hid (K.out.trans hk (fun b hb h => by have := h.1; omega))
  clear hk
  have qBB := fun i => BB.out.cell i
  have lBB := BB.out.lt
  have qBN := fun i => BN.out.cell i
  have lBN := BN.out.lt
  go_wp2_with fail
  clear qBB lBB qBN lBN
  refine (sameN HB.out.r HN.out).mono ?_
  rintro e w7 ⟨rfl, hk⟩
  replace BN := Lib.hid (BN.out.keeps hk id)
  replace HN := Lib.hid (HN.out.keeps hk (fun _ _ _ => id))
  replace HX := Lib.hid (HX.out.keeps hk (fun _ _ _ => id))
  replace BX := Lib.hid (BX.out.keeps hk id)
  replace BA := Lib.hid (BA.out.keeps hk id)
  replace HB := Lib.hid (HB.out.keeps hk (fun _ _ _ => id))
  replace BB := Lib.hid (BB.out.keeps hk id)
  have szw7 := hk.size
  replace K := Lib.hid (K.out.trans hk (fun _ _ h => h))
  clear hk
  rw [sameNd_self]
  have qBX := fun i => BX.out.cell i
  have lBX := BX.out.lt
  have qBN := fun i => BN.out.cell i
  have lBN := BN.out.lt
  go_wp2_with fail
  clear qBX lBX qBN lBN
  refine (whole9 HX.out HN.out).mono ?_
  rintro e w8 ⟨rfl, hk⟩
  replace BN := Lib.hid (BN.out.keeps hk id)
  replace HN := Lib.hid (HN.out.keeps hk (fun _ _ _ => id))
  replace HX := Lib.hid (HX.out.keeps hk (fun _ _ _ => id))
  replace BX := Lib.hid (BX.out.keeps hk id)
  replace BA := Lib.hid (BA.out.keeps hk id)
  replace HB := Lib.hid (HB.out.keeps hk (fun _ _ _ => id))
  replace BB := Lib.hid (BB.out.keeps hk id)
  have szw8 := hk.size
  replace K := Lib.hid (K.out.trans hk (fun _ _ h => h))
  clear hk
  go_wp2
  go_ret
  exact ⟨rfl, K.out⟩
end
end Go.Proofs.Ytdmmhblmgbhgfaa

/- NodeFinds, walked. -/
import Derived.Test.YtdmmhblmgbhgfaaHead9
import Derived.Test.YtdmmhblmgbhgfaaLent
import Derived.Test.YtdmmhblmgbhgfaaWhole
import Derived.Test.YtdmmhblmgbhgfaaBeyond
namespace Go.Proofs.Ytdmmhblmgbhgfaa
open Go.RowKit

section
variable {w : World} {c0 c1 c2 c3 c4 c5 ck : Value} {n : Nd} {key : List UInt8}

set_option maxRecDepth 100000 in
set_option maxHeartbeats 1000000 in
theorem finds_ok (h : IsNd w (fun b => b < w.heap.size) c0 c1 c2 c3 c4 c5 n) (hs : NdSm 64 n) (hky : Byts w (fun b => b < w.heap.size) ck key) :
    Calls Try.prog 11 #[.agg #[c0, c1, c2, c3, c4, c5], ck] w fun e w' => e = .returned (.bool true) ∧ Keeps Nob w w' := by
  have H := Lib.hid h
  have HKY := Lib.hid hky
  have HS : Hid (NdSm 64 n) := hs
  clear h hs hky
  obtain ⟨vb, hvb⟩ : ∃ v, beyond n.high key = v := ⟨_, rfl⟩
  obtain ⟨vi, hvi⟩ : ∃ v, below n.keys key = v := ⟨_, rfl⟩
  obtain ⟨vh, hvh⟩ : ∃ v, has n.keys key = v := ⟨_, rfl⟩
  obtain ⟨vc, hvc⟩ : ∃ v, childOf n.kids n.keys key = v := ⟨_, rfl⟩
  have Vb := Lib.hid hvb
  clear hvb
  have Vi := Lib.hid hvi
  clear hvi
  have Vh := Lib.hid hvh
  clear hvh
  have Vc := Lib.hid hvc
  clear hvc
  go_enter Try.func11, Try.ntmps11
  go_wp2_with fail
  refine calls_at (fun wa hw => ?_)
  have hk : Keeps Nob w wa := by rw [hw]; exact Keeps.alloc _ _ _
  have BN : Hid (Blk wa (w.heap.size) 51 #[c0, c1, c2, c3, c4, c5]) := by rw [hw]; exact Blk.new _ _ _
  have szwa := hk.size
  have ltBN := BN.out.lt
  have K := Lib.hid hk
  clear hw hk
  have HN := Lib.hid (H.out.keeps K.out (fun _ _ _ => id))
  clear H
  have HK := Lib.hid (HKY.out.keeps K.out (fun _ _ _ => id))
  clear HKY
  refine (head9 wa).mono ?_
  rintro e w1 ⟨rfl, hk⟩
  replace BN := Lib.hid (BN.out.keeps hk id)
  replace HN := Lib.hid (HN.out.keeps hk (fun _ _ _ => id))
  replace HK := Lib.hid (HK.out.keeps hk (fun _ _ _ => id))
  have szw1 := hk.size
  replace K := Lib.hid (K.out.trans hk (fun _ _ h => h))
  clear hk
  have qBN := fun i => BN.out.cell i
  have lBN := BN.out.lt
  go_wp2_with fail
  clear qBN lBN
  refine (lent9 HN.out HS.out).mono ?_
  rintro e w2 ⟨d0, d1, d2, d3, d4, d5, rfl, hX, hk⟩
  replace BN := Lib.hid (BN.out.keeps hk id)
  replace HN := Lib.hid (HN.out.keeps hk (fun _ _ _ => id))
  replace HK := Lib.hid (HK.out.keeps hk (fun _ _ _ => id))
  have szw2 := hk.size
  replace K := Lib.hid (K.out.trans hk (fun _ _ h => h))
  clear hk
  obtain ⟨D1, dj1, f1⟩ := Own.form hX.high.o
  obtain ⟨D3, dj3, f3⟩ := OTx.form hX.keys.o
  obtain ⟨D4, dj4, f4⟩ := OTx.form hX.vals.o
  obtain ⟨D5, dj5, f5⟩ := Own.form hX.kids.o
  have f0 := hX.lvl
  have f2 := hX.right
  unfold iV at f0 f2
  subst f0 f1 f2 f3 f4 f5
  have HX := Lib.hid hX
  clear hX
  go_wp2_with fail
  refine calls_at (fun wb hw => ?_)
  have hk : Keeps Nob w2 wb := by rw [hw]; exact Keeps.alloc _ _ _
  have BX : Hid (Blk wb (w2.heap.size) 51 #[.int .i64 n.lvl, .slice D1 n.high.length dj1, .int .i64 n.right, .slice D3 n.keys.length dj3, .slice D4 n.vals.length dj4, .slice D5 n.kids.length dj5]) := by rw [hw]; exact Blk.new _ _ _
  replace BN := Lib.hid (BN.out.keeps hk id)
  replace HN := Lib.hid (HN.out.keeps hk (fun _ _ _ => id))
  replace HK := Lib.hid (HK.out.keeps hk (fun _ _ _ => id))
  replace HX := Lib.hid (HX.out.keeps hk (fun _ _ _ => id))
  have szwb := hk.size
  have ltBX := BX.out.lt
  replace K := Lib.hid (K.out.trans hk (fun _ _ h => h))
  clear hw hk
  refine (beyondP HX.out.o.r.1.high HK.out).mono ?_
  rintro e w3 ⟨rfl, hk⟩
  replace BN := Lib.hid (BN.out.keeps hk id)
  replace HN := Lib.hid (HN.out.keeps hk (fun _ _ _ => id))
  replace HK := Lib.hid (HK.out.keeps hk (fun _ _ _ => id))
  replace HX := Lib.hid (HX.out.keeps hk (fun _ _ _ => id))
  replace BX := Lib.hid (BX.out.keeps hk id)
  have szw3 := hk.size
  replace K := Lib.hid (K.out.trans hk (fun _ _ h => h))
  clear hk
  rw [Vb.out]
  have qBX := fun i => BX.out.cell i
  have lBX := BX.out.lt
  go_wp2_with fail
  clear qBX lBX
  refine (findP HX.out.o.r.2.keys HK.out).mono ?_
  rintro e w4 ⟨rfl, hk⟩
  replace BN := Lib.hid (BN.out.keeps hk id)
  replace HN := Lib.hid (HN.out.keeps hk (fun _ _ _ => id))
  replace HK := Lib.hid (HK.out.keeps hk (fun _ _ _ => id))
  replace HX := Lib.hid (HX.out.keeps hk (fun _ _ _ => id))
  replace BX := Lib.hid (BX.out.keeps hk id)
  have szw4 := hk.size
  replace K := Lib.hid (K.out.trans hk (fun _ _ h => h))
  clear hk
  rw [Vi.out, Vh.out]
  have qBX := fun i => BX.out.cell i
  have lBX := BX.out.lt
  go_wp2_with fail
  clear qBX lBX
  refine (childP HX.out.o.r.2.keys HX.out.o.r.2.kids HK.out).mono ?_
  rintro e w5 ⟨rfl, hk⟩
  replace BN := Lib.hid (BN.out.keeps hk id)
  replace HN := Lib.hid (HN.out.keeps hk (fun _ _ _ => id))
  replace HK := Lib.hid (HK.out.keeps hk (fun _ _ _ => id))
  replace HX := Lib.hid (HX.out.keeps hk (fun _ _ _ => id))
  replace BX := Lib.hid (BX.out.keeps hk id)
  have szw5 := hk.size
  replace K := Lib.hid (K.out.trans hk (fun _ _ h => h))
  clear hk
  rw [Vc.out]
  have qBN := fun i => BN.out.cell i
  have lBN := BN.out.lt
  go_wp2_with fail
  clear qBN lBN
  refine (findR HN.out.2.keys HK.out).mono ?_
  rintro e w6 ⟨rfl, hk⟩
  replace BN := Lib.hid (BN.out.keeps hk id)
  replace HN := Lib.hid (HN.out.keeps hk (fun _ _ _ => id))
  replace HK := Lib.hid (HK.out.keeps hk (fun _ _ _ => id))
  replace HX := Lib.hid (HX.out.keeps hk (fun _ _ _ => id))
  replace BX := Lib.hid (BX.out.keeps hk id)
  have szw6 := hk.size
  replace K := Lib.hid (K.out.trans hk (fun _ _ h => h))
  clear hk
  rw [Vi.out, Vh.out]
  have qBX := fun i => BX.out.cell i
  have lBX := BX.out.lt
  have qBN := fun i => BN.out.cell i
  have lBN := BN.out.lt
  go_wp2_with fail
  clear qBX lBX qBN lBN
  refine (whole9 HX.out HN.out).mono ?_
  rintro e w7 ⟨rfl, hk⟩
  replace BN := Lib.hid (BN.out.keeps hk id)
  replace HN := Lib.hid (HN.out.keeps hk (fun _ _ _ => id))
  replace HK := Lib.hid (HK.out.keeps hk (fun _ _ _ => id))
  replace HX := Lib.hid (HX.out.keeps hk (fun _ _ _ => id))
  replace BX := Lib.hid (BX.out.keeps hk id)
  have szw7 := hk.size
  replace K := Lib.hid (K.out.trans hk (fun _ _ h => h))
  clear hk
  have qBN := fun i => BN.out.cell i
  have lBN := BN.out.lt
  go_wp2_with fail
  clear qBN lBN
  refine (beyondR HN.out.1.high HK.out).mono ?_
  rintro e w8 ⟨rfl, hk⟩
  replace BN := Lib.hid (BN.out.keeps hk id)
  replace HN := Lib.hid (HN.out.keeps hk (fun _ _ _ => id))
  replace HK := Lib.hid (HK.out.keeps hk (fun _ _ _ => id))
  replace HX := Lib.hid (HX.out.keeps hk (fun _ _ _ => id))
  replace BX := Lib.hid (BX.out.keeps hk id)
  have szw8 := hk.size
  replace K := Lib.hid (K.out.trans hk (fun _ _ h => h))
  clear hk
  rw [Vb.out]
  have qBN := fun i => BN.out.cell i
  have lBN := BN.out.lt
  go_wp2_with fail
  clear qBN lBN
  refine (childR HN.out.2.keys HN.out.2.kids HK.out).mono ?_
  rintro e w9 ⟨rfl, hk⟩
  replace BN := Lib.hid (BN.out.keeps hk id)
  replace HN := Lib.hid (HN.out.keeps hk (fun _ _ _ => id))
  replace HK := Lib.hid (HK.out.keeps hk (fun _ _ _ => id))
  replace HX := Lib.hid (HX.out.keeps hk (fun _ _ _ => id))
  replace BX := Lib.hid (BX.out.keeps hk id)
  have szw9 := hk.size
  replace K := Lib.hid (K.out.trans hk (fun _ _ h => h))
  clear hk
  rw [Vc.out]
  go_wp2
  go_ret
  exact ⟨rfl, K.out⟩
end
end Go.Proofs.Ytdmmhblmgbhgfaa

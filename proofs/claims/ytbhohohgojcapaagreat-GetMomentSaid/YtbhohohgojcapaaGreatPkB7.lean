import Derived.Test.YtbhohohgojcapaaGreatPkB5
import Derived.Test.YtbhohohgojcapaaGreatPkB6
set_option maxHeartbeats 64000000
namespace Go.Proofs.YtbhohohgojcapaaGreat
open Go.RowKit
def woutD (n : Nd) (key : List UInt8) : Nd := if has n.keys key then { n with keys := n.keys.eraseIdx (below n.keys key), vals := n.vals.eraseIdx (below n.keys key) } else n
section
variable {S T U : Nat -> Prop} {w : World} {c0 c1 c2 c3 c4 c5 ck cv : Value} {n : Nd} {key val : List UInt8}
set_option maxRecDepth 100000 in
theorem withoutR (h : IsNd w S c0 c1 c2 c3 c4 c5 n) (hk : Byts w T ck key) (hs : NdSm 64 n) :
  Calls Tryz.prog 39 #[.agg #[c0, c1, c2, c3, c4, c5], ck] w λ e w' => ∃ d0 d1 d2 d3 d4 d5, e = .returned (.tuple #[.agg #[d0, d1, d2, d3, d4, d5], .bool (has n.keys key)]) /\ ONd w' (Fresh w w') d0 d1 d2 d3 d4 d5 (woutD n key) /\ Keeps Nob w w' := by
 obtain ⟨A1, k1, e1, _, _⟩ := h.1.high.form
 obtain ⟨A3, k3, e3, _, _⟩ := h.2.keys.form
 obtain ⟨A4, k4, e4, _, _⟩ := h.2.vals.form
 obtain ⟨A5, k5, e5, _, _⟩ := h.2.kids.form
 have e0 := h.1.lvl
 have e2 := h.1.right
 subst e0 e1 e2 e3 e4 e5
 have H := Hd (h.mono (T := λ b => b < w.heap.size) (λ b hb _ => hb))
 have HK := Hd (hk.mono (T := λ b => b < w.heap.size) (λ b hb _ => hb))
 have HS : Hid (NdSm 64 n) := hs
 have hsz1 : n.keys.length <= 200000000000000 := by have := hs.2.1.1; unfold Sm at this; omega
 have hsz2 : n.vals.length <= 200000000000000 := by have := hs.2.2.1.1; unfold Sm at this; omega
 have hsz3 : n.kids.length <= 200000000000000 := by have := hs.2.2.2; unfold Sm at this; omega
 have hbl := below_le n.keys key
 obtain ⟨i, hbi⟩ : ∃ i, below n.keys key = i := ⟨_, rfl⟩
 obtain ⟨vh, hvh⟩ : ∃ v, has n.keys key = v := ⟨_, rfl⟩
 rw [hbi] at hbl
 have HBI := Hd hbi
 have HVH := Hd hvh
 have ha : Apart 35 := ⟨by decide, by decide, by decide⟩
 clear h hk hs hbi hvh
 unfold iV
 go_enter Tryz.func39, Tryz.ntmps39
 go_wp2_with fail
 refine calls_at (λ w1 hw => ?_)
 have hk : Keeps Nob w w1 := by rw [hw]; exact (Keeps.alloc _ _ _).alloc' _
 have BN : Hid (Blk w1 (w.heap.size) 35 #[.int .i64 n.lvl, .slice A1 n.high.length k1, .int .i64 n.right, .slice A3 n.keys.length k3, .slice A4 n.vals.length k4, .slice A5 n.kids.length k5]) := by rw [hw]; exact (Blk.new _ _ _).alloc _
 have BR : Hid (Blk w1 (w.heap.size + 1) 35 #[.int .i64 0, .slice none 0 0, .int .i64 0, .slice none 0 0, .slice none 0 0, .slice none 0 0]) := by rw [hw]; exact Blk.new' (by simp) _ _
 have szw1 := hk.size
 have ltBN := BN.out.lt
 have ltBR := BR.out.lt
 have K := Hd hk
 clear hw hk
 replace H := Hd (H.out.keeps K.out (λ _ _ _ => id))
 replace HK := Hd (HK.out.keeps K.out (λ _ _ _ => id))
 refine (cloneR H.out (HS.out.mono (by decide))).mono ?_
 rintro e w2 ⟨d0, d1, d2, d3, d4, d5, rfl, hO, hk, hP, _, _⟩
 replace BN := Hd (BN.out.keeps hk id)
 replace BR := Hd (BR.out.keeps hk id)
 replace H := Hd (H.out.keeps hk (λ _ _ _ => id))
 replace HK := Hd (HK.out.keeps hk (λ _ _ _ => id))
 have szw2 := hk.size
 replace K := tq_ K hk
 clear hk
 obtain ⟨D1, dj1, f1⟩ := Own.form hO.1.high
 obtain ⟨D3, dj3, f3⟩ := OTx.form hO.2.keys
 obtain ⟨D4, dj4, f4⟩ := OTx.form hO.2.vals
 obtain ⟨D5, dj5, f5⟩ := Own.form hO.2.kids
 have f0 := hO.1.lvl
 have f2 := hO.1.right
 unfold iV at f0 f2
 subst f0 f1 f2 f3 f4 f5
 have R1 : Hid (OBy w2 (From w.heap.size) (.slice D1 (n).high.length dj1) (n).high) := hO.1.high.mono (λ b _ hb => by have := hb.1; show w.heap.size <= b; omega)
 have R3 : Hid (OTx w2 (From w.heap.size) (.slice D3 (n).keys.length dj3) (n).keys) := hO.2.keys.mono (λ b _ hb => by have := hb.1; show w.heap.size <= b; omega)
 have R4 : Hid (OTx w2 (From w.heap.size) (.slice D4 (n).vals.length dj4) (n).vals) := hO.2.vals.mono (λ b _ hb => by have := hb.1; show w.heap.size <= b; omega)
 have R5 : Hid (OIn w2 (From w.heap.size) (.slice D5 (n).kids.length dj5) (n).kids) := hO.2.kids.mono (λ b _ hb => by have := hb.1; show w.heap.size <= b; omega)
 have HP : Hid (Prt (.slice D3 n.keys.length dj3) (.slice D4 n.vals.length dj4)) := hP
 clear hO hP
 have qBN := λ i => BN.out.cell i
 have gBN := λ i => BN.out.frozen i
 have lBN := BN.out.lt
 go_wp2_with fail
 clear qBN gBN lBN
 refine calls_at (λ w3 hw => ?_)
 have hk : Keeps Nob w2 w3 := by rw [hw]; exact Keeps.alloc _ _ _
 have BX : Hid (Blk w3 (w2.heap.size) 35 #[.int .i64 n.lvl, .slice D1 n.high.length dj1, .int .i64 n.right, .slice D3 n.keys.length dj3, .slice D4 n.vals.length dj4, .slice D5 n.kids.length dj5]) := by rw [hw]; exact Blk.new _ _ _
 replace BN := Hd (BN.out.keeps hk id)
 replace BR := Hd (BR.out.keeps hk id)
 replace H := Hd (H.out.keeps hk (λ _ _ _ => id))
 replace HK := Hd (HK.out.keeps hk (λ _ _ _ => id))
 replace R1 := Hd (R1.out.keeps hk (λ _ _ _ => id))
 replace R3 := Hd (R3.out.keeps hk (λ _ _ _ => id))
 replace R4 := Hd (R4.out.keeps hk (λ _ _ _ => id))
 replace R5 := Hd (R5.out.keeps hk (λ _ _ _ => id))
 have szw3 := hk.size
 have ltBX := BX.out.lt
 replace K := tq_ K hk
 clear hw hk
 refine (findR H.out.2.keys HK.out).mono ?_
 rintro e w4 ⟨rfl, hk⟩
 replace BN := Hd (BN.out.keeps hk id)
 replace BR := Hd (BR.out.keeps hk id)
 replace H := Hd (H.out.keeps hk (λ _ _ _ => id))
 replace HK := Hd (HK.out.keeps hk (λ _ _ _ => id))
 replace R1 := Hd (R1.out.keeps hk (λ _ _ _ => id))
 replace R3 := Hd (R3.out.keeps hk (λ _ _ _ => id))
 replace R4 := Hd (R4.out.keeps hk (λ _ _ _ => id))
 replace R5 := Hd (R5.out.keeps hk (λ _ _ _ => id))
 replace BX := Hd (BX.out.keeps hk id)
 have szw4 := hk.size
 replace K := tq_ K hk
 clear hk
 rw [HBI.out, HVH.out]
 cases vh with
 | false =>
  have hwo : woutD n key = n := by unfold woutD; rw [HVH.out]; rfl
  have qBX := λ i => BX.out.cell i
  have gBX := λ i => BX.out.frozen i
  have lBX := BX.out.lt
  have qBR := λ i => BR.out.cell i
  have gBR := λ i => BR.out.frozen i
  have lBR := BR.out.lt
  go_wp2
  refine post_at (λ w5 hw => ?_)
  clear qBX gBX lBX qBR gBR lBR
  have hk : Keeps (λ b => b = w.heap.size + 1) w4 w5 := by rw [hw]; exact (((((Keeps.setCell _ (M := λ b => b = w.heap.size + 1) rfl _).setCell' (λ _ => rfl) _).setCell' (λ _ => rfl) _).setCell' (λ _ => rfl) _).setCell' (λ _ => rfl) _).setCell' (λ _ => rfl) _
  have hb : Blk w5 (w.heap.size + 1) 35 #[.int .i64 n.lvl, .slice D1 n.high.length dj1, .int .i64 n.right, .slice D3 n.keys.length dj3, .slice D4 n.vals.length dj4, .slice D5 n.kids.length dj5] := by rw [hw]; exact ((((((BR.out.set_ 0 _).set_ 1 _).set_ 2 _).set_ 3 _).set_ 4 _).set_ 5 _)
  have hs : w5.heap.size = w4.heap.size := by rw [hw]; simp
  clear hw
  have r0 := hb.cell 0
  have r1 := hb.cell 1
  have r2 := hb.cell 2
  have r3 := hb.cell 3
  have r4 := hb.cell 4
  have r5 := hb.cell 5
  rw [hwo, HVH.out]
  refine bodyPost_ret (v := .tuple #[.agg #[.int .i64 n.lvl, .slice D1 n.high.length dj1, .int .i64 n.right, .slice D3 n.keys.length dj3, .slice D4 n.vals.length dj4, .slice D5 n.kids.length dj5], .bool false]) (by simp [results, Tryz.results39, go_sem, r0, r1, r2, r3, r4, r5]) rfl ⟨_, _, _, _, _, _, rfl, ⟨⟨rfl, ?_, rfl⟩, ?_, ?_, ?_⟩, K.out.trans hk (λ b hb e => by have h2 : b = _ := e; omega)⟩
  ·exact (R1.out.keepsB BR.out ha hk).mono (λ b hb h => ⟨h, hb⟩)
  ·exact (R3.out.keepsB BR.out ha hk).mono (λ b hb h => ⟨h, hb⟩)
  ·exact (R4.out.keepsB BR.out ha hk).mono (λ b hb h => ⟨h, hb⟩)
  ·exact (R5.out.keepsB BR.out ha hk).mono (λ b hb h => ⟨h, hb⟩)
 | true =>
  have hwo : woutD n key = { n with keys := n.keys.eraseIdx i, vals := n.vals.eraseIdx i } := by unfold woutD; rw [HVH.out, HBI.out]; rfl
  have qBN := λ i => BN.out.cell i
  have gBN := λ i => BN.out.frozen i
  have lBN := BN.out.lt
  go_wp2_with fail
  clear qBN gBN lBN
  refine (cutR H.out.2.keys HS.out.2.1).mono ?_
  rintro e w5 ⟨v, rfl, hO, hk⟩
  clear R3
  replace BN := Hd (BN.out.keeps hk id)
  replace BR := Hd (BR.out.keeps hk id)
  replace H := Hd (H.out.keeps hk (λ _ _ _ => id))
  replace HK := Hd (HK.out.keeps hk (λ _ _ _ => id))
  replace R1 := Hd (R1.out.keeps hk (λ _ _ _ => id))
  replace R4 := Hd (R4.out.keeps hk (λ _ _ _ => id))
  replace R5 := Hd (R5.out.keeps hk (λ _ _ _ => id))
  replace BX := Hd (BX.out.keeps hk id)
  obtain ⟨E3, e3j, hf⟩ := hO.form
  subst hf
  have szw5 := hk.size
  have R3 : Hid (OTx w5 (From w.heap.size) (.slice E3 (n.keys.eraseIdx i).length e3j) (n.keys.eraseIdx i)) := hO.mono (λ b _ hb => by have := hb.1; show w.heap.size <= b; omega)
  replace K := tq_ K hk
  clear hO hk
  have qBN := λ i => BN.out.cell i
  have gBN := λ i => BN.out.frozen i
  have lBN := BN.out.lt
  have qBX := λ i => BX.out.cell i
  have gBX := λ i => BX.out.frozen i
  have lBX := BX.out.lt
  go_wp2_with fail
  refine calls_at (λ w6 hw => ?_)
  have hk : Keeps (λ b => b = w2.heap.size) w5 w6 := by rw [hw]; exact Keeps.setCell _ (M := λ b => b = w2.heap.size) rfl _
  have hb : Hid (Blk w6 (w2.heap.size) 35 #[.int .i64 n.lvl, .slice D1 n.high.length dj1, .int .i64 n.right, .slice E3 (n.keys.eraseIdx i).length e3j, .slice D4 n.vals.length dj4, .slice D5 n.kids.length dj5]) := by rw [hw]; exact (BX.out.set_ 3 _)
  replace BN := Hd (BN.out.keeps hk (by show ¬ _ = _; omega))
  replace BR := Hd (BR.out.keeps hk (by show ¬ _ = _; omega))
  replace H := Hd (H.out.keeps hk (λ b _ hb e => by have h1 : b < w.heap.size := hb; have h2 : b = _ := e; omega))
  replace HK := Hd (HK.out.keeps hk (λ b _ hb e => by have h1 : b < w.heap.size := hb; have h2 : b = _ := e; omega))
  replace R1 := Hd (R1.out.keepsB BX.out ha hk)
  replace R4 := Hd (R4.out.keepsB BX.out ha hk)
  replace R5 := Hd (R5.out.keepsB BX.out ha hk)
  replace R3 := Hd (R3.out.keepsB BX.out ha hk)
  replace BX := hb
  clear hw hb
  have szw6 := hk.size
  replace K := Hd (K.out.trans hk (λ b hb e => by subst e; omega))
  clear hk
  clear qBN gBN lBN qBX gBX lBX
  refine (cutR H.out.2.vals HS.out.2.2.1).mono ?_
  rintro e w7 ⟨v, rfl, hO, hk⟩
  clear R4
  replace BN := Hd (BN.out.keeps hk id)
  replace BR := Hd (BR.out.keeps hk id)
  replace H := Hd (H.out.keeps hk (λ _ _ _ => id))
  replace HK := Hd (HK.out.keeps hk (λ _ _ _ => id))
  replace R1 := Hd (R1.out.keeps hk (λ _ _ _ => id))
  replace R5 := Hd (R5.out.keeps hk (λ _ _ _ => id))
  replace BX := Hd (BX.out.keeps hk id)
  replace R3 := Hd (R3.out.keeps hk (λ _ _ _ => id))
  obtain ⟨E4, e4j, hf⟩ := hO.form
  subst hf
  have szw7 := hk.size
  have R4 : Hid (OTx w7 (From w.heap.size) (.slice E4 (n.vals.eraseIdx i).length e4j) (n.vals.eraseIdx i)) := hO.mono (λ b _ hb => by have := hb.1; show w.heap.size <= b; omega)
  replace K := tq_ K hk
  clear hO hk
  have qBX := λ i => BX.out.cell i
  have gBX := λ i => BX.out.frozen i
  have lBX := BX.out.lt
  have qBR := λ i => BR.out.cell i
  have gBR := λ i => BR.out.frozen i
  have lBR := BR.out.lt
  go_wp2
  refine post_at (λ w8 hw => ?_)
  clear qBX gBX lBX qBR gBR lBR
  have hk0 : Keeps (λ b => b = w2.heap.size) w7 (w7.setCell ⟨w2.heap.size, 4, none⟩ (.slice E4 (n.vals.eraseIdx i).length e4j)) := Keeps.setCell _ (M := λ b => b = w2.heap.size) rfl _
  have hbr := BR.out.keeps hk0 (by show ¬ _ = _; omega)
  have hk : Keeps (λ b => b = w.heap.size + 1) (w7.setCell ⟨w2.heap.size, 4, none⟩ (.slice E4 (n.vals.eraseIdx i).length e4j)) w8 := by rw [hw]; exact (((((Keeps.setCell _ (M := λ b => b = w.heap.size + 1) rfl _).setCell' (λ _ => rfl) _).setCell' (λ _ => rfl) _).setCell' (λ _ => rfl) _).setCell' (λ _ => rfl) _).setCell' (λ _ => rfl) _
  have hb : Blk w8 (w.heap.size + 1) 35 #[.int .i64 n.lvl, .slice D1 n.high.length dj1, .int .i64 n.right, .slice E3 (n.keys.eraseIdx i).length e3j, .slice E4 (n.vals.eraseIdx i).length e4j, .slice D5 n.kids.length dj5] := by rw [hw]; exact ((((((hbr.set_ 0 _).set_ 1 _).set_ 2 _).set_ 3 _).set_ 4 _).set_ 5 _)
  clear hw
  have r0 := hb.cell 0
  have r1 := hb.cell 1
  have r2 := hb.cell 2
  have r3 := hb.cell 3
  have r4 := hb.cell 4
  have r5 := hb.cell 5
  rw [hwo, HVH.out]
  refine bodyPost_ret (v := .tuple #[.agg #[.int .i64 n.lvl, .slice D1 n.high.length dj1, .int .i64 n.right, .slice E3 (n.keys.eraseIdx i).length e3j, .slice E4 (n.vals.eraseIdx i).length e4j, .slice D5 n.kids.length dj5], .bool true]) (by simp [results, Tryz.results39, go_sem, r0, r1, r2, r3, r4, r5]) rfl ⟨_, _, _, _, _, _, rfl, ⟨⟨rfl, ?_, rfl⟩, ?_, ?_, ?_⟩, (K.out.trans hk0 (λ b hb e => by have h2 : b = _ := e; omega)).trans hk (λ b hb e => by have h2 : b = _ := e; omega)⟩
  ·exact ((R1.out.keepsB BX.out ha hk0).keepsB hbr ha hk).mono (λ b hb h => ⟨h, hb⟩)
  ·exact ((R3.out.keepsB BX.out ha hk0).keepsB hbr ha hk).mono (λ b hb h => ⟨h, hb⟩)
  ·exact ((R4.out.keepsB BX.out ha hk0).keepsB hbr ha hk).mono (λ b hb h => ⟨h, hb⟩)
  ·exact ((R5.out.keepsB BX.out ha hk0).keepsB hbr ha hk).mono (λ b hb h => ⟨h, hb⟩)
set_option maxRecDepth 100000 in
theorem withR (h : IsNd w S c0 c1 c2 c3 c4 c5 n) (hk : Byts w T ck key) (hv : Byts w U cv val) (hs : NdSm 64 n) (hsk : Sm 0 1 key.length) (hsv : Sm 0 1 val.length)
  (hc1 : has n.keys key = true -> below n.keys key < n.vals.length) (hc2 : has n.keys key = false -> below n.keys key <= n.vals.length) :
  Calls Tryz.prog 38 #[.agg #[c0, c1, c2, c3, c4, c5], ck, cv] w λ e w' => ∃ d0 d1 d2 d3 d4 d5, e = .returned (.agg #[d0, d1, d2, d3, d4, d5]) /\ ONd w' (Fresh w w') d0 d1 d2 d3 d4 d5 (wth n key val) /\ Keeps Nob w w' := by
 obtain ⟨A1, k1, e1, _, _⟩ := h.1.high.form
 obtain ⟨A3, k3, e3, _, _⟩ := h.2.keys.form
 obtain ⟨A4, k4, e4, _, _⟩ := h.2.vals.form
 obtain ⟨A5, k5, e5, _, _⟩ := h.2.kids.form
 have e0 := h.1.lvl
 have e2 := h.1.right
 subst e0 e1 e2 e3 e4 e5
 have H := Hd (h.mono (T := λ b => b < w.heap.size) (λ b hb _ => hb))
 have HK := Hd (hk.mono (T := λ b => b < w.heap.size) (λ b hb _ => hb))
 have HV := Hd (hv.mono (T := λ b => b < w.heap.size) (λ b hb _ => hb))
 have HSK : Hid (Sm 0 1 key.length) := hsk
 have HSV : Hid (Sm 0 1 val.length) := hsv
 have HC1 := Hd hc1
 have HC2 := Hd hc2
 have HS : Hid (NdSm 64 n) := hs
 have hsz1 : n.keys.length <= 200000000000000 := by have := hs.2.1.1; unfold Sm at this; omega
 have hsz2 : n.vals.length <= 200000000000000 := by have := hs.2.2.1.1; unfold Sm at this; omega
 have hsz3 : n.kids.length <= 200000000000000 := by have := hs.2.2.2; unfold Sm at this; omega
 have hbl := below_le n.keys key
 obtain ⟨i, hbi⟩ : ∃ i, below n.keys key = i := ⟨_, rfl⟩
 obtain ⟨vh, hvh⟩ : ∃ v, has n.keys key = v := ⟨_, rfl⟩
 rw [hbi] at hbl
 have HBI := Hd hbi
 have HVH := Hd hvh
 have ha : Apart 35 := ⟨by decide, by decide, by decide⟩
 rw [hbi] at hc1 hc2
 rw [hvh] at hc1 hc2
 clear h hk hs hbi hvh hv hsk hsv HC1 HC2
 unfold iV
 go_enter Tryz.func38, Tryz.ntmps38
 go_wp2_with fail
 refine calls_at (λ w1 hw => ?_)
 have hk : Keeps Nob w w1 := by rw [hw]; exact (Keeps.alloc _ _ _).alloc' _
 have BN : Hid (Blk w1 (w.heap.size) 35 #[.int .i64 n.lvl, .slice A1 n.high.length k1, .int .i64 n.right, .slice A3 n.keys.length k3, .slice A4 n.vals.length k4, .slice A5 n.kids.length k5]) := by rw [hw]; exact (Blk.new _ _ _).alloc _
 have BR : Hid (Blk w1 (w.heap.size + 1) 35 #[.int .i64 0, .slice none 0 0, .int .i64 0, .slice none 0 0, .slice none 0 0, .slice none 0 0]) := by rw [hw]; exact Blk.new' (by simp) _ _
 have szw1 := hk.size
 have ltBN := BN.out.lt
 have ltBR := BR.out.lt
 have K := Hd hk
 clear hw hk
 replace H := Hd (H.out.keeps K.out (λ _ _ _ => id))
 replace HK := Hd (HK.out.keeps K.out (λ _ _ _ => id))
 replace HV := Hd (HV.out.keeps K.out (λ _ _ _ => id))
 refine (cloneR H.out (HS.out.mono (by decide))).mono ?_
 rintro e w2 ⟨d0, d1, d2, d3, d4, d5, rfl, hO, hk, hP, _, _⟩
 replace BN := Hd (BN.out.keeps hk id)
 replace BR := Hd (BR.out.keeps hk id)
 replace H := Hd (H.out.keeps hk (λ _ _ _ => id))
 replace HK := Hd (HK.out.keeps hk (λ _ _ _ => id))
 replace HV := Hd (HV.out.keeps hk (λ _ _ _ => id))
 have szw2 := hk.size
 replace K := tq_ K hk
 clear hk
 obtain ⟨D1, dj1, f1⟩ := Own.form hO.1.high
 obtain ⟨D3, dj3, f3⟩ := OTx.form hO.2.keys
 obtain ⟨D4, dj4, f4⟩ := OTx.form hO.2.vals
 obtain ⟨D5, dj5, f5⟩ := Own.form hO.2.kids
 have f0 := hO.1.lvl
 have f2 := hO.1.right
 unfold iV at f0 f2
 subst f0 f1 f2 f3 f4 f5
 have R1 : Hid (OBy w2 (From w.heap.size) (.slice D1 (n).high.length dj1) (n).high) := hO.1.high.mono (λ b _ hb => by have := hb.1; show w.heap.size <= b; omega)
 have R3 : Hid (OTx w2 (From w.heap.size) (.slice D3 (n).keys.length dj3) (n).keys) := hO.2.keys.mono (λ b _ hb => by have := hb.1; show w.heap.size <= b; omega)
 have R4 : Hid (OTx w2 (From w.heap.size) (.slice D4 (n).vals.length dj4) (n).vals) := hO.2.vals.mono (λ b _ hb => by have := hb.1; show w.heap.size <= b; omega)
 have R5 : Hid (OIn w2 (From w.heap.size) (.slice D5 (n).kids.length dj5) (n).kids) := hO.2.kids.mono (λ b _ hb => by have := hb.1; show w.heap.size <= b; omega)
 have HP : Hid (Prt (.slice D3 n.keys.length dj3) (.slice D4 n.vals.length dj4)) := hP
 clear hO hP
 have qBN := λ i => BN.out.cell i
 have gBN := λ i => BN.out.frozen i
 have lBN := BN.out.lt
 go_wp2_with fail
 clear qBN gBN lBN
 refine calls_at (λ w3 hw => ?_)
 have hk : Keeps Nob w2 w3 := by rw [hw]; exact Keeps.alloc _ _ _
 have BX : Hid (Blk w3 (w2.heap.size) 35 #[.int .i64 n.lvl, .slice D1 n.high.length dj1, .int .i64 n.right, .slice D3 n.keys.length dj3, .slice D4 n.vals.length dj4, .slice D5 n.kids.length dj5]) := by rw [hw]; exact Blk.new _ _ _
 replace BN := Hd (BN.out.keeps hk id)
 replace BR := Hd (BR.out.keeps hk id)
 replace H := Hd (H.out.keeps hk (λ _ _ _ => id))
 replace HK := Hd (HK.out.keeps hk (λ _ _ _ => id))
 replace HV := Hd (HV.out.keeps hk (λ _ _ _ => id))
 replace R1 := Hd (R1.out.keeps hk (λ _ _ _ => id))
 replace R3 := Hd (R3.out.keeps hk (λ _ _ _ => id))
 replace R4 := Hd (R4.out.keeps hk (λ _ _ _ => id))
 replace R5 := Hd (R5.out.keeps hk (λ _ _ _ => id))
 have szw3 := hk.size
 have ltBX := BX.out.lt
 replace K := tq_ K hk
 clear hw hk
 refine (findR H.out.2.keys HK.out).mono ?_
 rintro e w4 ⟨rfl, hk⟩
 replace BN := Hd (BN.out.keeps hk id)
 replace BR := Hd (BR.out.keeps hk id)
 replace H := Hd (H.out.keeps hk (λ _ _ _ => id))
 replace HK := Hd (HK.out.keeps hk (λ _ _ _ => id))
 replace HV := Hd (HV.out.keeps hk (λ _ _ _ => id))
 replace R1 := Hd (R1.out.keeps hk (λ _ _ _ => id))
 replace R3 := Hd (R3.out.keeps hk (λ _ _ _ => id))
 replace R4 := Hd (R4.out.keeps hk (λ _ _ _ => id))
 replace R5 := Hd (R5.out.keeps hk (λ _ _ _ => id))
 replace BX := Hd (BX.out.keeps hk id)
 have szw4 := hk.size
 replace K := tq_ K hk
 clear hk
 rw [HBI.out, HVH.out]
 cases vh with
 | false =>
  have hiv := hc2 rfl
  have hwo : wth n key val = { n with keys := ins n.keys i key, vals := ins n.vals i val } := by unfold wth; rw [HVH.out, HBI.out, Nat.min_eq_left hiv]; rfl
  clear hc1 hc2
  have qBN := λ i => BN.out.cell i
  have gBN := λ i => BN.out.frozen i
  have lBN := BN.out.lt
  go_wp2_with fail
  clear qBN gBN lBN
  refine (putR H.out.2.keys HK.out HS.out.2.1 HSK.out hbl).mono ?_
  rintro e w5 ⟨v, rfl, hO, hk⟩
  clear R3
  replace BN := Hd (BN.out.keeps hk id)
  replace BR := Hd (BR.out.keeps hk id)
  replace H := Hd (H.out.keeps hk (λ _ _ _ => id))
  replace HK := Hd (HK.out.keeps hk (λ _ _ _ => id))
  replace R1 := Hd (R1.out.keeps hk (λ _ _ _ => id))
  replace R4 := Hd (R4.out.keeps hk (λ _ _ _ => id))
  replace R5 := Hd (R5.out.keeps hk (λ _ _ _ => id))
  replace BX := Hd (BX.out.keeps hk id)
  replace HV := Hd (HV.out.keeps hk (λ _ _ _ => id))
  obtain ⟨E3, e3j, hf⟩ := hO.form
  subst hf
  have szw5 := hk.size
  have R3 : Hid (OTx w5 (From w.heap.size) (.slice E3 (ins n.keys i key).length e3j) (ins n.keys i key)) := hO.mono (λ b _ hb => by have := hb.1; show w.heap.size <= b; omega)
  replace K := tq_ K hk
  clear hO hk
  have qBN := λ i => BN.out.cell i
  have gBN := λ i => BN.out.frozen i
  have lBN := BN.out.lt
  have qBX := λ i => BX.out.cell i
  have gBX := λ i => BX.out.frozen i
  have lBX := BX.out.lt
  go_wp2_with fail
  refine calls_at (λ w6 hw => ?_)
  have hk : Keeps (λ b => b = w2.heap.size) w5 w6 := by rw [hw]; exact Keeps.setCell _ (M := λ b => b = w2.heap.size) rfl _
  have hb : Hid (Blk w6 (w2.heap.size) 35 #[.int .i64 n.lvl, .slice D1 n.high.length dj1, .int .i64 n.right, .slice E3 (ins n.keys i key).length e3j, .slice D4 n.vals.length dj4, .slice D5 n.kids.length dj5]) := by rw [hw]; exact (BX.out.set_ 3 _)
  replace BN := Hd (BN.out.keeps hk (by show ¬ _ = _; omega))
  replace BR := Hd (BR.out.keeps hk (by show ¬ _ = _; omega))
  replace H := Hd (H.out.keeps hk (λ b _ hb e => by have h1 : b < w.heap.size := hb; have h2 : b = _ := e; omega))
  replace HK := Hd (HK.out.keeps hk (λ b _ hb e => by have h1 : b < w.heap.size := hb; have h2 : b = _ := e; omega))
  replace R1 := Hd (R1.out.keepsB BX.out ha hk)
  replace R4 := Hd (R4.out.keepsB BX.out ha hk)
  replace R5 := Hd (R5.out.keepsB BX.out ha hk)
  replace HV := Hd (HV.out.keeps hk (λ b _ hb e => by have h1 : b < w.heap.size := hb; have h2 : b = _ := e; omega))
  replace R3 := Hd (R3.out.keepsB BX.out ha hk)
  replace BX := hb
  clear hw hb
  have szw6 := hk.size
  replace K := Hd (K.out.trans hk (λ b hb e => by subst e; omega))
  clear hk
  clear qBN gBN lBN qBX gBX lBX
  refine (putR H.out.2.vals HV.out HS.out.2.2.1 HSV.out hiv).mono ?_
  rintro e w7 ⟨v, rfl, hO, hk⟩
  clear R4
  replace BN := Hd (BN.out.keeps hk id)
  replace BR := Hd (BR.out.keeps hk id)
  replace H := Hd (H.out.keeps hk (λ _ _ _ => id))
  replace HK := Hd (HK.out.keeps hk (λ _ _ _ => id))
  replace R1 := Hd (R1.out.keeps hk (λ _ _ _ => id))
  replace R5 := Hd (R5.out.keeps hk (λ _ _ _ => id))
  replace BX := Hd (BX.out.keeps hk id)
  replace HV := Hd (HV.out.keeps hk (λ _ _ _ => id))
  replace R3 := Hd (R3.out.keeps hk (λ _ _ _ => id))
  obtain ⟨E4, e4j, hf⟩ := hO.form
  subst hf
  have szw7 := hk.size
  have R4 : Hid (OTx w7 (From w.heap.size) (.slice E4 (ins n.vals i val).length e4j) (ins n.vals i val)) := hO.mono (λ b _ hb => by have := hb.1; show w.heap.size <= b; omega)
  replace K := tq_ K hk
  clear hO hk
  have qBX := λ i => BX.out.cell i
  have gBX := λ i => BX.out.frozen i
  have lBX := BX.out.lt
  have qBR := λ i => BR.out.cell i
  have gBR := λ i => BR.out.frozen i
  have lBR := BR.out.lt
  go_wp2
  refine post_at (λ w8 hw => ?_)
  clear qBX gBX lBX qBR gBR lBR
  have hk0 : Keeps (λ b => b = w2.heap.size) w7 (w7.setCell ⟨w2.heap.size, 4, none⟩ (.slice E4 (ins n.vals i val).length e4j)) := Keeps.setCell _ (M := λ b => b = w2.heap.size) rfl _
  have hbr := BR.out.keeps hk0 (by show ¬ _ = _; omega)
  have hk : Keeps (λ b => b = w.heap.size + 1) (w7.setCell ⟨w2.heap.size, 4, none⟩ (.slice E4 (ins n.vals i val).length e4j)) w8 := by rw [hw]; exact (((((Keeps.setCell _ (M := λ b => b = w.heap.size + 1) rfl _).setCell' (λ _ => rfl) _).setCell' (λ _ => rfl) _).setCell' (λ _ => rfl) _).setCell' (λ _ => rfl) _).setCell' (λ _ => rfl) _
  have hb : Blk w8 (w.heap.size + 1) 35 #[.int .i64 n.lvl, .slice D1 n.high.length dj1, .int .i64 n.right, .slice E3 (ins n.keys i key).length e3j, .slice E4 (ins n.vals i val).length e4j, .slice D5 n.kids.length dj5] := by rw [hw]; exact ((((((hbr.set_ 0 _).set_ 1 _).set_ 2 _).set_ 3 _).set_ 4 _).set_ 5 _)
  clear hw
  have r0 := hb.cell 0
  have r1 := hb.cell 1
  have r2 := hb.cell 2
  have r3 := hb.cell 3
  have r4 := hb.cell 4
  have r5 := hb.cell 5
  rw [hwo]
  refine bodyPost_ret (v := .agg #[.int .i64 n.lvl, .slice D1 n.high.length dj1, .int .i64 n.right, .slice E3 (ins n.keys i key).length e3j, .slice E4 (ins n.vals i val).length e4j, .slice D5 n.kids.length dj5]) (by simp [results, Tryz.results38, go_sem, r0, r1, r2, r3, r4, r5]) rfl ⟨_, _, _, _, _, _, rfl, ⟨⟨rfl, ?_, rfl⟩, ?_, ?_, ?_⟩, (K.out.trans hk0 (λ b hb e => by have h2 : b = _ := e; omega)).trans hk (λ b hb e => by have h2 : b = _ := e; omega)⟩
  ·exact ((R1.out.keepsB BX.out ha hk0).keepsB hbr ha hk).mono (λ b hb h => ⟨h, hb⟩)
  ·exact ((R3.out.keepsB BX.out ha hk0).keepsB hbr ha hk).mono (λ b hb h => ⟨h, hb⟩)
  ·exact ((R4.out.keepsB BX.out ha hk0).keepsB hbr ha hk).mono (λ b hb h => ⟨h, hb⟩)
  ·exact ((R5.out.keepsB BX.out ha hk0).keepsB hbr ha hk).mono (λ b hb h => ⟨h, hb⟩)
 | true =>
  have hiv := hc1 rfl
  have hwo : wth n key val = { n with vals := n.vals.set i val } := by unfold wth; rw [HVH.out, HBI.out]; rfl
  clear hc1 hc2
  have qBX := λ i => BX.out.cell i
  have gBX := λ i => BX.out.frozen i
  have lBX := BX.out.lt
  go_wp2
  clear qBX gBX lBX
  refine rC_ [0, 1, 2, 3, 4, 5, 6, 7] 7 (λ W => W.cell? ⟨w2.heap.size, 4, none⟩ = some (.slice D4 n.vals.length dj4)) (BX.out.cell 4) ?_
  iterate 5
   refine cR_ (v := ?_) rfl ?_ ?_
   rotate_left
   ·intro W hW
    try (replace hW : World.cell? _ _ = some _ := hW)
    go_simp
    try rfl
   simp only [Act.put, sa_, sb_, sc_]
  refine cA_ rfl ?_
  go_wp2_with (go_at_call 89; refine (bytesR (HV.out.keeps (Keeps.drew Nob w4) (λ _ _ _ => id)) HSV.out).mono ?_; rintro e w5 ⟨v, rfl, hU, hk1⟩; obtain ⟨Bu, ju, hf⟩ := Own.form hU; subst hf; have HU := Hd hU; have hk := (Keeps.drew Nob w4).trans hk1 (λ _ _ h => h); have su : w4.heap.size <= w5.heap.size := hk1.size; clear hU hk1)
  replace BN := Hd (BN.out.keeps hk id)
  replace BR := Hd (BR.out.keeps hk id)
  replace H := Hd (H.out.keeps hk (λ _ _ _ => id))
  replace HK := Hd (HK.out.keeps hk (λ _ _ _ => id))
  replace R1 := Hd (R1.out.keeps hk (λ _ _ _ => id))
  replace R3 := Hd (R3.out.keeps hk (λ _ _ _ => id))
  replace R4 := Hd (R4.out.keeps hk (λ _ _ _ => id))
  replace R5 := Hd (R5.out.keeps hk (λ _ _ _ => id))
  replace BX := Hd (BX.out.keeps hk id)
  replace HV := Hd (HV.out.keeps hk (λ _ _ _ => id))
  have szw5 := hk.size
  replace K := tq_ K hk
  clear hk
  have HU2 : Hid (OBy w5 (From w.heap.size) (.slice Bu val.length ju) val) := HU.out.mono (λ b _ hb => by have h1 : w4.heap.size <= b := hb.1; show w.heap.size <= b; omega)
  clear HU
  refine ⟨.inr (BX.out.cell 4), ?_⟩
  obtain ⟨g, o, cs, rfl, hgb, ⟨av, hac⟩, hset⟩ := R4.out.set_ (i := i) hiv HU2.out
  have hgf := hgb.frozen (o + i)
  have HG := Hd hgb
  have HSET := Hd hset
  clear hgb hset
  iterate 1
   refine cR_ (v := ?_) rfl ?_ ?_
   rotate_left
   ·intro W hW
    try (replace hW : World.cell? _ _ = some _ := hW)
    go_simp
    try rfl
   simp only [Act.put, sa_, sb_, sc_]
  refine cA_ rfl ?_
  go_wp2
  refine ⟨.inl (by kernel_rfl), wpCanon_nil (then_at (λ w6 hw => ?_))⟩
  have hk : Keeps (λ b => (Value.slice (some ⟨g, o, none⟩) n.vals.length dj4).ownBlock = some b) w5 w6 := by rw [hw]; exact (Keeps.setCell _ (M := λ b => b = g) rfl _).mono (λ b _ e => by subst e; rfl)
  replace BN := Hd (BN.out.keepsR R4.out (by decide) hk)
  replace BR := Hd (BR.out.keepsR R4.out (by decide) hk)
  replace H := Hd (H.out.keeps hk (λ b _ hb e => by have h1 : b < w.heap.size := hb; have h2 : w.heap.size <= b := (R4.out.blk e).1; omega))
  replace HK := Hd (HK.out.keeps hk (λ b _ hb e => by have h1 : b < w.heap.size := hb; have h2 : w.heap.size <= b := (R4.out.blk e).1; omega))
  replace R1 := Hd (R1.out.keepsR R4.out hk)
  replace R3 := Hd (R3.out.keepsR R4.out HP.out hk)
  replace R5 := Hd (R5.out.keepsR R4.out hk)
  replace BX := Hd (BX.out.keepsR R4.out (by decide) hk)
  replace HV := Hd (HV.out.keeps hk (λ b _ hb e => by have h1 : b < w.heap.size := hb; have h2 : w.heap.size <= b := (R4.out.blk e).1; omega))
  have hr4 : OTx w6 (From w.heap.size) (.slice (some ⟨g, o, none⟩) n.vals.length dj4) (n.vals.set i val) := by rw [hw]; exact HSET.out
  have szw6 := hk.size
  replace K := Hd (K.out.trans hk (λ b hb e => by have h2 : w.heap.size <= b := (R4.out.blk e).1; omega))
  replace R4 := Hd hr4
  clear hr4 hk hw hac hgf HG HSET HU2
  have qBX := λ i => BX.out.cell i
  have gBX := λ i => BX.out.frozen i
  have lBX := BX.out.lt
  have qBR := λ i => BR.out.cell i
  have gBR := λ i => BR.out.frozen i
  have lBR := BR.out.lt
  go_wp2
  refine post_at (λ w7 hw => ?_)
  clear qBX gBX lBX qBR gBR lBR
  have hk : Keeps (λ b => b = w.heap.size + 1) w6 w7 := by rw [hw]; exact (((((Keeps.setCell _ (M := λ b => b = w.heap.size + 1) rfl _).setCell' (λ _ => rfl) _).setCell' (λ _ => rfl) _).setCell' (λ _ => rfl) _).setCell' (λ _ => rfl) _).setCell' (λ _ => rfl) _
  have hb : Blk w7 (w.heap.size + 1) 35 #[.int .i64 n.lvl, .slice D1 n.high.length dj1, .int .i64 n.right, .slice D3 n.keys.length dj3, .slice (some ⟨g, o, none⟩) n.vals.length dj4, .slice D5 n.kids.length dj5] := by rw [hw]; exact ((((((BR.out.set_ 0 _).set_ 1 _).set_ 2 _).set_ 3 _).set_ 4 _).set_ 5 _)
  have hs : w7.heap.size = w6.heap.size := by rw [hw]; simp
  clear hw
  have r0 := hb.cell 0
  have r1 := hb.cell 1
  have r2 := hb.cell 2
  have r3 := hb.cell 3
  have r4 := hb.cell 4
  have r5 := hb.cell 5
  rw [hwo]
  refine bodyPost_ret (v := .agg #[.int .i64 n.lvl, .slice D1 n.high.length dj1, .int .i64 n.right, .slice D3 n.keys.length dj3, .slice (some ⟨g, o, none⟩) n.vals.length dj4, .slice D5 n.kids.length dj5]) (by simp [results, Tryz.results38, go_sem, r0, r1, r2, r3, r4, r5]) rfl ⟨_, _, _, _, _, _, rfl, ⟨⟨rfl, ?_, rfl⟩, ?_, ?_, ?_⟩, K.out.trans hk (λ b hb e => by have h2 : b = _ := e; omega)⟩
  ·exact (R1.out.keepsB BR.out ha hk).mono (λ b hb h => ⟨h, hb⟩)
  ·exact (R3.out.keepsB BR.out ha hk).mono (λ b hb h => ⟨h, hb⟩)
  ·exact (R4.out.keepsB BR.out ha hk).mono (λ b hb h => ⟨h, hb⟩)
  ·exact (R5.out.keepsB BR.out ha hk).mono (λ b hb h => ⟨h, hb⟩)
end
end Go.Proofs.YtbhohohgojcapaaGreat

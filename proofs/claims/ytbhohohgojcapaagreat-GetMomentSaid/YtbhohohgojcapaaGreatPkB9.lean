import Derived.Test.YtbhohohgojcapaaGreatPkB8
import Derived.Test.YtbhohohgojcapaaGreatPkB4
set_option maxHeartbeats 64000000
namespace Go.Proofs.YtbhohohgojcapaaGreat
open Go.RowKit
theorem right_facts {n : Nd} (h : right n = true) : (n.lvl = 0 -> n.vals.length = n.keys.length /\ n.kids.length = 0) /\ (n.lvl ≠ 0 -> 0 < n.lvl /\ n.vals.length = 0 /\ n.kids.length = n.keys.length + 1) := by
 unfold right at h
 refine ⟨λ hl => ?_, λ hl => ?_⟩
 ·rw [if_pos hl] at h
  simp at h
  exact ⟨h.2.1, by rw [h.2.2]; rfl⟩
 ·rw [if_neg hl] at h
  simp at h
  exact ⟨h.2.1, by rw [h.2.2.1]; rfl, h.2.2.2⟩
section
variable {w w' : World} {S : Nat -> Prop} {A : Option Addr} {v : Value} {n c k : Nat}
theorem SlR.drop_ {ad : Addr} {xs : List Value} (h : SlR w S (.slice (some ad) xs.length c) xs) (hk : k <= xs.length) : SlR w S (.slice (some (ad.add k)) (xs.length - k) (c - k)) (xs.drop k) := by
 obtain ⟨A', c', e, h1, h2, h⟩ := h
 injection e with e1 e2 e3
 subst e1 e3
 refine ⟨_, _, by rw [List.length_drop], by rw [List.length_drop]; omega, by omega, λ hne => ?_⟩
 obtain ⟨ad', e, h3, hc⟩ := h (λ e => by rw [e] at hne; simp at hne)
 injection e with e
 subst e
 refine ⟨_, rfl, by rw [blk_add]; exact h3, λ i x hx => ?_⟩
 rw [List.getElem?_drop] at hx
 rw [add_add_]
 exact hc _ x hx
theorem Txts.take_ {l : List (List UInt8)} (h : Txts w S (.slice A l.length c) l) (hk : k <= l.length) : Txts w S (.slice A k c) (l.take k) := by
 obtain ⟨vs, h1, h2, h3⟩ := h
 have hc := SlR.form h1
 obtain ⟨_, _, e, hc1, hc2⟩ := hc
 injection e with _ _ e
 subst e
 refine ⟨vs.take k, ?_, by rw [List.length_take, List.length_take, h2], λ i u x hu hx => ?_⟩
 ·exact SlR.take h1 hk (by omega) (Nat.le_refl _)
 ·rw [List.getElem?_take] at hu hx
  split at hu
  ·rename_i hi; rw [if_pos hi] at hx; exact h3 i u x hu hx
  ·cases hu
theorem Txts.drop_ {ad : Addr} {l : List (List UInt8)} (h : Txts w S (.slice (some ad) l.length c) l) (hk : k <= l.length) (_hn : ¬ c = k) : Txts w S (.slice (some (ad.add k)) (l.length - k) (c - k)) (l.drop k) := by
 obtain ⟨vs, h1, h2, h3⟩ := h
 rw [<- h2] at h1 hk ⊢
 refine ⟨vs.drop k, SlR.drop_ h1 hk, by rw [List.length_drop, List.length_drop, h2], λ i u x hu hx => ?_⟩
 rw [List.getElem?_drop] at hu hx
 exact h3 _ u x hu hx
theorem Txts.drop0 {l : List (List UInt8)} (h : Txts w S (.slice A l.length k) l) (_hk : k <= l.length) : Txts w S (.slice A 0 0) (l.drop k) := by
 have : l.length <= k := by obtain ⟨_, _, e, h1, _⟩ := h.form; injection e with _ _ e; omega
 rw [List.drop_eq_nil_of_le this]
 exact ⟨[], SlR.nil _ _ _ _ (by decide), rfl, λ i u x h => by simp at h⟩
theorem Ints.take_ {l : List Int} (h : Ints w S (.slice A l.length c) l) (hk : k <= l.length) : Ints w S (.slice A k c) (l.take k) := by
 obtain ⟨_, _, e, hc1, hc2⟩ := h.form
 injection e with _ _ e
 subst e
 have := SlR.take (k := k) (c' := c) h hk (by omega) (Nat.le_refl _)
 unfold Ints
 rw [List.map_take]; exact this
theorem Ints.drop_ {ad : Addr} {l : List Int} (h : Ints w S (.slice (some ad) l.length c) l) (hk : k <= l.length) (_hn : ¬ c = k) : Ints w S (.slice (some (ad.add k)) (l.length - k) (c - k)) (l.drop k) := by
 have h' : SlR w S (.slice (some ad) (l.map iV).length c) (l.map iV) := by rw [List.length_map]; exact h
 have := SlR.drop_ (k := k) h' (by rw [List.length_map]; exact hk)
 unfold Ints
 rw [List.map_drop]
 rwa [List.length_map] at this
theorem sm_take {l : List (List UInt8)} {m : Nat} (h : TxSm 64 l) : TxSm 0 (l.take m) := ⟨by have h1 := h.1; unfold Sm at *; rw [List.length_take]; omega, λ x hx => (h.2 x (List.mem_of_mem_take hx)).mono (by decide)⟩
theorem sm_drop {l : List (List UInt8)} {m : Nat} (h : TxSm 64 l) : TxSm 0 (l.drop m) := ⟨by have h1 := h.1; unfold Sm at *; rw [List.length_drop]; omega, λ x hx => (h.2 x (List.mem_of_mem_drop hx)).mono (by decide)⟩
theorem ne2 {g1 g2 : Nat} {cs1 cs2 : Array Value} (h1 : Blk w g1 35 cs1) (h2 : Blk w g2 35 cs2) : ∀ b e cs, b = g1 \/ b = g2 -> e ≠ 35 -> ¬ Blk w b e cs := λ b e cs hb he hbl => by
 rcases hb with rfl | rfl
 ·exact Blk.ne_ hbl h1 he rfl
 ·exact Blk.ne_ hbl h2 he rfl
theorem OBy.keeps2 {l} {M : Nat -> Prop} (h : OBy w S v l) (hm : ∀ b e cs, M b -> e ≠ 35 -> ¬ Blk w b e cs) (k : Keeps M w w') : OBy w' S v l := Own.keepsT h k (λ g cs _ hb hM => hm g _ cs hM (by decide) hb)
theorem OIn.keeps2 {l} {M : Nat -> Prop} (h : OIn w S v l) (hm : ∀ b e cs, M b -> e ≠ 35 -> ¬ Blk w b e cs) (k : Keeps M w w') : OIn w' S v l := Own.keepsT h k (λ g cs _ hb hM => hm g _ cs hM (by decide) hb)
theorem OTx.keeps2 {l} {M : Nat -> Prop} (h : OTx w S v l) (hm : ∀ b e cs, M b -> e ≠ 35 -> ¬ Blk w b e cs) (k : Keeps M w w') : OTx w' S v l := by
 obtain ⟨vs, h1, h2, h3⟩ := h
 exact ⟨vs, Own.keepsT h1 k (λ g cs _ hb hM => hm g _ cs hM (by decide) hb), h2, λ i u x hu hx => (h3 i u x hu hx).keeps2 hm k⟩
theorem OBy.keeps3 {l} {g : Nat} {t : TypeId} {cs : Array Value} (h : OBy w S v l) (hg : Blk w g t cs) (ht : t ≠ 5) (k : Keeps (λ b => b = g) w w') : OBy w' S v l := Own.keepsB h hg (Ne.symm ht) k
theorem OTx.keeps3 {l} {g : Nat} {t : TypeId} {cs : Array Value} (h : OTx w S v l) (hg : Blk w g t cs) (ht : t ≠ 5 /\ t ≠ 23) (k : Keeps (λ b => b = g) w w') : OTx w' S v l := by
 obtain ⟨vs, h1, h2, h3⟩ := h
 exact ⟨vs, Own.keepsB h1 hg (Ne.symm ht.2) k, h2, λ i u x hu hx => (h3 i u x hu hx).keeps3 hg ht.1 k⟩
theorem Own.made0 {e : TypeId} {N : Nat} (hn : N = w.heap.size) (hs : S N) : Own (w.alloc (.cells #[] e)) S e 1 (.slice (some ⟨N, 0, none⟩) 0 0) 0 [] := by
 subst hn
 exact Own.made (xs := []) w #[] 0 0 hs (Nat.le_refl _) (by decide) (by simp) (by simp)
end
def over (n : Nd) (leaf inner : Int) : Bool := if n.lvl = 0 then decide (leaf < n.keys.length) else decide (inner < n.kids.length)
section
variable {S : Nat -> Prop} {w : World} {c0 c1 c2 c3 c4 c5 : Value} {n : Nd} {right : Int}
set_option maxRecDepth 100000 in
theorem splitR (h : IsNd w S c0 c1 c2 c3 c4 c5 n) (hs : NdSm 64 n) (hrt : Go.Proofs.YtbhohohgojcapaaGreat.right n = true) :
  Calls Tryz.prog 40 #[.agg #[c0, c1, c2, c3, c4, c5], .int .i64 right] w λ e w' => ∃ d0 d1 d2 d3 d4 d5 e0 e1 e2 e3 e4 e5 kv, e = .returned (.tuple #[.agg #[d0, d1, d2, d3, d4, d5], .agg #[e0, e1, e2, e3, e4, e5], kv]) /\ ONd w' (Fresh w w') d0 d1 d2 d3 d4 d5 (spL n right) /\ ONd w' (Fresh w w') e0 e1 e2 e3 e4 e5 (spR n) /\ OBy w' (Fresh w w') kv (spK n) /\ Keeps Nob w w' := by
 obtain ⟨A1, k1, e1, _, _⟩ := h.1.high.form
 obtain ⟨A3, k3, e3, hk3, _⟩ := h.2.keys.form
 obtain ⟨A4, k4, e4, hk4, _⟩ := h.2.vals.form
 obtain ⟨A5, k5, e5, hk5, _⟩ := h.2.kids.form
 have e0 := h.1.lvl
 have e2 := h.1.right
 subst e0 e1 e2 e3 e4 e5
 have H := Hd (h.mono (T := λ b => b < w.heap.size) (λ b hb _ => hb))
 have HS : Hid (NdSm 64 n) := hs
 have hsz1 : n.keys.length * 24 + 64 <= 200000000000000 := by have := hs.2.1.1; unfold Sm at this; omega
 have hsz2 : n.vals.length * 24 + 64 <= 200000000000000 := by have := hs.2.2.1.1; unfold Sm at this; omega
 have hsz3 : n.kids.length * 8 + 64 <= 200000000000000 := by have := hs.2.2.2; unfold Sm at this; omega
 have ha : Apart 35 := ⟨by decide, by decide, by decide⟩
 obtain ⟨i0, hi, hz0, hz1, hz2⟩ := info_parts Tryz.inf_int
 obtain ⟨rl, ri⟩ := right_facts hrt
 clear h hs hrt
 obtain ⟨h, hhd⟩ : ∃ h, (spM n + 1) / 2 = h := ⟨_, rfl⟩
 unfold iV
 by_cases hl0 : n.lvl = 0
 ·obtain ⟨rv, rk⟩ := rl hl0
  clear rl ri
  have hM : spM n = n.keys.length := by unfold spM; rw [if_pos hl0]
  by_cases hm : n.keys.length < 2
  ·have hbd : spBad n := .inl (by rw [hM]; exact hm)
   have t2 : (n.keys.length : Int) < 2 := by omega
   have t0 : decide (0 < n.lvl) = false := decide_eq_false (by omega)
   have t1 : (n.lvl == 0) = true := by simp [hl0]
   clear hM
   have hl : spL n right = n := by unfold spL; rw [if_pos hbd]
   have hr : spR n = Nd.zero := by unfold spR; rw [if_pos hbd]
   have hkk : spK n = [] := by unfold spK; rw [if_pos hbd]
   have HLb := Hd hl
   have HRb := Hd hr
   have HKb := Hd hkk
   clear hhd hl hr hkk hbd hl0 rv rk
   go_enter Tryz.func40, Tryz.ntmps40
   go_wp2_with fail
   refine calls_at (λ w1 hw => ?_)
   have hk : Keeps Nob w w1 := by rw [hw]; exact ((Keeps.alloc _ w _).alloc' _).alloc' _
   have BN : Hid (Blk w1 (w.heap.size) 35 #[.int .i64 n.lvl, .slice A1 n.high.length k1, .int .i64 n.right, .slice A3 n.keys.length k3, .slice A4 n.vals.length k4, .slice A5 n.kids.length k5]) := by rw [hw]; exact ((Blk.new _ _ _).alloc _).alloc _
   have B1 : Hid (Blk w1 (w.heap.size + 1) 35 #[.int .i64 0, .slice none 0 0, .int .i64 0, .slice none 0 0, .slice none 0 0, .slice none 0 0]) := by rw [hw]; exact (Blk.new' (by simp) _ _).alloc _
   have B2 : Hid (Blk w1 (w.heap.size + 1 + 1) 35 #[.int .i64 0, .slice none 0 0, .int .i64 0, .slice none 0 0, .slice none 0 0, .slice none 0 0]) := by rw [hw]; exact Blk.new' (by simp) _ _
   replace H := Hd (H.out.keeps hk (λ _ _ _ => id))
   have szw1 := hk.size
   have lt2 := B2.out.lt
   have K := Hd hk
   clear hw hk
   refine (cloneR H.out (HS.out.mono (by decide))).mono ?_
   rintro e w2 ⟨d0, d1, d2, d3, d4, d5, rfl, hO, hk, _, _, _⟩
   replace BN := Hd (BN.out.keeps hk id)
   replace B1 := Hd (B1.out.keeps hk id)
   replace B2 := Hd (B2.out.keeps hk id)
   replace H := Hd (H.out.keeps hk (λ _ _ _ => id))
   have szw2 := hk.size
   replace K := tq_ K hk
   clear hk
   obtain ⟨D1, dj1, f1⟩ := Own.form hO.1.high
   obtain ⟨D3, dj3, f3⟩ := OTx.form hO.2.keys
   obtain ⟨D4, dj4, f4⟩ := OTx.form hO.2.vals
   obtain ⟨D5, dj5, f5⟩ := Own.form hO.2.kids
   have f0 := hO.1.lvl
   have f2 := hO.1.right
   unfold iV at f0 f2
   subst f0 f1 f2 f3 f4 f5
   have L1 : Hid (OBy w2 (From w.heap.size) (.slice D1 (n).high.length dj1) (n).high) := hO.1.high.mono (λ b _ hb => by have := hb.1; show w.heap.size <= b; omega)
   have L3 : Hid (OTx w2 (From w.heap.size) (.slice D3 (n).keys.length dj3) (n).keys) := hO.2.keys.mono (λ b _ hb => by have := hb.1; show w.heap.size <= b; omega)
   have L4 : Hid (OTx w2 (From w.heap.size) (.slice D4 (n).vals.length dj4) (n).vals) := hO.2.vals.mono (λ b _ hb => by have := hb.1; show w.heap.size <= b; omega)
   have L5 : Hid (OIn w2 (From w.heap.size) (.slice D5 (n).kids.length dj5) (n).kids) := hO.2.kids.mono (λ b _ hb => by have := hb.1; show w.heap.size <= b; omega)
   clear hO
   have qBN := λ i => BN.out.cell i
   have gBN := λ i => BN.out.frozen i
   have lBN := BN.out.lt
   have qB1 := λ i => B1.out.cell i
   have gB1 := λ i => B1.out.frozen i
   have lB1 := B1.out.lt
   have qB2 := λ i => B2.out.cell i
   have gB2 := λ i => B2.out.frozen i
   have lB2 := B2.out.lt
   go_wp2
   refine post_at (λ w3 hw => ?_)
   clear qBN gBN lBN qB1 gB1 lB1 qB2 gB2 lB2
   have K2 : Hid (Keeps (λ b => b = w.heap.size + 1 \/ b = w.heap.size + 1 + 1) w2 w3) := by rw [hw]; exact ((((((((((((Keeps.setCell w2 (M := λ b => b = w.heap.size + 1 \/ b = w.heap.size + 1 + 1) (p := ⟨w.heap.size + 1, 0, none⟩) (.inl rfl) _).setCell' (p := ⟨w.heap.size + 1, 1, none⟩) (λ _ => .inl rfl) _).setCell' (p := ⟨w.heap.size + 1, 2, none⟩) (λ _ => .inl rfl) _).setCell' (p := ⟨w.heap.size + 1, 3, none⟩) (λ _ => .inl rfl) _).setCell' (p := ⟨w.heap.size + 1, 4, none⟩) (λ _ => .inl rfl) _).setCell' (p := ⟨w.heap.size + 1, 5, none⟩) (λ _ => .inl rfl) _).setCell' (p := ⟨w.heap.size + 1 + 1, 0, none⟩) (λ _ => .inr rfl) _).setCell' (p := ⟨w.heap.size + 1 + 1, 1, none⟩) (λ _ => .inr rfl) _).setCell' (p := ⟨w.heap.size + 1 + 1, 2, none⟩) (λ _ => .inr rfl) _).setCell' (p := ⟨w.heap.size + 1 + 1, 3, none⟩) (λ _ => .inr rfl) _).setCell' (p := ⟨w.heap.size + 1 + 1, 4, none⟩) (λ _ => .inr rfl) _).setCell' (p := ⟨w.heap.size + 1 + 1, 5, none⟩) (λ _ => .inr rfl) _).alloc' _
   have hb1 : Blk w3 (w.heap.size + 1) 35 #[.int .i64 n.lvl, .slice D1 n.high.length dj1, .int .i64 n.right, .slice D3 n.keys.length dj3, .slice D4 n.vals.length dj4, .slice D5 n.kids.length dj5] := by rw [hw]; exact (((((((((((((B1.out.set_ 0 _).set_ 1 _).set_ 2 _).set_ 3 _).set_ 4 _).set_ 5 _).far (p := ⟨w.heap.size + 1 + 1, 0, none⟩) (by show w.heap.size + 1 ≠ w.heap.size + 1 + 1; omega) _).far (p := ⟨w.heap.size + 1 + 1, 1, none⟩) (by show w.heap.size + 1 ≠ w.heap.size + 1 + 1; omega) _).far (p := ⟨w.heap.size + 1 + 1, 2, none⟩) (by show w.heap.size + 1 ≠ w.heap.size + 1 + 1; omega) _).far (p := ⟨w.heap.size + 1 + 1, 3, none⟩) (by show w.heap.size + 1 ≠ w.heap.size + 1 + 1; omega) _).far (p := ⟨w.heap.size + 1 + 1, 4, none⟩) (by show w.heap.size + 1 ≠ w.heap.size + 1 + 1; omega) _).far (p := ⟨w.heap.size + 1 + 1, 5, none⟩) (by show w.heap.size + 1 ≠ w.heap.size + 1 + 1; omega) _)).alloc _
   have hb2 : Blk w3 (w.heap.size + 1 + 1) 35 #[.int .i64 0, .slice none 0 0, .int .i64 0, .slice none 0 0, .slice none 0 0, .slice none 0 0] := by rw [hw]; exact (((((((((((((B2.out.far (p := ⟨w.heap.size + 1, 0, none⟩) (by show w.heap.size + 1 + 1 ≠ w.heap.size + 1; omega) _).far (p := ⟨w.heap.size + 1, 1, none⟩) (by show w.heap.size + 1 + 1 ≠ w.heap.size + 1; omega) _).far (p := ⟨w.heap.size + 1, 2, none⟩) (by show w.heap.size + 1 + 1 ≠ w.heap.size + 1; omega) _).far (p := ⟨w.heap.size + 1, 3, none⟩) (by show w.heap.size + 1 + 1 ≠ w.heap.size + 1; omega) _).far (p := ⟨w.heap.size + 1, 4, none⟩) (by show w.heap.size + 1 + 1 ≠ w.heap.size + 1; omega) _).far (p := ⟨w.heap.size + 1, 5, none⟩) (by show w.heap.size + 1 + 1 ≠ w.heap.size + 1; omega) _).set_ 0 _).set_ 1 _).set_ 2 _).set_ 3 _).set_ 4 _).set_ 5 _)).alloc _
   clear hw
   have r0 := hb1.cell 0
   have s0 := hb2.cell 0
   have r1 := hb1.cell 1
   have s1 := hb2.cell 1
   have r2 := hb1.cell 2
   have s2 := hb2.cell 2
   have r3 := hb1.cell 3
   have s3 := hb2.cell 3
   have r4 := hb1.cell 4
   have s4 := hb2.cell 4
   have r5 := hb1.cell 5
   have s5 := hb2.cell 5
   rw [HLb.out, HRb.out, HKb.out]
   refine bodyPost_ret (v := .tuple #[.agg #[.int .i64 n.lvl, .slice D1 n.high.length dj1, .int .i64 n.right, .slice D3 n.keys.length dj3, .slice D4 n.vals.length dj4, .slice D5 n.kids.length dj5], .agg #[.int .i64 0, .slice none 0 0, .int .i64 0, .slice none 0 0, .slice none 0 0, .slice none 0 0], .slice none 0 0]) (by simp [results, Tryz.results40, go_sem, r0, r1, r2, r3, r4, r5, s0, s1, s2, s3, s4, s5]) rfl ⟨_, _, _, _, _, _, _, _, _, _, _, _, _, rfl, ⟨⟨rfl, ?_, rfl⟩, ?_, ?_, ?_⟩, ONd.zero _ _, OBy.nil _ _, K.out.trans K2.out (λ b hb e => by rcases e with e | e <;> omega)⟩
   ·exact (OBy.keeps2 L1.out (ne2 B1.out B2.out) K2.out).mono (λ b hb h => ⟨h, hb⟩)
   ·exact (OTx.keeps2 L3.out (ne2 B1.out B2.out) K2.out).mono (λ b hb h => ⟨h, hb⟩)
   ·exact (OTx.keeps2 L4.out (ne2 B1.out B2.out) K2.out).mono (λ b hb h => ⟨h, hb⟩)
   ·exact (OIn.keeps2 L5.out (ne2 B1.out B2.out) K2.out).mono (λ b hb h => ⟨h, hb⟩)
  ·rw [hM] at hhd
   have h2a : 2 * h <= n.keys.length + 1 := by omega
   have h2b : n.keys.length <= 2 * h := by omega
   have hbd : ¬ spBad n := by unfold spBad; rw [hM]; omega
   have hsh : spH n = h := by unfold spH; rw [hM]; exact hhd
   have t2 : decide ((n.keys.length : Int) < 2) = false := decide_eq_false (by omega)
   have th : ((n.keys.length : Int) + 1) / 2 = (h : Int) := by omega
   have t0 : decide (0 < n.lvl) = false := decide_eq_false (by omega)
   have t1 : (n.lvl == 0) = true := by simp [hl0]
   obtain ⟨x, hx⟩ : ∃ x, n.keys[h]? = some x := ⟨_, List.getElem?_eq_getElem (by omega)⟩
   have hkk : spK n = x := by unfold spK; rw [if_neg hbd, if_pos hl0, hsh, List.getD_eq_getElem?_getD, hx]; rfl
   have hl : spL n right = { n with high := spK n, right := right, keys := n.keys.take h, vals := n.vals.take h } := by unfold spL; rw [if_neg hbd, if_pos hl0, hsh]
   have hr : spR n = { n with keys := n.keys.drop h, vals := n.vals.drop h } := by unfold spR; rw [if_neg hbd, if_pos hl0, hsh]
   have HL := Hd hl
   have HRR := Hd hr
   have HKK := Hd hkk
   have HSX : Hid (Sm 0 1 x.length) := (HS.out.2.1.2 x (List.mem_of_getElem? hx)).mono (by decide)
   obtain ⟨ad, rfl, hadb, hc⟩ := H.out.2.keys.cells (i := h) (by omega)
   obtain ⟨u, hu, hbu⟩ := hc _ x hx
   have HU := Hd (hbu.mono (T := λ b => b < w.heap.size) (λ b _ hs => hs))
   have HCU := Hd hu
   clear hc hbu hu
   obtain ⟨bd, hbd4, _, _⟩ := H.out.2.vals.cells (i := h) (by omega)
   subst hbd4
   have b1 : h < n.keys.length := by omega
   have b2 : h <= k3 := by omega
   have b3 : h <= k4 := by omega
   have b4 : h <= n.keys.length := by omega
   have b5 : h <= n.vals.length := by omega
   have b8 : h <= k3 := by omega
   have n1 : ¬ k3 = h := by omega
   have n2 : ¬ k4 = h := by omega
   clear hbd hl hr hkk hhd hx hsh hM hl0 rv rk
   obtain ⟨tL3, htL3⟩ : ∃ l, n.keys.take h = l := ⟨_, rfl⟩
   have HL3 := Hd htL3
   obtain ⟨tR3, htR3⟩ : ∃ l, n.keys.drop h = l := ⟨_, rfl⟩
   have HR3 := Hd htR3
   obtain ⟨tL4, htL4⟩ : ∃ l, n.vals.take h = l := ⟨_, rfl⟩
   have HL4 := Hd htL4
   obtain ⟨tR4, htR4⟩ : ∃ l, n.vals.drop h = l := ⟨_, rfl⟩
   have HR4 := Hd htR4
   clear htL3 htR3 htL4 htR4
   go_enter Tryz.func40, Tryz.ntmps40
   go_wp2_with fail
   refine calls_at (λ w1 hw => ?_)
   have hk : Keeps Nob w w1 := by rw [hw]; exact ((Keeps.alloc _ w _).alloc' _).alloc' _
   have BN : Hid (Blk w1 (w.heap.size) 35 #[.int .i64 n.lvl, .slice A1 n.high.length k1, .int .i64 n.right, .slice (some ad) n.keys.length k3, .slice (some bd) n.vals.length k4, .slice A5 n.kids.length k5]) := by rw [hw]; exact ((Blk.new _ _ _).alloc _).alloc _
   have B1 : Hid (Blk w1 (w.heap.size + 1) 35 #[.int .i64 0, .slice none 0 0, .int .i64 0, .slice none 0 0, .slice none 0 0, .slice none 0 0]) := by rw [hw]; exact (Blk.new' (by simp) _ _).alloc _
   have B2 : Hid (Blk w1 (w.heap.size + 1 + 1) 35 #[.int .i64 0, .slice none 0 0, .int .i64 0, .slice none 0 0, .slice none 0 0, .slice none 0 0]) := by rw [hw]; exact Blk.new' (by simp) _ _
   replace HU := Hd (HU.out.keeps hk (λ _ _ _ => id))
   replace H := Hd (H.out.keeps hk (λ _ _ _ => id))
   have szw1 := hk.size
   have lt2 := B2.out.lt
   have K := Hd hk
   clear hw hk
   refine (cloneR H.out (HS.out.mono (by decide))).mono ?_
   rintro e w2 ⟨d0, d1, d2, d3, d4, d5, rfl, hO, hk, _, _, _⟩
   replace HU := Hd (HU.out.keeps hk (λ _ _ _ => id))
   replace BN := Hd (BN.out.keeps hk id)
   replace B1 := Hd (B1.out.keeps hk id)
   replace B2 := Hd (B2.out.keeps hk id)
   replace H := Hd (H.out.keeps hk (λ _ _ _ => id))
   have szw2 := hk.size
   replace K := tq_ K hk
   clear hk
   obtain ⟨D1, dj1, f1⟩ := Own.form hO.1.high
   obtain ⟨D3, dj3, f3⟩ := OTx.form hO.2.keys
   obtain ⟨D4, dj4, f4⟩ := OTx.form hO.2.vals
   obtain ⟨D5, dj5, f5⟩ := Own.form hO.2.kids
   have f0 := hO.1.lvl
   have f2 := hO.1.right
   unfold iV at f0 f2
   subst f0 f1 f2 f3 f4 f5
   have L1 : Hid (OBy w2 (From w.heap.size) (.slice D1 (n).high.length dj1) (n).high) := hO.1.high.mono (λ b _ hb => by have := hb.1; show w.heap.size <= b; omega)
   have L3 : Hid (OTx w2 (From w.heap.size) (.slice D3 (n).keys.length dj3) (n).keys) := hO.2.keys.mono (λ b _ hb => by have := hb.1; show w.heap.size <= b; omega)
   have L4 : Hid (OTx w2 (From w.heap.size) (.slice D4 (n).vals.length dj4) (n).vals) := hO.2.vals.mono (λ b _ hb => by have := hb.1; show w.heap.size <= b; omega)
   have L5 : Hid (OIn w2 (From w.heap.size) (.slice D5 (n).kids.length dj5) (n).kids) := hO.2.kids.mono (λ b _ hb => by have := hb.1; show w.heap.size <= b; omega)
   clear hO
   have qBN := λ i => BN.out.cell i
   have gBN := λ i => BN.out.frozen i
   have lBN := BN.out.lt
   go_wp2_with fail
   clear qBN gBN lBN
   refine calls_at (λ w3 hw => ?_)
   have hk : Keeps Nob w2 w3 := by rw [hw]; exact Keeps.alloc _ _ _
   have BX : Hid (Blk w3 (w2.heap.size) 35 #[.int .i64 n.lvl, .slice D1 n.high.length dj1, .int .i64 n.right, .slice D3 n.keys.length dj3, .slice D4 n.vals.length dj4, .slice D5 n.kids.length dj5]) := by rw [hw]; exact Blk.new _ _ _
   replace HU := Hd (HU.out.keeps hk (λ _ _ _ => id))
   replace BN := Hd (BN.out.keeps hk id)
   replace B1 := Hd (B1.out.keeps hk id)
   replace B2 := Hd (B2.out.keeps hk id)
   replace H := Hd (H.out.keeps hk (λ _ _ _ => id))
   replace L1 := Hd (L1.out.keeps hk (λ _ _ _ => id))
   replace L3 := Hd (L3.out.keeps hk (λ _ _ _ => id))
   replace L4 := Hd (L4.out.keeps hk (λ _ _ _ => id))
   replace L5 := Hd (L5.out.keeps hk (λ _ _ _ => id))
   have szw3 := hk.size
   have ltBX := BX.out.lt
   replace K := tq_ K hk
   clear hw hk
   refine (cloneR H.out (HS.out.mono (by decide))).mono ?_
   rintro e w4 ⟨e0, e1, e2, e3, e4, e5, rfl, hO, hk, _, _, _⟩
   replace HU := Hd (HU.out.keeps hk (λ _ _ _ => id))
   replace BN := Hd (BN.out.keeps hk id)
   replace B1 := Hd (B1.out.keeps hk id)
   replace B2 := Hd (B2.out.keeps hk id)
   replace H := Hd (H.out.keeps hk (λ _ _ _ => id))
   replace L1 := Hd (L1.out.keeps hk (λ _ _ _ => id))
   replace L3 := Hd (L3.out.keeps hk (λ _ _ _ => id))
   replace L4 := Hd (L4.out.keeps hk (λ _ _ _ => id))
   replace L5 := Hd (L5.out.keeps hk (λ _ _ _ => id))
   replace BX := Hd (BX.out.keeps hk id)
   have szw4 := hk.size
   replace K := tq_ K hk
   clear hk
   obtain ⟨E1, ej1, f1⟩ := Own.form hO.1.high
   obtain ⟨E3, ej3, f3⟩ := OTx.form hO.2.keys
   obtain ⟨E4, ej4, f4⟩ := OTx.form hO.2.vals
   obtain ⟨E5, ej5, f5⟩ := Own.form hO.2.kids
   have f0 := hO.1.lvl
   have f2 := hO.1.right
   unfold iV at f0 f2
   subst f0 f1 f2 f3 f4 f5
   have R1 : Hid (OBy w4 (From w.heap.size) (.slice E1 (n).high.length ej1) (n).high) := hO.1.high.mono (λ b _ hb => by have := hb.1; show w.heap.size <= b; omega)
   have R3 : Hid (OTx w4 (From w.heap.size) (.slice E3 (n).keys.length ej3) (n).keys) := hO.2.keys.mono (λ b _ hb => by have := hb.1; show w.heap.size <= b; omega)
   have R4 : Hid (OTx w4 (From w.heap.size) (.slice E4 (n).vals.length ej4) (n).vals) := hO.2.vals.mono (λ b _ hb => by have := hb.1; show w.heap.size <= b; omega)
   have R5 : Hid (OIn w4 (From w.heap.size) (.slice E5 (n).kids.length ej5) (n).kids) := hO.2.kids.mono (λ b _ hb => by have := hb.1; show w.heap.size <= b; omega)
   clear hO
   have hcu := λ o => (K.out.alloc' o).cell HCU.out id
   have qBN := λ i => BN.out.cell i
   have gBN := λ i => BN.out.frozen i
   have lBN := BN.out.lt
   go_wp2_with fail
   clear qBN gBN lBN
   clear hcu
   refine calls_at (λ w5 hw => ?_)
   have hk : Keeps Nob w4 w5 := by rw [hw]; exact Keeps.alloc _ _ _
   have BY : Hid (Blk w5 (w4.heap.size) 35 #[.int .i64 n.lvl, .slice E1 n.high.length ej1, .int .i64 n.right, .slice E3 n.keys.length ej3, .slice E4 n.vals.length ej4, .slice E5 n.kids.length ej5]) := by rw [hw]; exact Blk.new _ _ _
   replace HU := Hd (HU.out.keeps hk (λ _ _ _ => id))
   replace BN := Hd (BN.out.keeps hk id)
   replace B1 := Hd (B1.out.keeps hk id)
   replace B2 := Hd (B2.out.keeps hk id)
   replace H := Hd (H.out.keeps hk (λ _ _ _ => id))
   replace L1 := Hd (L1.out.keeps hk (λ _ _ _ => id))
   replace L3 := Hd (L3.out.keeps hk (λ _ _ _ => id))
   replace L4 := Hd (L4.out.keeps hk (λ _ _ _ => id))
   replace L5 := Hd (L5.out.keeps hk (λ _ _ _ => id))
   replace BX := Hd (BX.out.keeps hk id)
   replace R1 := Hd (R1.out.keeps hk (λ _ _ _ => id))
   replace R3 := Hd (R3.out.keeps hk (λ _ _ _ => id))
   replace R4 := Hd (R4.out.keeps hk (λ _ _ _ => id))
   replace R5 := Hd (R5.out.keeps hk (λ _ _ _ => id))
   have szw5 := hk.size
   have ltBY := BY.out.lt
   replace K := tq_ K hk
   clear hw hk
   refine (bytesR HU.out HSX.out).mono ?_
   rintro e w6 ⟨v, rfl, hU, hk⟩
   obtain ⟨Bk, jk, hf⟩ := Own.form hU
   subst hf
   replace HU := Hd (HU.out.keeps hk (λ _ _ _ => id))
   replace BN := Hd (BN.out.keeps hk id)
   replace B1 := Hd (B1.out.keeps hk id)
   replace B2 := Hd (B2.out.keeps hk id)
   replace H := Hd (H.out.keeps hk (λ _ _ _ => id))
   replace L1 := Hd (L1.out.keeps hk (λ _ _ _ => id))
   replace L3 := Hd (L3.out.keeps hk (λ _ _ _ => id))
   replace L4 := Hd (L4.out.keeps hk (λ _ _ _ => id))
   replace L5 := Hd (L5.out.keeps hk (λ _ _ _ => id))
   replace BX := Hd (BX.out.keeps hk id)
   replace R1 := Hd (R1.out.keeps hk (λ _ _ _ => id))
   replace R3 := Hd (R3.out.keeps hk (λ _ _ _ => id))
   replace R4 := Hd (R4.out.keeps hk (λ _ _ _ => id))
   replace R5 := Hd (R5.out.keeps hk (λ _ _ _ => id))
   replace BY := Hd (BY.out.keeps hk id)
   have szw6 := hk.size
   replace K := tq_ K hk
   have KB : Hid (OBy w6 (From w.heap.size) (.slice Bk x.length jk) x) := hU.mono (λ b _ hb => by have := hb.1; show w.heap.size <= b; omega)
   clear hk hU
   have qBN := λ i => BN.out.cell i
   have gBN := λ i => BN.out.frozen i
   have lBN := BN.out.lt
   go_wp2_with fail
   clear qBN gBN lBN
   refine (textsR (Txts.take_ H.out.2.keys b4) (sm_take HS.out.2.1)).mono ?_
   rintro e w7 ⟨v, rfl, hO, hk⟩
   rw [HL3.out] at hO
   clear L3
   replace HU := Hd (HU.out.keeps hk (λ _ _ _ => id))
   replace BN := Hd (BN.out.keeps hk id)
   replace B1 := Hd (B1.out.keeps hk id)
   replace B2 := Hd (B2.out.keeps hk id)
   replace H := Hd (H.out.keeps hk (λ _ _ _ => id))
   replace L1 := Hd (L1.out.keeps hk (λ _ _ _ => id))
   replace L4 := Hd (L4.out.keeps hk (λ _ _ _ => id))
   replace L5 := Hd (L5.out.keeps hk (λ _ _ _ => id))
   replace BX := Hd (BX.out.keeps hk id)
   replace R1 := Hd (R1.out.keeps hk (λ _ _ _ => id))
   replace R3 := Hd (R3.out.keeps hk (λ _ _ _ => id))
   replace R4 := Hd (R4.out.keeps hk (λ _ _ _ => id))
   replace R5 := Hd (R5.out.keeps hk (λ _ _ _ => id))
   replace BY := Hd (BY.out.keeps hk id)
   replace KB := Hd (KB.out.keeps hk (λ _ _ _ => id))
   obtain ⟨F3, f3j, hf⟩ := hO.form
   subst hf
   have szw7 := hk.size
   have L3 : Hid (OTx w7 (From w.heap.size) (.slice F3 (tL3).length f3j) (tL3)) := hO.mono (λ b _ hb => by have := hb.1; show w.heap.size <= b; omega)
   replace K := tq_ K hk
   clear hO hk
   have qBN := λ i => BN.out.cell i
   have gBN := λ i => BN.out.frozen i
   have lBN := BN.out.lt
   have qBX := λ i => BX.out.cell i
   have gBX := λ i => BX.out.frozen i
   have lBX := BX.out.lt
   go_wp2_with fail
   refine calls_at (λ w8 hw => ?_)
   have hk : Keeps (λ b => b = w2.heap.size) w7 w8 := by rw [hw]; exact Keeps.setCell _ (M := λ b => b = w2.heap.size) rfl _
   have hb : Hid (Blk w8 (w2.heap.size) 35 #[.int .i64 n.lvl, .slice D1 n.high.length dj1, .int .i64 n.right, .slice F3 tL3.length f3j, .slice D4 n.vals.length dj4, .slice D5 n.kids.length dj5]) := by rw [hw]; exact (BX.out.set_ 3 _)
   replace HU := Hd (HU.out.keeps hk (λ b _ hb e => by have h1 : b < w.heap.size := hb; have h2 : b = _ := e; omega))
   replace BN := Hd (BN.out.keeps hk (by show ¬ _ = _; omega))
   replace B1 := Hd (B1.out.keeps hk (by show ¬ _ = _; omega))
   replace B2 := Hd (B2.out.keeps hk (by show ¬ _ = _; omega))
   replace H := Hd (H.out.keeps hk (λ b _ hb e => by have h1 : b < w.heap.size := hb; have h2 : b = _ := e; omega))
   replace L1 := Hd (L1.out.keepsB BX.out ha hk)
   replace L4 := Hd (L4.out.keepsB BX.out ha hk)
   replace L5 := Hd (L5.out.keepsB BX.out ha hk)
   replace R1 := Hd (R1.out.keepsB BX.out ha hk)
   replace R3 := Hd (R3.out.keepsB BX.out ha hk)
   replace R4 := Hd (R4.out.keepsB BX.out ha hk)
   replace R5 := Hd (R5.out.keepsB BX.out ha hk)
   replace BY := Hd (BY.out.keeps hk (by show ¬ _ = _; omega))
   replace KB := Hd (KB.out.keepsB BX.out ha hk)
   replace L3 := Hd (L3.out.keepsB BX.out ha hk)
   replace BX := hb
   clear hw hb
   have szw8 := hk.size
   replace K := Hd (K.out.trans hk (λ b hb e => by subst e; omega))
   clear hk
   clear qBN gBN lBN qBX gBX lBX
   refine (textsR (Txts.take_ H.out.2.vals b5) (sm_take HS.out.2.2.1)).mono ?_
   rintro e w9 ⟨v, rfl, hO, hk⟩
   rw [HL4.out] at hO
   clear L4
   replace HU := Hd (HU.out.keeps hk (λ _ _ _ => id))
   replace BN := Hd (BN.out.keeps hk id)
   replace B1 := Hd (B1.out.keeps hk id)
   replace B2 := Hd (B2.out.keeps hk id)
   replace H := Hd (H.out.keeps hk (λ _ _ _ => id))
   replace L1 := Hd (L1.out.keeps hk (λ _ _ _ => id))
   replace L5 := Hd (L5.out.keeps hk (λ _ _ _ => id))
   replace BX := Hd (BX.out.keeps hk id)
   replace R1 := Hd (R1.out.keeps hk (λ _ _ _ => id))
   replace R3 := Hd (R3.out.keeps hk (λ _ _ _ => id))
   replace R4 := Hd (R4.out.keeps hk (λ _ _ _ => id))
   replace R5 := Hd (R5.out.keeps hk (λ _ _ _ => id))
   replace BY := Hd (BY.out.keeps hk id)
   replace KB := Hd (KB.out.keeps hk (λ _ _ _ => id))
   replace L3 := Hd (L3.out.keeps hk (λ _ _ _ => id))
   obtain ⟨F4, f4j, hf⟩ := hO.form
   subst hf
   have szw9 := hk.size
   have L4 : Hid (OTx w9 (From w.heap.size) (.slice F4 (tL4).length f4j) (tL4)) := hO.mono (λ b _ hb => by have := hb.1; show w.heap.size <= b; omega)
   replace K := tq_ K hk
   clear hO hk
   have qBN := λ i => BN.out.cell i
   have gBN := λ i => BN.out.frozen i
   have lBN := BN.out.lt
   have qBX := λ i => BX.out.cell i
   have gBX := λ i => BX.out.frozen i
   have lBX := BX.out.lt
   go_wp2_with fail
   refine calls_at (λ w10 hw => ?_)
   have hk : Keeps (λ b => b = w2.heap.size) w9 w10 := by rw [hw]; exact Keeps.setCell _ (M := λ b => b = w2.heap.size) rfl _
   have hb : Hid (Blk w10 (w2.heap.size) 35 #[.int .i64 n.lvl, .slice D1 n.high.length dj1, .int .i64 n.right, .slice F3 tL3.length f3j, .slice F4 tL4.length f4j, .slice D5 n.kids.length dj5]) := by rw [hw]; exact (BX.out.set_ 4 _)
   replace HU := Hd (HU.out.keeps hk (λ b _ hb e => by have h1 : b < w.heap.size := hb; have h2 : b = _ := e; omega))
   replace BN := Hd (BN.out.keeps hk (by show ¬ _ = _; omega))
   replace B1 := Hd (B1.out.keeps hk (by show ¬ _ = _; omega))
   replace B2 := Hd (B2.out.keeps hk (by show ¬ _ = _; omega))
   replace H := Hd (H.out.keeps hk (λ b _ hb e => by have h1 : b < w.heap.size := hb; have h2 : b = _ := e; omega))
   replace L1 := Hd (L1.out.keepsB BX.out ha hk)
   replace L5 := Hd (L5.out.keepsB BX.out ha hk)
   replace R1 := Hd (R1.out.keepsB BX.out ha hk)
   replace R3 := Hd (R3.out.keepsB BX.out ha hk)
   replace R4 := Hd (R4.out.keepsB BX.out ha hk)
   replace R5 := Hd (R5.out.keepsB BX.out ha hk)
   replace BY := Hd (BY.out.keeps hk (by show ¬ _ = _; omega))
   replace KB := Hd (KB.out.keepsB BX.out ha hk)
   replace L3 := Hd (L3.out.keepsB BX.out ha hk)
   replace L4 := Hd (L4.out.keepsB BX.out ha hk)
   replace BX := hb
   clear hw hb
   have szw10 := hk.size
   replace K := Hd (K.out.trans hk (λ b hb e => by subst e; omega))
   clear hk
   clear qBN gBN lBN qBX gBX lBX
   refine (textsR (Txts.drop_ H.out.2.keys b4 n1) (sm_drop HS.out.2.1)).mono ?_
   rintro e w11 ⟨v, rfl, hO, hk⟩
   rw [HR3.out] at hO
   clear R3
   replace HU := Hd (HU.out.keeps hk (λ _ _ _ => id))
   replace BN := Hd (BN.out.keeps hk id)
   replace B1 := Hd (B1.out.keeps hk id)
   replace B2 := Hd (B2.out.keeps hk id)
   replace H := Hd (H.out.keeps hk (λ _ _ _ => id))
   replace L1 := Hd (L1.out.keeps hk (λ _ _ _ => id))
   replace L5 := Hd (L5.out.keeps hk (λ _ _ _ => id))
   replace BX := Hd (BX.out.keeps hk id)
   replace R1 := Hd (R1.out.keeps hk (λ _ _ _ => id))
   replace R4 := Hd (R4.out.keeps hk (λ _ _ _ => id))
   replace R5 := Hd (R5.out.keeps hk (λ _ _ _ => id))
   replace BY := Hd (BY.out.keeps hk id)
   replace KB := Hd (KB.out.keeps hk (λ _ _ _ => id))
   replace L3 := Hd (L3.out.keeps hk (λ _ _ _ => id))
   replace L4 := Hd (L4.out.keeps hk (λ _ _ _ => id))
   obtain ⟨G3, g3j, hf⟩ := hO.form
   subst hf
   have szw11 := hk.size
   have R3 : Hid (OTx w11 (From w.heap.size) (.slice G3 (tR3).length g3j) (tR3)) := hO.mono (λ b _ hb => by have := hb.1; show w.heap.size <= b; omega)
   replace K := tq_ K hk
   clear hO hk
   have qBN := λ i => BN.out.cell i
   have gBN := λ i => BN.out.frozen i
   have lBN := BN.out.lt
   have qBY := λ i => BY.out.cell i
   have gBY := λ i => BY.out.frozen i
   have lBY := BY.out.lt
   go_wp2_with fail
   refine calls_at (λ w12 hw => ?_)
   have hk : Keeps (λ b => b = w4.heap.size) w11 w12 := by rw [hw]; exact Keeps.setCell _ (M := λ b => b = w4.heap.size) rfl _
   have hb : Hid (Blk w12 (w4.heap.size) 35 #[.int .i64 n.lvl, .slice E1 n.high.length ej1, .int .i64 n.right, .slice G3 tR3.length g3j, .slice E4 n.vals.length ej4, .slice E5 n.kids.length ej5]) := by rw [hw]; exact (BY.out.set_ 3 _)
   replace HU := Hd (HU.out.keeps hk (λ b _ hb e => by have h1 : b < w.heap.size := hb; have h2 : b = _ := e; omega))
   replace BN := Hd (BN.out.keeps hk (by show ¬ _ = _; omega))
   replace B1 := Hd (B1.out.keeps hk (by show ¬ _ = _; omega))
   replace B2 := Hd (B2.out.keeps hk (by show ¬ _ = _; omega))
   replace H := Hd (H.out.keeps hk (λ b _ hb e => by have h1 : b < w.heap.size := hb; have h2 : b = _ := e; omega))
   replace L1 := Hd (L1.out.keepsB BY.out ha hk)
   replace L5 := Hd (L5.out.keepsB BY.out ha hk)
   replace BX := Hd (BX.out.keeps hk (by show ¬ _ = _; omega))
   replace R1 := Hd (R1.out.keepsB BY.out ha hk)
   replace R4 := Hd (R4.out.keepsB BY.out ha hk)
   replace R5 := Hd (R5.out.keepsB BY.out ha hk)
   replace KB := Hd (KB.out.keepsB BY.out ha hk)
   replace L3 := Hd (L3.out.keepsB BY.out ha hk)
   replace L4 := Hd (L4.out.keepsB BY.out ha hk)
   replace R3 := Hd (R3.out.keepsB BY.out ha hk)
   replace BY := hb
   clear hw hb
   have szw12 := hk.size
   replace K := Hd (K.out.trans hk (λ b hb e => by subst e; omega))
   clear hk
   clear qBN gBN lBN qBY gBY lBY
   refine (textsR (Txts.drop_ H.out.2.vals b5 n2) (sm_drop HS.out.2.2.1)).mono ?_
   rintro e w13 ⟨v, rfl, hO, hk⟩
   rw [HR4.out] at hO
   clear R4
   replace HU := Hd (HU.out.keeps hk (λ _ _ _ => id))
   replace BN := Hd (BN.out.keeps hk id)
   replace B1 := Hd (B1.out.keeps hk id)
   replace B2 := Hd (B2.out.keeps hk id)
   replace H := Hd (H.out.keeps hk (λ _ _ _ => id))
   replace L1 := Hd (L1.out.keeps hk (λ _ _ _ => id))
   replace L5 := Hd (L5.out.keeps hk (λ _ _ _ => id))
   replace BX := Hd (BX.out.keeps hk id)
   replace R1 := Hd (R1.out.keeps hk (λ _ _ _ => id))
   replace R5 := Hd (R5.out.keeps hk (λ _ _ _ => id))
   replace BY := Hd (BY.out.keeps hk id)
   replace KB := Hd (KB.out.keeps hk (λ _ _ _ => id))
   replace L3 := Hd (L3.out.keeps hk (λ _ _ _ => id))
   replace L4 := Hd (L4.out.keeps hk (λ _ _ _ => id))
   replace R3 := Hd (R3.out.keeps hk (λ _ _ _ => id))
   obtain ⟨G4, g4j, hf⟩ := hO.form
   subst hf
   have szw13 := hk.size
   have R4 : Hid (OTx w13 (From w.heap.size) (.slice G4 (tR4).length g4j) (tR4)) := hO.mono (λ b _ hb => by have := hb.1; show w.heap.size <= b; omega)
   replace K := tq_ K hk
   clear hO hk
   have qBY := λ i => BY.out.cell i
   have gBY := λ i => BY.out.frozen i
   have lBY := BY.out.lt
   go_wp2_with fail
   refine calls_at (λ w14 hw => ?_)
   have hk : Keeps (λ b => b = w4.heap.size) w13 w14 := by rw [hw]; exact Keeps.setCell _ (M := λ b => b = w4.heap.size) rfl _
   have hb : Hid (Blk w14 (w4.heap.size) 35 #[.int .i64 n.lvl, .slice E1 n.high.length ej1, .int .i64 n.right, .slice G3 tR3.length g3j, .slice G4 tR4.length g4j, .slice E5 n.kids.length ej5]) := by rw [hw]; exact (BY.out.set_ 4 _)
   replace HU := Hd (HU.out.keeps hk (λ b _ hb e => by have h1 : b < w.heap.size := hb; have h2 : b = _ := e; omega))
   replace BN := Hd (BN.out.keeps hk (by show ¬ _ = _; omega))
   replace B1 := Hd (B1.out.keeps hk (by show ¬ _ = _; omega))
   replace B2 := Hd (B2.out.keeps hk (by show ¬ _ = _; omega))
   replace H := Hd (H.out.keeps hk (λ b _ hb e => by have h1 : b < w.heap.size := hb; have h2 : b = _ := e; omega))
   replace L1 := Hd (L1.out.keepsB BY.out ha hk)
   replace L5 := Hd (L5.out.keepsB BY.out ha hk)
   replace BX := Hd (BX.out.keeps hk (by show ¬ _ = _; omega))
   replace R1 := Hd (R1.out.keepsB BY.out ha hk)
   replace R5 := Hd (R5.out.keepsB BY.out ha hk)
   replace KB := Hd (KB.out.keepsB BY.out ha hk)
   replace L3 := Hd (L3.out.keepsB BY.out ha hk)
   replace L4 := Hd (L4.out.keepsB BY.out ha hk)
   replace R3 := Hd (R3.out.keepsB BY.out ha hk)
   replace R4 := Hd (R4.out.keepsB BY.out ha hk)
   replace BY := hb
   clear hw hb
   have szw14 := hk.size
   replace K := Hd (K.out.trans hk (λ b hb e => by subst e; omega))
   clear hk
   clear qBY gBY lBY
   refine (bytesR KB.out.r HSX.out).mono ?_
   rintro e w15 ⟨v, rfl, hU, hk⟩
   obtain ⟨Bh, jh, hf⟩ := Own.form hU
   subst hf
   replace HU := Hd (HU.out.keeps hk (λ _ _ _ => id))
   replace BN := Hd (BN.out.keeps hk id)
   replace B1 := Hd (B1.out.keeps hk id)
   replace B2 := Hd (B2.out.keeps hk id)
   replace H := Hd (H.out.keeps hk (λ _ _ _ => id))
   replace L1 := Hd (L1.out.keeps hk (λ _ _ _ => id))
   replace L5 := Hd (L5.out.keeps hk (λ _ _ _ => id))
   replace BX := Hd (BX.out.keeps hk id)
   replace R1 := Hd (R1.out.keeps hk (λ _ _ _ => id))
   replace R5 := Hd (R5.out.keeps hk (λ _ _ _ => id))
   replace BY := Hd (BY.out.keeps hk id)
   replace KB := Hd (KB.out.keeps hk (λ _ _ _ => id))
   replace L3 := Hd (L3.out.keeps hk (λ _ _ _ => id))
   replace L4 := Hd (L4.out.keeps hk (λ _ _ _ => id))
   replace R3 := Hd (R3.out.keeps hk (λ _ _ _ => id))
   replace R4 := Hd (R4.out.keeps hk (λ _ _ _ => id))
   have szw15 := hk.size
   replace K := tq_ K hk
   clear L1
   have L1 : Hid (OBy w15 (From w.heap.size) (.slice Bh x.length jh) x) := hU.mono (λ b _ hb => by have := hb.1; show w.heap.size <= b; omega)
   clear hk hU
   have qBX := λ i => BX.out.cell i
   have gBX := λ i => BX.out.frozen i
   have lBX := BX.out.lt
   go_wp2
   refine code_at (λ w16 hw => ?_)
   have hk : Keeps (λ b => b = w2.heap.size) w15 w16 := by rw [hw]; exact (Keeps.setCell _ (M := λ b => b = w2.heap.size) rfl _).setCell' (λ _ => rfl) _
   have hb : Hid (Blk w16 (w2.heap.size) 35 #[.int .i64 n.lvl, .slice Bh x.length jh, .int .i64 right, .slice F3 tL3.length f3j, .slice F4 tL4.length f4j, .slice D5 n.kids.length dj5]) := by rw [hw]; exact ((BX.out.set_ 1 _).set_ 2 _)
   replace HU := Hd (HU.out.keeps hk (λ b _ hb e => by have h1 : b < w.heap.size := hb; have h2 : b = _ := e; omega))
   replace BN := Hd (BN.out.keeps hk (by show ¬ _ = _; omega))
   replace B1 := Hd (B1.out.keeps hk (by show ¬ _ = _; omega))
   replace B2 := Hd (B2.out.keeps hk (by show ¬ _ = _; omega))
   replace H := Hd (H.out.keeps hk (λ b _ hb e => by have h1 : b < w.heap.size := hb; have h2 : b = _ := e; omega))
   replace L5 := Hd (L5.out.keepsB BX.out ha hk)
   replace R1 := Hd (R1.out.keepsB BX.out ha hk)
   replace R5 := Hd (R5.out.keepsB BX.out ha hk)
   replace BY := Hd (BY.out.keeps hk (by show ¬ _ = _; omega))
   replace KB := Hd (KB.out.keepsB BX.out ha hk)
   replace L3 := Hd (L3.out.keepsB BX.out ha hk)
   replace L4 := Hd (L4.out.keepsB BX.out ha hk)
   replace R3 := Hd (R3.out.keepsB BX.out ha hk)
   replace R4 := Hd (R4.out.keepsB BX.out ha hk)
   replace L1 := Hd (L1.out.keepsB BX.out ha hk)
   replace BX := hb
   clear hw hb
   have szw16 := hk.size
   replace K := Hd (K.out.trans hk (λ b hb e => by subst e; omega))
   clear hk
   clear qBX gBX lBX
   refine rC_ [0, 1, 2, 3, 4, 5] 4 (λ W => W.cell? ⟨w2.heap.size, 0, none⟩ = some (.int .i64 n.lvl) /\ W.cell? ⟨w2.heap.size, 1, none⟩ = some (.slice Bh x.length jh) /\ W.cell? ⟨w2.heap.size, 2, none⟩ = some (.int .i64 right) /\ W.cell? ⟨w2.heap.size, 3, none⟩ = some (.slice F3 tL3.length f3j) /\ W.cell? ⟨w2.heap.size, 4, none⟩ = some (.slice F4 tL4.length f4j) /\ W.cell? ⟨w2.heap.size, 5, none⟩ = some (.slice D5 n.kids.length dj5) /\ W.cell? ⟨w4.heap.size, 0, none⟩ = some (.int .i64 n.lvl) /\ W.cell? ⟨w4.heap.size, 1, none⟩ = some (.slice E1 n.high.length ej1) /\ W.cell? ⟨w4.heap.size, 2, none⟩ = some (.int .i64 n.right) /\ W.cell? ⟨w4.heap.size, 3, none⟩ = some (.slice G3 tR3.length g3j) /\ W.cell? ⟨w4.heap.size, 4, none⟩ = some (.slice G4 tR4.length g4j) /\ W.cell? ⟨w4.heap.size, 5, none⟩ = some (.slice E5 n.kids.length ej5)) ⟨BX.out.cell 0, BX.out.cell 1, BX.out.cell 2, BX.out.cell 3, BX.out.cell 4, BX.out.cell 5, BY.out.cell 0, BY.out.cell 1, BY.out.cell 2, BY.out.cell 3, BY.out.cell 4, BY.out.cell 5⟩ ?_
   refine canon_at (λ w17 hw => ?_)
   have hk : Keeps Nob w16 w17 := by rw [hw]; exact Keeps.drew _ _
   replace HU := Hd (HU.out.keeps hk (λ _ _ _ => id))
   replace BN := Hd (BN.out.keeps hk id)
   replace B1 := Hd (B1.out.keeps hk id)
   replace B2 := Hd (B2.out.keeps hk id)
   replace H := Hd (H.out.keeps hk (λ _ _ _ => id))
   replace L5 := Hd (L5.out.keeps hk (λ _ _ _ => id))
   replace BX := Hd (BX.out.keeps hk id)
   replace R1 := Hd (R1.out.keeps hk (λ _ _ _ => id))
   replace R5 := Hd (R5.out.keeps hk (λ _ _ _ => id))
   replace BY := Hd (BY.out.keeps hk id)
   replace KB := Hd (KB.out.keeps hk (λ _ _ _ => id))
   replace L3 := Hd (L3.out.keeps hk (λ _ _ _ => id))
   replace L4 := Hd (L4.out.keeps hk (λ _ _ _ => id))
   replace R3 := Hd (R3.out.keeps hk (λ _ _ _ => id))
   replace R4 := Hd (R4.out.keeps hk (λ _ _ _ => id))
   replace L1 := Hd (L1.out.keeps hk (λ _ _ _ => id))
   have szw17 := hk.size
   replace K := tq_ K hk
   clear hw hk
   iterate 3
    refine cR_ (v := ?_) rfl ?_ ?_
    rotate_left
    ·intro W hW
     try (obtain ⟨h0, h1, h2, h3, h4, h5, h6, h7, h8, h9, h10, h11⟩ : _ /\ _ /\ _ /\ _ /\ _ /\ _ /\ _ /\ _ /\ _ /\ _ /\ _ /\ _ := hW)
     go_simp
     try rfl
    simp only [Act.put, sa_, sb_, sc_]
   have qB1 := λ i => B1.out.cell i
   have gB1 := λ i => B1.out.frozen i
   have lB1 := B1.out.lt
   refine cA_ rfl ?_
   go_wp2
   have hk : Keeps (λ b => b = w.heap.size + 1) w17 _ := (((((Keeps.setCell w17 (M := λ b => b = w.heap.size + 1) (p := ⟨w.heap.size + 1, 0, none⟩) rfl (.int .i64 n.lvl)).setCell' (p := ⟨w.heap.size + 1, 1, none⟩) (λ _ => rfl) (.slice Bh x.length jh)).setCell' (p := ⟨w.heap.size + 1, 2, none⟩) (λ _ => rfl) (.int .i64 right)).setCell' (p := ⟨w.heap.size + 1, 3, none⟩) (λ _ => rfl) (.slice F3 tL3.length f3j)).setCell' (p := ⟨w.heap.size + 1, 4, none⟩) (λ _ => rfl) (.slice F4 tL4.length f4j)).setCell' (p := ⟨w.heap.size + 1, 5, none⟩) (λ _ => rfl) (.slice D5 n.kids.length dj5)
   refine ⟨.inr ⟨(BX.out.keeps hk (by show ¬ _ = _; omega)).cell 0, (BX.out.keeps hk (by show ¬ _ = _; omega)).cell 1, (BX.out.keeps hk (by show ¬ _ = _; omega)).cell 2, (BX.out.keeps hk (by show ¬ _ = _; omega)).cell 3, (BX.out.keeps hk (by show ¬ _ = _; omega)).cell 4, (BX.out.keeps hk (by show ¬ _ = _; omega)).cell 5, (BY.out.keeps hk (by show ¬ _ = _; omega)).cell 0, (BY.out.keeps hk (by show ¬ _ = _; omega)).cell 1, (BY.out.keeps hk (by show ¬ _ = _; omega)).cell 2, (BY.out.keeps hk (by show ¬ _ = _; omega)).cell 3, (BY.out.keeps hk (by show ¬ _ = _; omega)).cell 4, (BY.out.keeps hk (by show ¬ _ = _; omega)).cell 5⟩, ?_⟩
   clear hk
   refine canon_at (λ w18 hw => ?_)
   have hk : Keeps (λ b => b = w.heap.size + 1) w17 w18 := by rw [hw]; exact (((((Keeps.setCell _ (M := λ b => b = w.heap.size + 1) rfl _).setCell' (λ _ => rfl) _).setCell' (λ _ => rfl) _).setCell' (λ _ => rfl) _).setCell' (λ _ => rfl) _).setCell' (λ _ => rfl) _
   have hb : Hid (Blk w18 (w.heap.size + 1) 35 #[.int .i64 n.lvl, .slice Bh x.length jh, .int .i64 right, .slice F3 tL3.length f3j, .slice F4 tL4.length f4j, .slice D5 n.kids.length dj5]) := by rw [hw]; exact ((((((B1.out.set_ 0 _).set_ 1 _).set_ 2 _).set_ 3 _).set_ 4 _).set_ 5 _)
   replace HU := Hd (HU.out.keeps hk (λ b _ hb e => by have h1 : b < w.heap.size := hb; have h2 : b = _ := e; omega))
   replace BN := Hd (BN.out.keeps hk (by show ¬ _ = _; omega))
   replace B2 := Hd (B2.out.keeps hk (by show ¬ _ = _; omega))
   replace H := Hd (H.out.keeps hk (λ b _ hb e => by have h1 : b < w.heap.size := hb; have h2 : b = _ := e; omega))
   replace L5 := Hd (L5.out.keepsB B1.out ha hk)
   replace BX := Hd (BX.out.keeps hk (by show ¬ _ = _; omega))
   replace R1 := Hd (R1.out.keepsB B1.out ha hk)
   replace R5 := Hd (R5.out.keepsB B1.out ha hk)
   replace BY := Hd (BY.out.keeps hk (by show ¬ _ = _; omega))
   replace KB := Hd (KB.out.keepsB B1.out ha hk)
   replace L3 := Hd (L3.out.keepsB B1.out ha hk)
   replace L4 := Hd (L4.out.keepsB B1.out ha hk)
   replace R3 := Hd (R3.out.keepsB B1.out ha hk)
   replace R4 := Hd (R4.out.keepsB B1.out ha hk)
   replace L1 := Hd (L1.out.keepsB B1.out ha hk)
   replace B1 := hb
   clear hw hb
   have szw18 := hk.size
   replace K := Hd (K.out.trans hk (λ b hb e => by subst e; omega))
   clear hk
   clear qB1 gB1 lB1
   have qB2 := λ i => B2.out.cell i
   have gB2 := λ i => B2.out.frozen i
   have lB2 := B2.out.lt
   refine cA_ rfl ?_
   go_wp2
   refine ⟨.inl (by kernel_rfl), ?_⟩
   refine canon_at (λ w19 hw => ?_)
   have hk : Keeps (λ b => b = w.heap.size + 1 + 1) w18 w19 := by rw [hw]; exact (((((Keeps.setCell _ (M := λ b => b = w.heap.size + 1 + 1) rfl _).setCell' (λ _ => rfl) _).setCell' (λ _ => rfl) _).setCell' (λ _ => rfl) _).setCell' (λ _ => rfl) _).setCell' (λ _ => rfl) _
   have hb : Hid (Blk w19 (w.heap.size + 1 + 1) 35 #[.int .i64 n.lvl, .slice E1 n.high.length ej1, .int .i64 n.right, .slice G3 tR3.length g3j, .slice G4 tR4.length g4j, .slice E5 n.kids.length ej5]) := by rw [hw]; exact ((((((B2.out.set_ 0 _).set_ 1 _).set_ 2 _).set_ 3 _).set_ 4 _).set_ 5 _)
   replace HU := Hd (HU.out.keeps hk (λ b _ hb e => by have h1 : b < w.heap.size := hb; have h2 : b = _ := e; omega))
   replace BN := Hd (BN.out.keeps hk (by show ¬ _ = _; omega))
   replace B1 := Hd (B1.out.keeps hk (by show ¬ _ = _; omega))
   replace H := Hd (H.out.keeps hk (λ b _ hb e => by have h1 : b < w.heap.size := hb; have h2 : b = _ := e; omega))
   replace L5 := Hd (L5.out.keepsB B2.out ha hk)
   replace BX := Hd (BX.out.keeps hk (by show ¬ _ = _; omega))
   replace R1 := Hd (R1.out.keepsB B2.out ha hk)
   replace R5 := Hd (R5.out.keepsB B2.out ha hk)
   replace BY := Hd (BY.out.keeps hk (by show ¬ _ = _; omega))
   replace KB := Hd (KB.out.keepsB B2.out ha hk)
   replace L3 := Hd (L3.out.keepsB B2.out ha hk)
   replace L4 := Hd (L4.out.keepsB B2.out ha hk)
   replace R3 := Hd (R3.out.keepsB B2.out ha hk)
   replace R4 := Hd (R4.out.keepsB B2.out ha hk)
   replace L1 := Hd (L1.out.keepsB B2.out ha hk)
   replace B2 := hb
   clear hw hb
   have szw19 := hk.size
   replace K := Hd (K.out.trans hk (λ b hb e => by subst e; omega))
   clear hk
   clear qB2 gB2 lB2
   iterate 1
    refine cR_ (v := ?_) rfl ?_ ?_
    rotate_left
    ·intro W hW
     skip
     go_simp
     try rfl
    simp only [Act.put, sa_, sb_, sc_]
   refine wpCanon_nil ?_
   go_wp2
   have r0 := B1.out.cell 0
   have s0 := B2.out.cell 0
   have r1 := B1.out.cell 1
   have s1 := B2.out.cell 1
   have r2 := B1.out.cell 2
   have s2 := B2.out.cell 2
   have r3 := B1.out.cell 3
   have s3 := B2.out.cell 3
   have r4 := B1.out.cell 4
   have s4 := B2.out.cell 4
   have r5 := B1.out.cell 5
   have s5 := B2.out.cell 5
   rw [HL.out, HRR.out, HKK.out]
   refine bodyPost_ret (v := .tuple #[.agg #[.int .i64 n.lvl, .slice Bh x.length jh, .int .i64 right, .slice F3 tL3.length f3j, .slice F4 tL4.length f4j, .slice D5 n.kids.length dj5], .agg #[.int .i64 n.lvl, .slice E1 n.high.length ej1, .int .i64 n.right, .slice G3 tR3.length g3j, .slice G4 tR4.length g4j, .slice E5 n.kids.length ej5], .slice Bk x.length jk]) (by simp [results, Tryz.results40, go_sem, r0, r1, r2, r3, r4, r5, s0, s1, s2, s3, s4, s5]) rfl ⟨_, _, _, _, _, _, _, _, _, _, _, _, _, rfl, ⟨⟨rfl, ?_, rfl⟩, ?_, ?_, ?_⟩, ⟨⟨rfl, ?_, rfl⟩, ?_, ?_, ?_⟩, ?_, K.out⟩
   ·exact L1.out.mono (λ b hb h => ⟨h, hb⟩)
   ·have e := HL3.out; subst e; exact L3.out.mono (λ b hb h => ⟨h, hb⟩)
   ·have e := HL4.out; subst e; exact L4.out.mono (λ b hb h => ⟨h, hb⟩)
   ·exact L5.out.mono (λ b hb h => ⟨h, hb⟩)
   ·exact R1.out.mono (λ b hb h => ⟨h, hb⟩)
   ·have e := HR3.out; subst e; exact R3.out.mono (λ b hb h => ⟨h, hb⟩)
   ·have e := HR4.out; subst e; exact R4.out.mono (λ b hb h => ⟨h, hb⟩)
   ·exact R5.out.mono (λ b hb h => ⟨h, hb⟩)
   ·exact KB.out.mono (λ b hb h => ⟨h, hb⟩)
 ·obtain ⟨hl1, rv, rk⟩ := ri hl0
  clear rl ri
  have hM : spM n = n.kids.length := by unfold spM; rw [if_neg hl0]
  have hl0 : 0 < n.lvl := hl1
  by_cases hm : n.kids.length < 2
  ·have hbd : spBad n := .inl (by rw [hM]; exact hm)
   have t2 : (n.kids.length : Int) < 2 := by omega
   have t0 : decide (0 < n.lvl) = true := decide_eq_true hl0
   have t1 : (n.lvl == 0) = false := by rw [beq_eq_false_iff_ne]; omega
   clear hM
   have hl : spL n right = n := by unfold spL; rw [if_pos hbd]
   have hr : spR n = Nd.zero := by unfold spR; rw [if_pos hbd]
   have hkk : spK n = [] := by unfold spK; rw [if_pos hbd]
   have HLb := Hd hl
   have HRb := Hd hr
   have HKb := Hd hkk
   clear hhd hl hr hkk hbd hl0 rv rk
   go_enter Tryz.func40, Tryz.ntmps40
   go_wp2_with fail
   refine calls_at (λ w1 hw => ?_)
   have hk : Keeps Nob w w1 := by rw [hw]; exact ((Keeps.alloc _ w _).alloc' _).alloc' _
   have BN : Hid (Blk w1 (w.heap.size) 35 #[.int .i64 n.lvl, .slice A1 n.high.length k1, .int .i64 n.right, .slice A3 n.keys.length k3, .slice A4 n.vals.length k4, .slice A5 n.kids.length k5]) := by rw [hw]; exact ((Blk.new _ _ _).alloc _).alloc _
   have B1 : Hid (Blk w1 (w.heap.size + 1) 35 #[.int .i64 0, .slice none 0 0, .int .i64 0, .slice none 0 0, .slice none 0 0, .slice none 0 0]) := by rw [hw]; exact (Blk.new' (by simp) _ _).alloc _
   have B2 : Hid (Blk w1 (w.heap.size + 1 + 1) 35 #[.int .i64 0, .slice none 0 0, .int .i64 0, .slice none 0 0, .slice none 0 0, .slice none 0 0]) := by rw [hw]; exact Blk.new' (by simp) _ _
   replace H := Hd (H.out.keeps hk (λ _ _ _ => id))
   have szw1 := hk.size
   have lt2 := B2.out.lt
   have K := Hd hk
   clear hw hk
   refine (cloneR H.out (HS.out.mono (by decide))).mono ?_
   rintro e w2 ⟨d0, d1, d2, d3, d4, d5, rfl, hO, hk, _, _, _⟩
   replace BN := Hd (BN.out.keeps hk id)
   replace B1 := Hd (B1.out.keeps hk id)
   replace B2 := Hd (B2.out.keeps hk id)
   replace H := Hd (H.out.keeps hk (λ _ _ _ => id))
   have szw2 := hk.size
   replace K := tq_ K hk
   clear hk
   obtain ⟨D1, dj1, f1⟩ := Own.form hO.1.high
   obtain ⟨D3, dj3, f3⟩ := OTx.form hO.2.keys
   obtain ⟨D4, dj4, f4⟩ := OTx.form hO.2.vals
   obtain ⟨D5, dj5, f5⟩ := Own.form hO.2.kids
   have f0 := hO.1.lvl
   have f2 := hO.1.right
   unfold iV at f0 f2
   subst f0 f1 f2 f3 f4 f5
   have L1 : Hid (OBy w2 (From w.heap.size) (.slice D1 (n).high.length dj1) (n).high) := hO.1.high.mono (λ b _ hb => by have := hb.1; show w.heap.size <= b; omega)
   have L3 : Hid (OTx w2 (From w.heap.size) (.slice D3 (n).keys.length dj3) (n).keys) := hO.2.keys.mono (λ b _ hb => by have := hb.1; show w.heap.size <= b; omega)
   have L4 : Hid (OTx w2 (From w.heap.size) (.slice D4 (n).vals.length dj4) (n).vals) := hO.2.vals.mono (λ b _ hb => by have := hb.1; show w.heap.size <= b; omega)
   have L5 : Hid (OIn w2 (From w.heap.size) (.slice D5 (n).kids.length dj5) (n).kids) := hO.2.kids.mono (λ b _ hb => by have := hb.1; show w.heap.size <= b; omega)
   clear hO
   have qBN := λ i => BN.out.cell i
   have gBN := λ i => BN.out.frozen i
   have lBN := BN.out.lt
   have qB1 := λ i => B1.out.cell i
   have gB1 := λ i => B1.out.frozen i
   have lB1 := B1.out.lt
   have qB2 := λ i => B2.out.cell i
   have gB2 := λ i => B2.out.frozen i
   have lB2 := B2.out.lt
   go_wp2
   refine post_at (λ w3 hw => ?_)
   clear qBN gBN lBN qB1 gB1 lB1 qB2 gB2 lB2
   have K2 : Hid (Keeps (λ b => b = w.heap.size + 1 \/ b = w.heap.size + 1 + 1) w2 w3) := by rw [hw]; exact ((((((((((((Keeps.setCell w2 (M := λ b => b = w.heap.size + 1 \/ b = w.heap.size + 1 + 1) (p := ⟨w.heap.size + 1, 0, none⟩) (.inl rfl) _).setCell' (p := ⟨w.heap.size + 1, 1, none⟩) (λ _ => .inl rfl) _).setCell' (p := ⟨w.heap.size + 1, 2, none⟩) (λ _ => .inl rfl) _).setCell' (p := ⟨w.heap.size + 1, 3, none⟩) (λ _ => .inl rfl) _).setCell' (p := ⟨w.heap.size + 1, 4, none⟩) (λ _ => .inl rfl) _).setCell' (p := ⟨w.heap.size + 1, 5, none⟩) (λ _ => .inl rfl) _).setCell' (p := ⟨w.heap.size + 1 + 1, 0, none⟩) (λ _ => .inr rfl) _).setCell' (p := ⟨w.heap.size + 1 + 1, 1, none⟩) (λ _ => .inr rfl) _).setCell' (p := ⟨w.heap.size + 1 + 1, 2, none⟩) (λ _ => .inr rfl) _).setCell' (p := ⟨w.heap.size + 1 + 1, 3, none⟩) (λ _ => .inr rfl) _).setCell' (p := ⟨w.heap.size + 1 + 1, 4, none⟩) (λ _ => .inr rfl) _).setCell' (p := ⟨w.heap.size + 1 + 1, 5, none⟩) (λ _ => .inr rfl) _).alloc' _
   have hb1 : Blk w3 (w.heap.size + 1) 35 #[.int .i64 n.lvl, .slice D1 n.high.length dj1, .int .i64 n.right, .slice D3 n.keys.length dj3, .slice D4 n.vals.length dj4, .slice D5 n.kids.length dj5] := by rw [hw]; exact (((((((((((((B1.out.set_ 0 _).set_ 1 _).set_ 2 _).set_ 3 _).set_ 4 _).set_ 5 _).far (p := ⟨w.heap.size + 1 + 1, 0, none⟩) (by show w.heap.size + 1 ≠ w.heap.size + 1 + 1; omega) _).far (p := ⟨w.heap.size + 1 + 1, 1, none⟩) (by show w.heap.size + 1 ≠ w.heap.size + 1 + 1; omega) _).far (p := ⟨w.heap.size + 1 + 1, 2, none⟩) (by show w.heap.size + 1 ≠ w.heap.size + 1 + 1; omega) _).far (p := ⟨w.heap.size + 1 + 1, 3, none⟩) (by show w.heap.size + 1 ≠ w.heap.size + 1 + 1; omega) _).far (p := ⟨w.heap.size + 1 + 1, 4, none⟩) (by show w.heap.size + 1 ≠ w.heap.size + 1 + 1; omega) _).far (p := ⟨w.heap.size + 1 + 1, 5, none⟩) (by show w.heap.size + 1 ≠ w.heap.size + 1 + 1; omega) _)).alloc _
   have hb2 : Blk w3 (w.heap.size + 1 + 1) 35 #[.int .i64 0, .slice none 0 0, .int .i64 0, .slice none 0 0, .slice none 0 0, .slice none 0 0] := by rw [hw]; exact (((((((((((((B2.out.far (p := ⟨w.heap.size + 1, 0, none⟩) (by show w.heap.size + 1 + 1 ≠ w.heap.size + 1; omega) _).far (p := ⟨w.heap.size + 1, 1, none⟩) (by show w.heap.size + 1 + 1 ≠ w.heap.size + 1; omega) _).far (p := ⟨w.heap.size + 1, 2, none⟩) (by show w.heap.size + 1 + 1 ≠ w.heap.size + 1; omega) _).far (p := ⟨w.heap.size + 1, 3, none⟩) (by show w.heap.size + 1 + 1 ≠ w.heap.size + 1; omega) _).far (p := ⟨w.heap.size + 1, 4, none⟩) (by show w.heap.size + 1 + 1 ≠ w.heap.size + 1; omega) _).far (p := ⟨w.heap.size + 1, 5, none⟩) (by show w.heap.size + 1 + 1 ≠ w.heap.size + 1; omega) _).set_ 0 _).set_ 1 _).set_ 2 _).set_ 3 _).set_ 4 _).set_ 5 _)).alloc _
   clear hw
   have r0 := hb1.cell 0
   have s0 := hb2.cell 0
   have r1 := hb1.cell 1
   have s1 := hb2.cell 1
   have r2 := hb1.cell 2
   have s2 := hb2.cell 2
   have r3 := hb1.cell 3
   have s3 := hb2.cell 3
   have r4 := hb1.cell 4
   have s4 := hb2.cell 4
   have r5 := hb1.cell 5
   have s5 := hb2.cell 5
   rw [HLb.out, HRb.out, HKb.out]
   refine bodyPost_ret (v := .tuple #[.agg #[.int .i64 n.lvl, .slice D1 n.high.length dj1, .int .i64 n.right, .slice D3 n.keys.length dj3, .slice D4 n.vals.length dj4, .slice D5 n.kids.length dj5], .agg #[.int .i64 0, .slice none 0 0, .int .i64 0, .slice none 0 0, .slice none 0 0, .slice none 0 0], .slice none 0 0]) (by simp [results, Tryz.results40, go_sem, r0, r1, r2, r3, r4, r5, s0, s1, s2, s3, s4, s5]) rfl ⟨_, _, _, _, _, _, _, _, _, _, _, _, _, rfl, ⟨⟨rfl, ?_, rfl⟩, ?_, ?_, ?_⟩, ONd.zero _ _, OBy.nil _ _, K.out.trans K2.out (λ b hb e => by rcases e with e | e <;> omega)⟩
   ·exact (OBy.keeps2 L1.out (ne2 B1.out B2.out) K2.out).mono (λ b hb h => ⟨h, hb⟩)
   ·exact (OTx.keeps2 L3.out (ne2 B1.out B2.out) K2.out).mono (λ b hb h => ⟨h, hb⟩)
   ·exact (OTx.keeps2 L4.out (ne2 B1.out B2.out) K2.out).mono (λ b hb h => ⟨h, hb⟩)
   ·exact (OIn.keeps2 L5.out (ne2 B1.out B2.out) K2.out).mono (λ b hb h => ⟨h, hb⟩)
  ·by_cases n1 : k3 = h
   ·subst n1
    rw [hM] at hhd
    have h2a : 2 * k3 <= n.kids.length + 1 := by omega
    have h2b : n.kids.length <= 2 * k3 := by omega
    have hbd : ¬ spBad n := by unfold spBad; rw [hM]; omega
    have hsh : spH n = k3 := by unfold spH; rw [hM]; exact hhd
    have t2 : decide ((n.kids.length : Int) < 2) = false := decide_eq_false (by omega)
    have th : ((n.kids.length : Int) + 1) / 2 = (k3 : Int) := by omega
    have t0 : decide (0 < n.lvl) = true := decide_eq_true hl0
    have t1 : (n.lvl == 0) = false := by rw [beq_eq_false_iff_ne]; omega
    obtain ⟨x, hx⟩ : ∃ x, n.keys[(k3 - 1)]? = some x := ⟨_, List.getElem?_eq_getElem (by omega)⟩
    have hkk : spK n = x := by unfold spK; rw [if_neg hbd, if_neg (Int.ne_of_gt hl0), hsh, List.getD_eq_getElem?_getD, hx]; rfl
    have hl : spL n right = { n with high := spK n, right := right, keys := n.keys.take (k3 - 1), kids := n.kids.take k3 } := by unfold spL; rw [if_neg hbd, if_neg (Int.ne_of_gt hl0), hsh]
    have hr : spR n = { n with keys := n.keys.drop k3, kids := n.kids.drop k3 } := by unfold spR; rw [if_neg hbd, if_neg (Int.ne_of_gt hl0), hsh]
    have HL := Hd hl
    have HRR := Hd hr
    have HKK := Hd hkk
    have HSX : Hid (Sm 0 1 x.length) := (HS.out.2.1.2 x (List.mem_of_getElem? hx)).mono (by decide)
    obtain ⟨ad, rfl, hadb, hc⟩ := H.out.2.keys.cells (i := (k3 - 1)) (by omega)
    obtain ⟨u, hu, hbu⟩ := hc _ x hx
    have HU := Hd (hbu.mono (T := λ b => b < w.heap.size) (λ b _ hs => hs))
    have HCU := Hd hu
    clear hc hbu hu
    obtain ⟨bd, hbd4, _, _⟩ := H.out.2.kids.cells (i := 0) (by omega)
    subst hbd4
    have b1 : (k3 - 1) < n.keys.length := by omega
    have b2 : (k3 - 1) <= k3 := by omega
    have b3 : k3 <= k5 := by omega
    have b4 : k3 <= n.keys.length := by omega
    have b5 : k3 <= n.kids.length := by omega
    have b8 : k3 <= k3 := by omega
    have b6 : ((k3 : Int) - 1) = ((k3 - 1 : Nat) : Int) := by omega
    have b10 : IntKind.i64.wrap ((k3 - 1 : Nat) : Int) = ((k3 - 1 : Nat) : Int) := by simp [IntKind.wrap, IntKind.bits, IntKind.signed]; omega
    have n2 : ¬ k5 = k3 := by omega
    clear hbd hl hr hkk hhd hx hsh hM hl0 rv rk
    obtain ⟨tL3, htL3⟩ : ∃ l, n.keys.take (k3 - 1) = l := ⟨_, rfl⟩
    have HL3 := Hd htL3
    obtain ⟨tR3, htR3⟩ : ∃ l, n.keys.drop k3 = l := ⟨_, rfl⟩
    have HR3 := Hd htR3
    obtain ⟨tL5, htL5⟩ : ∃ l, n.kids.take k3 = l := ⟨_, rfl⟩
    have HL5 := Hd htL5
    obtain ⟨tR5, htR5⟩ : ∃ l, n.kids.drop k3 = l := ⟨_, rfl⟩
    have HR5 := Hd htR5
    have lL5 : tL5.length = k3 := by rw [<- htL5, List.length_take]; omega
    have lR5 : tR5.length = n.kids.length - k3 := by rw [<- htR5, List.length_drop]
    have LL5 := Hd lL5
    have LR5 := Hd lR5
    clear lL5 lR5
    clear htL3 htR3 htL5 htR5
    go_enter Tryz.func40, Tryz.ntmps40
    go_wp2_with fail
    refine calls_at (λ w1 hw => ?_)
    have hk : Keeps Nob w w1 := by rw [hw]; exact ((Keeps.alloc _ w _).alloc' _).alloc' _
    have BN : Hid (Blk w1 (w.heap.size) 35 #[.int .i64 n.lvl, .slice A1 n.high.length k1, .int .i64 n.right, .slice (some ad) n.keys.length k3, .slice A4 n.vals.length k4, .slice (some bd) n.kids.length k5]) := by rw [hw]; exact ((Blk.new _ _ _).alloc _).alloc _
    have B1 : Hid (Blk w1 (w.heap.size + 1) 35 #[.int .i64 0, .slice none 0 0, .int .i64 0, .slice none 0 0, .slice none 0 0, .slice none 0 0]) := by rw [hw]; exact (Blk.new' (by simp) _ _).alloc _
    have B2 : Hid (Blk w1 (w.heap.size + 1 + 1) 35 #[.int .i64 0, .slice none 0 0, .int .i64 0, .slice none 0 0, .slice none 0 0, .slice none 0 0]) := by rw [hw]; exact Blk.new' (by simp) _ _
    replace HU := Hd (HU.out.keeps hk (λ _ _ _ => id))
    replace H := Hd (H.out.keeps hk (λ _ _ _ => id))
    have szw1 := hk.size
    have lt2 := B2.out.lt
    have K := Hd hk
    clear hw hk
    refine (cloneR H.out (HS.out.mono (by decide))).mono ?_
    rintro e w2 ⟨d0, d1, d2, d3, d4, d5, rfl, hO, hk, _, _, _⟩
    replace HU := Hd (HU.out.keeps hk (λ _ _ _ => id))
    replace BN := Hd (BN.out.keeps hk id)
    replace B1 := Hd (B1.out.keeps hk id)
    replace B2 := Hd (B2.out.keeps hk id)
    replace H := Hd (H.out.keeps hk (λ _ _ _ => id))
    have szw2 := hk.size
    replace K := tq_ K hk
    clear hk
    obtain ⟨D1, dj1, f1⟩ := Own.form hO.1.high
    obtain ⟨D3, dj3, f3⟩ := OTx.form hO.2.keys
    obtain ⟨D4, dj4, f4⟩ := OTx.form hO.2.vals
    obtain ⟨D5, dj5, f5⟩ := Own.form hO.2.kids
    have f0 := hO.1.lvl
    have f2 := hO.1.right
    unfold iV at f0 f2
    subst f0 f1 f2 f3 f4 f5
    have L1 : Hid (OBy w2 (From w.heap.size) (.slice D1 (n).high.length dj1) (n).high) := hO.1.high.mono (λ b _ hb => by have := hb.1; show w.heap.size <= b; omega)
    have L3 : Hid (OTx w2 (From w.heap.size) (.slice D3 (n).keys.length dj3) (n).keys) := hO.2.keys.mono (λ b _ hb => by have := hb.1; show w.heap.size <= b; omega)
    have L4 : Hid (OTx w2 (From w.heap.size) (.slice D4 (n).vals.length dj4) (n).vals) := hO.2.vals.mono (λ b _ hb => by have := hb.1; show w.heap.size <= b; omega)
    have L5 : Hid (OIn w2 (From w.heap.size) (.slice D5 (n).kids.length dj5) (n).kids) := hO.2.kids.mono (λ b _ hb => by have := hb.1; show w.heap.size <= b; omega)
    clear hO
    have qBN := λ i => BN.out.cell i
    have gBN := λ i => BN.out.frozen i
    have lBN := BN.out.lt
    go_wp2_with fail
    clear qBN gBN lBN
    refine calls_at (λ w3 hw => ?_)
    have hk : Keeps Nob w2 w3 := by rw [hw]; exact Keeps.alloc _ _ _
    have BX : Hid (Blk w3 (w2.heap.size) 35 #[.int .i64 n.lvl, .slice D1 n.high.length dj1, .int .i64 n.right, .slice D3 n.keys.length dj3, .slice D4 n.vals.length dj4, .slice D5 n.kids.length dj5]) := by rw [hw]; exact Blk.new _ _ _
    replace HU := Hd (HU.out.keeps hk (λ _ _ _ => id))
    replace BN := Hd (BN.out.keeps hk id)
    replace B1 := Hd (B1.out.keeps hk id)
    replace B2 := Hd (B2.out.keeps hk id)
    replace H := Hd (H.out.keeps hk (λ _ _ _ => id))
    replace L1 := Hd (L1.out.keeps hk (λ _ _ _ => id))
    replace L3 := Hd (L3.out.keeps hk (λ _ _ _ => id))
    replace L4 := Hd (L4.out.keeps hk (λ _ _ _ => id))
    replace L5 := Hd (L5.out.keeps hk (λ _ _ _ => id))
    have szw3 := hk.size
    have ltBX := BX.out.lt
    replace K := tq_ K hk
    clear hw hk
    refine (cloneR H.out (HS.out.mono (by decide))).mono ?_
    rintro e w4 ⟨e0, e1, e2, e3, e4, e5, rfl, hO, hk, _, _, _⟩
    replace HU := Hd (HU.out.keeps hk (λ _ _ _ => id))
    replace BN := Hd (BN.out.keeps hk id)
    replace B1 := Hd (B1.out.keeps hk id)
    replace B2 := Hd (B2.out.keeps hk id)
    replace H := Hd (H.out.keeps hk (λ _ _ _ => id))
    replace L1 := Hd (L1.out.keeps hk (λ _ _ _ => id))
    replace L3 := Hd (L3.out.keeps hk (λ _ _ _ => id))
    replace L4 := Hd (L4.out.keeps hk (λ _ _ _ => id))
    replace L5 := Hd (L5.out.keeps hk (λ _ _ _ => id))
    replace BX := Hd (BX.out.keeps hk id)
    have szw4 := hk.size
    replace K := tq_ K hk
    clear hk
    obtain ⟨E1, ej1, f1⟩ := Own.form hO.1.high
    obtain ⟨E3, ej3, f3⟩ := OTx.form hO.2.keys
    obtain ⟨E4, ej4, f4⟩ := OTx.form hO.2.vals
    obtain ⟨E5, ej5, f5⟩ := Own.form hO.2.kids
    have f0 := hO.1.lvl
    have f2 := hO.1.right
    unfold iV at f0 f2
    subst f0 f1 f2 f3 f4 f5
    have R1 : Hid (OBy w4 (From w.heap.size) (.slice E1 (n).high.length ej1) (n).high) := hO.1.high.mono (λ b _ hb => by have := hb.1; show w.heap.size <= b; omega)
    have R3 : Hid (OTx w4 (From w.heap.size) (.slice E3 (n).keys.length ej3) (n).keys) := hO.2.keys.mono (λ b _ hb => by have := hb.1; show w.heap.size <= b; omega)
    have R4 : Hid (OTx w4 (From w.heap.size) (.slice E4 (n).vals.length ej4) (n).vals) := hO.2.vals.mono (λ b _ hb => by have := hb.1; show w.heap.size <= b; omega)
    have R5 : Hid (OIn w4 (From w.heap.size) (.slice E5 (n).kids.length ej5) (n).kids) := hO.2.kids.mono (λ b _ hb => by have := hb.1; show w.heap.size <= b; omega)
    clear hO
    have hcu := λ o => (K.out.alloc' o).cell HCU.out id
    have qBN := λ i => BN.out.cell i
    have gBN := λ i => BN.out.frozen i
    have lBN := BN.out.lt
    go_wp2_with fail
    clear qBN gBN lBN
    clear hcu
    refine calls_at (λ w5 hw => ?_)
    have hk : Keeps Nob w4 w5 := by rw [hw]; exact Keeps.alloc _ _ _
    have BY : Hid (Blk w5 (w4.heap.size) 35 #[.int .i64 n.lvl, .slice E1 n.high.length ej1, .int .i64 n.right, .slice E3 n.keys.length ej3, .slice E4 n.vals.length ej4, .slice E5 n.kids.length ej5]) := by rw [hw]; exact Blk.new _ _ _
    replace HU := Hd (HU.out.keeps hk (λ _ _ _ => id))
    replace BN := Hd (BN.out.keeps hk id)
    replace B1 := Hd (B1.out.keeps hk id)
    replace B2 := Hd (B2.out.keeps hk id)
    replace H := Hd (H.out.keeps hk (λ _ _ _ => id))
    replace L1 := Hd (L1.out.keeps hk (λ _ _ _ => id))
    replace L3 := Hd (L3.out.keeps hk (λ _ _ _ => id))
    replace L4 := Hd (L4.out.keeps hk (λ _ _ _ => id))
    replace L5 := Hd (L5.out.keeps hk (λ _ _ _ => id))
    replace BX := Hd (BX.out.keeps hk id)
    replace R1 := Hd (R1.out.keeps hk (λ _ _ _ => id))
    replace R3 := Hd (R3.out.keeps hk (λ _ _ _ => id))
    replace R4 := Hd (R4.out.keeps hk (λ _ _ _ => id))
    replace R5 := Hd (R5.out.keeps hk (λ _ _ _ => id))
    have szw5 := hk.size
    have ltBY := BY.out.lt
    replace K := tq_ K hk
    clear hw hk
    refine (bytesR HU.out HSX.out).mono ?_
    rintro e w6 ⟨v, rfl, hU, hk⟩
    obtain ⟨Bk, jk, hf⟩ := Own.form hU
    subst hf
    replace HU := Hd (HU.out.keeps hk (λ _ _ _ => id))
    replace BN := Hd (BN.out.keeps hk id)
    replace B1 := Hd (B1.out.keeps hk id)
    replace B2 := Hd (B2.out.keeps hk id)
    replace H := Hd (H.out.keeps hk (λ _ _ _ => id))
    replace L1 := Hd (L1.out.keeps hk (λ _ _ _ => id))
    replace L3 := Hd (L3.out.keeps hk (λ _ _ _ => id))
    replace L4 := Hd (L4.out.keeps hk (λ _ _ _ => id))
    replace L5 := Hd (L5.out.keeps hk (λ _ _ _ => id))
    replace BX := Hd (BX.out.keeps hk id)
    replace R1 := Hd (R1.out.keeps hk (λ _ _ _ => id))
    replace R3 := Hd (R3.out.keeps hk (λ _ _ _ => id))
    replace R4 := Hd (R4.out.keeps hk (λ _ _ _ => id))
    replace R5 := Hd (R5.out.keeps hk (λ _ _ _ => id))
    replace BY := Hd (BY.out.keeps hk id)
    have szw6 := hk.size
    replace K := tq_ K hk
    have KB : Hid (OBy w6 (From w.heap.size) (.slice Bk x.length jk) x) := hU.mono (λ b _ hb => by have := hb.1; show w.heap.size <= b; omega)
    clear hk hU
    have qBN := λ i => BN.out.cell i
    have gBN := λ i => BN.out.frozen i
    have lBN := BN.out.lt
    go_wp2_with fail
    clear qBN gBN lBN
    refine (textsR (Txts.take_ H.out.2.keys (Nat.le_of_lt b1)) (sm_take HS.out.2.1)).mono ?_
    rintro e w7 ⟨v, rfl, hO, hk⟩
    rw [HL3.out] at hO
    clear L3
    replace HU := Hd (HU.out.keeps hk (λ _ _ _ => id))
    replace BN := Hd (BN.out.keeps hk id)
    replace B1 := Hd (B1.out.keeps hk id)
    replace B2 := Hd (B2.out.keeps hk id)
    replace H := Hd (H.out.keeps hk (λ _ _ _ => id))
    replace L1 := Hd (L1.out.keeps hk (λ _ _ _ => id))
    replace L4 := Hd (L4.out.keeps hk (λ _ _ _ => id))
    replace L5 := Hd (L5.out.keeps hk (λ _ _ _ => id))
    replace BX := Hd (BX.out.keeps hk id)
    replace R1 := Hd (R1.out.keeps hk (λ _ _ _ => id))
    replace R3 := Hd (R3.out.keeps hk (λ _ _ _ => id))
    replace R4 := Hd (R4.out.keeps hk (λ _ _ _ => id))
    replace R5 := Hd (R5.out.keeps hk (λ _ _ _ => id))
    replace BY := Hd (BY.out.keeps hk id)
    replace KB := Hd (KB.out.keeps hk (λ _ _ _ => id))
    obtain ⟨F3, f3j, hf⟩ := hO.form
    subst hf
    have szw7 := hk.size
    have L3 : Hid (OTx w7 (From w.heap.size) (.slice F3 (tL3).length f3j) (tL3)) := hO.mono (λ b _ hb => by have := hb.1; show w.heap.size <= b; omega)
    replace K := tq_ K hk
    clear hO hk
    have qBN := λ i => BN.out.cell i
    have gBN := λ i => BN.out.frozen i
    have lBN := BN.out.lt
    have qBX := λ i => BX.out.cell i
    have gBX := λ i => BX.out.frozen i
    have lBX := BX.out.lt
    go_wp2_with fail
    refine calls_at (λ w8 hw => ?_)
    have hk : Keeps (λ b => b = w2.heap.size) w7 w8 := by rw [hw]; exact Keeps.setCell _ (M := λ b => b = w2.heap.size) rfl _
    have hb : Hid (Blk w8 (w2.heap.size) 35 #[.int .i64 n.lvl, .slice D1 n.high.length dj1, .int .i64 n.right, .slice F3 tL3.length f3j, .slice D4 n.vals.length dj4, .slice D5 n.kids.length dj5]) := by rw [hw]; exact (BX.out.set_ 3 _)
    replace HU := Hd (HU.out.keeps hk (λ b _ hb e => by have h1 : b < w.heap.size := hb; have h2 : b = _ := e; omega))
    replace BN := Hd (BN.out.keeps hk (by show ¬ _ = _; omega))
    replace B1 := Hd (B1.out.keeps hk (by show ¬ _ = _; omega))
    replace B2 := Hd (B2.out.keeps hk (by show ¬ _ = _; omega))
    replace H := Hd (H.out.keeps hk (λ b _ hb e => by have h1 : b < w.heap.size := hb; have h2 : b = _ := e; omega))
    replace L1 := Hd (L1.out.keepsB BX.out ha hk)
    replace L4 := Hd (L4.out.keepsB BX.out ha hk)
    replace L5 := Hd (L5.out.keepsB BX.out ha hk)
    replace R1 := Hd (R1.out.keepsB BX.out ha hk)
    replace R3 := Hd (R3.out.keepsB BX.out ha hk)
    replace R4 := Hd (R4.out.keepsB BX.out ha hk)
    replace R5 := Hd (R5.out.keepsB BX.out ha hk)
    replace BY := Hd (BY.out.keeps hk (by show ¬ _ = _; omega))
    replace KB := Hd (KB.out.keepsB BX.out ha hk)
    replace L3 := Hd (L3.out.keepsB BX.out ha hk)
    replace BX := hb
    clear hw hb
    have szw8 := hk.size
    replace K := Hd (K.out.trans hk (λ b hb e => by subst e; omega))
    clear hk
    clear qBN gBN lBN qBX gBX lBX
    refine (textsR (Txts.drop0 H.out.2.keys b4) (sm_drop HS.out.2.1)).mono ?_
    rintro e w9 ⟨v, rfl, hO, hk⟩
    rw [HR3.out] at hO
    clear R3
    replace HU := Hd (HU.out.keeps hk (λ _ _ _ => id))
    replace BN := Hd (BN.out.keeps hk id)
    replace B1 := Hd (B1.out.keeps hk id)
    replace B2 := Hd (B2.out.keeps hk id)
    replace H := Hd (H.out.keeps hk (λ _ _ _ => id))
    replace L1 := Hd (L1.out.keeps hk (λ _ _ _ => id))
    replace L4 := Hd (L4.out.keeps hk (λ _ _ _ => id))
    replace L5 := Hd (L5.out.keeps hk (λ _ _ _ => id))
    replace BX := Hd (BX.out.keeps hk id)
    replace R1 := Hd (R1.out.keeps hk (λ _ _ _ => id))
    replace R4 := Hd (R4.out.keeps hk (λ _ _ _ => id))
    replace R5 := Hd (R5.out.keeps hk (λ _ _ _ => id))
    replace BY := Hd (BY.out.keeps hk id)
    replace KB := Hd (KB.out.keeps hk (λ _ _ _ => id))
    replace L3 := Hd (L3.out.keeps hk (λ _ _ _ => id))
    obtain ⟨G3, g3j, hf⟩ := hO.form
    subst hf
    have szw9 := hk.size
    have R3 : Hid (OTx w9 (From w.heap.size) (.slice G3 (tR3).length g3j) (tR3)) := hO.mono (λ b _ hb => by have := hb.1; show w.heap.size <= b; omega)
    replace K := tq_ K hk
    clear hO hk
    replace R5 := Hd (R5.out.mono (T := λ b => w.heap.size <= b /\ b < w9.heap.size) (λ b hb h => ⟨h, hb⟩))
    have qBN := λ i => BN.out.cell i
    have gBN := λ i => BN.out.frozen i
    have lBN := BN.out.lt
    have qBY := λ i => BY.out.cell i
    have gBY := λ i => BY.out.frozen i
    have lBY := BY.out.lt
    have qBX := λ i => BX.out.cell i
    have gBX := λ i => BX.out.frozen i
    have lBX := BX.out.lt
    go_wp2_with (at_builtin; refine list_at (λ wd hw => ?_); refine wpList_app rfl (.tmp 103) (.tmp 108) 31 rfl Tryz.underlying31 hi hz0 hz1 hz2 rfl (by decide) (v := .slice (some ⟨w9.heap.size, 0, none⟩) 0 0) (n := 0) (m := k3) (S := From w.heap.size) (T := λ b => b < w.heap.size) (xs := []) (news := (tL5).map iV) rfl ?sraa (y := .slice (some bd) k3 k5) rfl ?srab ?srac ?srad ?srae ?sraf)
    clear qBN gBN lBN qBY gBY lBY qBX gBX lBX
    case sraa => rw [hw]; exact Own.made0 (by simp) (by show w.heap.size <= _; omega)
    case srab =>
     have hsg := Ints.g (Ints.take_ H.out.2.kids b5)
     rw [HL5.out, LL5.out] at hsg
     rw [hw]; exact (hsg.keeps (Keeps.setCell _ (M := λ b => b = w4.heap.size) rfl _) (λ b _ hb e => by have h1 : b < w.heap.size := hb; have h2 : b = _ := e; omega)).keeps (Keeps.alloc Nob _ _) (λ _ _ _ => id)
    case srac => exact iV_one _
    case srad => unfold maxLen; omega
    case srae => omega
    intro v' w10 ho hkk _
    rw [<- hw] at hkk
    try simp only [Nat.zero_add, List.nil_append] at ho
    obtain ⟨F5, f5j, hf⟩ := ho.form
    subst hf
    have hk1 : Keeps (λ b => b = w4.heap.size) w9 wd := by rw [hw]; exact (Keeps.setCell _ (M := λ b => b = w4.heap.size) rfl _).alloc' _
    have hb : Hid (Blk wd (w4.heap.size) 35 #[.int .i64 n.lvl, .slice E1 n.high.length ej1, .int .i64 n.right, .slice G3 tR3.length g3j, .slice E4 n.vals.length ej4, .slice E5 n.kids.length ej5]) := by rw [hw]; exact (BY.out.set_ 3 _).alloc _
    replace HU := Hd (HU.out.keeps hk1 (λ b _ hb e => by have h1 : b < w.heap.size := hb; have h2 : b = _ := e; omega))
    replace BN := Hd (BN.out.keeps hk1 (by show ¬ _ = _; omega))
    replace B1 := Hd (B1.out.keeps hk1 (by show ¬ _ = _; omega))
    replace B2 := Hd (B2.out.keeps hk1 (by show ¬ _ = _; omega))
    replace H := Hd (H.out.keeps hk1 (λ b _ hb e => by have h1 : b < w.heap.size := hb; have h2 : b = _ := e; omega))
    replace L1 := Hd (L1.out.keepsB BY.out ha hk1)
    replace L4 := Hd (L4.out.keepsB BY.out ha hk1)
    replace L5 := Hd (L5.out.keepsB BY.out ha hk1)
    replace BX := Hd (BX.out.keeps hk1 (by show ¬ _ = _; omega))
    replace R1 := Hd (R1.out.keepsB BY.out ha hk1)
    replace R4 := Hd (R4.out.keepsB BY.out ha hk1)
    replace R5 := Hd (R5.out.keepsB BY.out ha hk1)
    replace KB := Hd (KB.out.keepsB BY.out ha hk1)
    replace L3 := Hd (L3.out.keepsB BY.out ha hk1)
    replace R3 := Hd (R3.out.keepsB BY.out ha hk1)
    replace BY := hb
    clear hb
    have szd := hk1.size
    replace K := Hd (K.out.trans hk1 (λ b hb e => by subst e; omega))
    have hwd : wd.heap.size = w9.heap.size + 1 := by rw [hw]; simp
    have hkm : ∀ b, (Value.slice (some ⟨w9.heap.size, 0, none⟩) 0 0).ownBlock = some b -> b = w9.heap.size := λ b e => by simp [Value.ownBlock] at e; exact e.symm
    have hkz : Keeps (λ b => b = w9.heap.size) wd w10 := hkk.mono (λ b _ e => hkm b e)
    clear L5
    replace HU := Hd (HU.out.keeps hkz (λ b _ hb e => by have h1 : b < w.heap.size := hb; have h2 : b = _ := e; omega))
    replace BN := Hd (BN.out.keeps hkz (by show ¬ _ = _; omega))
    replace B1 := Hd (B1.out.keeps hkz (by show ¬ _ = _; omega))
    replace B2 := Hd (B2.out.keeps hkz (by show ¬ _ = _; omega))
    replace H := Hd (H.out.keeps hkz (λ b _ hb e => by have h1 : b < w.heap.size := hb; have h2 : b = _ := e; omega))
    replace L1 := Hd (OBy.keeps3 L1.out (by rw [hw]; exact Blk.new' (by simp) _ _) (by decide) hkz)
    replace L4 := Hd (OTx.keeps3 L4.out (by rw [hw]; exact Blk.new' (by simp) _ _) (by decide) hkz)
    replace BX := Hd (BX.out.keeps hkz (by show ¬ _ = _; omega))
    replace R1 := Hd (OBy.keeps3 R1.out (by rw [hw]; exact Blk.new' (by simp) _ _) (by decide) hkz)
    replace R4 := Hd (OTx.keeps3 R4.out (by rw [hw]; exact Blk.new' (by simp) _ _) (by decide) hkz)
    replace R5 := Hd ((R5.out.keeps hkz (λ b hb hs e => by have h1 := hs.2; have h2 : b = _ := e; omega)).mono (T := From w.heap.size) (λ b _ hs => hs.1))
    replace BY := Hd (BY.out.keeps hkz (by show ¬ _ = _; omega))
    replace KB := Hd (OBy.keeps3 KB.out (by rw [hw]; exact Blk.new' (by simp) _ _) (by decide) hkz)
    replace L3 := Hd (OTx.keeps3 L3.out (by rw [hw]; exact Blk.new' (by simp) _ _) (by decide) hkz)
    replace R3 := Hd (OTx.keeps3 R3.out (by rw [hw]; exact Blk.new' (by simp) _ _) (by decide) hkz)
    have szw10 := hkz.size
    replace K := Hd (K.out.trans hkz (λ b hb e => by have h2 : b = _ := e; omega))
    have L5 : Hid (OIn w10 (From w.heap.size) (.slice F5 k3 f5j) tL5) := by
     unfold OIn
     rw [LL5.out]
     exact ho.mono (λ b _ hb => by
      rcases hb with hb | hb
      ·have := hkm b hb; show w.heap.size <= b; omega
      ·have := hb.1; show w.heap.size <= b; omega)
    clear ho hkk hk1 hkz hkm hw hwd
    replace L5 := Hd (L5.out.mono (T := λ b => w.heap.size <= b /\ b < w10.heap.size) (λ b hb h => ⟨h, hb⟩))
    have qBN := λ i => BN.out.cell i
    have gBN := λ i => BN.out.frozen i
    have lBN := BN.out.lt
    have qBY := λ i => BY.out.cell i
    have gBY := λ i => BY.out.frozen i
    have lBY := BY.out.lt
    have qBX := λ i => BX.out.cell i
    have gBX := λ i => BX.out.frozen i
    have lBX := BX.out.lt
    go_wp2_with (at_builtin; refine list_at (λ wd hw => ?_); refine wpList_app rfl (.tmp 112) (.tmp 117) 31 rfl Tryz.underlying31 hi hz0 hz1 hz2 rfl (by decide) (v := .slice (some ⟨w10.heap.size, 0, none⟩) 0 0) (n := 0) (m := (n.kids.length - k3)) (S := From w.heap.size) (T := λ b => b < w.heap.size) (xs := []) (news := (tR5).map iV) rfl ?srba (y := .slice (some (bd.add k3)) (n.kids.length - k3) (k5 - k3)) rfl ?srbb ?srbc ?srbd ?srbe ?srbf)
    clear qBN gBN lBN qBY gBY lBY qBX gBX lBX
    case srba => rw [hw]; exact Own.made0 (by simp) (by show w.heap.size <= _; omega)
    case srbb =>
     have hsg := Ints.g (Ints.drop_ H.out.2.kids b5 n2)
     rw [HR5.out, LR5.out] at hsg
     rw [hw]; exact (hsg.keeps (Keeps.setCell _ (M := λ b => b = w2.heap.size) rfl _) (λ b _ hb e => by have h1 : b < w.heap.size := hb; have h2 : b = _ := e; omega)).keeps (Keeps.alloc Nob _ _) (λ _ _ _ => id)
    case srbc => exact iV_one _
    case srbd => unfold maxLen; omega
    case srbe => omega
    intro v' w11 ho hkk _
    rw [<- hw] at hkk
    try simp only [Nat.zero_add, List.nil_append] at ho
    obtain ⟨G5, g5j, hf⟩ := ho.form
    subst hf
    have hk1 : Keeps (λ b => b = w2.heap.size) w10 wd := by rw [hw]; exact (Keeps.setCell _ (M := λ b => b = w2.heap.size) rfl _).alloc' _
    have hb : Hid (Blk wd (w2.heap.size) 35 #[.int .i64 n.lvl, .slice D1 n.high.length dj1, .int .i64 n.right, .slice F3 tL3.length f3j, .slice D4 n.vals.length dj4, .slice F5 k3 f5j]) := by rw [hw]; exact (BX.out.set_ 5 _).alloc _
    replace HU := Hd (HU.out.keeps hk1 (λ b _ hb e => by have h1 : b < w.heap.size := hb; have h2 : b = _ := e; omega))
    replace BN := Hd (BN.out.keeps hk1 (by show ¬ _ = _; omega))
    replace B1 := Hd (B1.out.keeps hk1 (by show ¬ _ = _; omega))
    replace B2 := Hd (B2.out.keeps hk1 (by show ¬ _ = _; omega))
    replace H := Hd (H.out.keeps hk1 (λ b _ hb e => by have h1 : b < w.heap.size := hb; have h2 : b = _ := e; omega))
    replace L1 := Hd (L1.out.keepsB BX.out ha hk1)
    replace L4 := Hd (L4.out.keepsB BX.out ha hk1)
    replace R1 := Hd (R1.out.keepsB BX.out ha hk1)
    replace R4 := Hd (R4.out.keepsB BX.out ha hk1)
    replace R5 := Hd (R5.out.keepsB BX.out ha hk1)
    replace BY := Hd (BY.out.keeps hk1 (by show ¬ _ = _; omega))
    replace KB := Hd (KB.out.keepsB BX.out ha hk1)
    replace L3 := Hd (L3.out.keepsB BX.out ha hk1)
    replace R3 := Hd (R3.out.keepsB BX.out ha hk1)
    replace L5 := Hd (L5.out.keepsB BX.out ha hk1)
    replace BX := hb
    clear hb
    have szd := hk1.size
    replace K := Hd (K.out.trans hk1 (λ b hb e => by subst e; omega))
    have hwd : wd.heap.size = w10.heap.size + 1 := by rw [hw]; simp
    have hkm : ∀ b, (Value.slice (some ⟨w10.heap.size, 0, none⟩) 0 0).ownBlock = some b -> b = w10.heap.size := λ b e => by simp [Value.ownBlock] at e; exact e.symm
    have hkz : Keeps (λ b => b = w10.heap.size) wd w11 := hkk.mono (λ b _ e => hkm b e)
    clear R5
    replace HU := Hd (HU.out.keeps hkz (λ b _ hb e => by have h1 : b < w.heap.size := hb; have h2 : b = _ := e; omega))
    replace BN := Hd (BN.out.keeps hkz (by show ¬ _ = _; omega))
    replace B1 := Hd (B1.out.keeps hkz (by show ¬ _ = _; omega))
    replace B2 := Hd (B2.out.keeps hkz (by show ¬ _ = _; omega))
    replace H := Hd (H.out.keeps hkz (λ b _ hb e => by have h1 : b < w.heap.size := hb; have h2 : b = _ := e; omega))
    replace L1 := Hd (OBy.keeps3 L1.out (by rw [hw]; exact Blk.new' (by simp) _ _) (by decide) hkz)
    replace L4 := Hd (OTx.keeps3 L4.out (by rw [hw]; exact Blk.new' (by simp) _ _) (by decide) hkz)
    replace BX := Hd (BX.out.keeps hkz (by show ¬ _ = _; omega))
    replace R1 := Hd (OBy.keeps3 R1.out (by rw [hw]; exact Blk.new' (by simp) _ _) (by decide) hkz)
    replace R4 := Hd (OTx.keeps3 R4.out (by rw [hw]; exact Blk.new' (by simp) _ _) (by decide) hkz)
    replace BY := Hd (BY.out.keeps hkz (by show ¬ _ = _; omega))
    replace KB := Hd (OBy.keeps3 KB.out (by rw [hw]; exact Blk.new' (by simp) _ _) (by decide) hkz)
    replace L3 := Hd (OTx.keeps3 L3.out (by rw [hw]; exact Blk.new' (by simp) _ _) (by decide) hkz)
    replace R3 := Hd (OTx.keeps3 R3.out (by rw [hw]; exact Blk.new' (by simp) _ _) (by decide) hkz)
    replace L5 := Hd ((L5.out.keeps hkz (λ b hb hs e => by have h1 := hs.2; have h2 : b = _ := e; omega)).mono (T := From w.heap.size) (λ b _ hs => hs.1))
    have szw11 := hkz.size
    replace K := Hd (K.out.trans hkz (λ b hb e => by have h2 : b = _ := e; omega))
    have R5 : Hid (OIn w11 (From w.heap.size) (.slice G5 (n.kids.length - k3) g5j) tR5) := by
     unfold OIn
     rw [LR5.out]
     exact ho.mono (λ b _ hb => by
      rcases hb with hb | hb
      ·have := hkm b hb; show w.heap.size <= b; omega
      ·have := hb.1; show w.heap.size <= b; omega)
    clear ho hkk hk1 hkz hkm hw hwd
    have qBY := λ i => BY.out.cell i
    have gBY := λ i => BY.out.frozen i
    have lBY := BY.out.lt
    have qBX := λ i => BX.out.cell i
    have gBX := λ i => BX.out.frozen i
    have lBX := BX.out.lt
    go_wp2_with fail
    refine calls_at (λ w12 hw => ?_)
    have hk : Keeps (λ b => b = w4.heap.size) w11 w12 := by rw [hw]; exact Keeps.setCell _ (M := λ b => b = w4.heap.size) rfl _
    have hb : Hid (Blk w12 (w4.heap.size) 35 #[.int .i64 n.lvl, .slice E1 n.high.length ej1, .int .i64 n.right, .slice G3 tR3.length g3j, .slice E4 n.vals.length ej4, .slice G5 (n.kids.length - k3) g5j]) := by rw [hw]; exact (BY.out.set_ 5 _)
    replace HU := Hd (HU.out.keeps hk (λ b _ hb e => by have h1 : b < w.heap.size := hb; have h2 : b = _ := e; omega))
    replace BN := Hd (BN.out.keeps hk (by show ¬ _ = _; omega))
    replace B1 := Hd (B1.out.keeps hk (by show ¬ _ = _; omega))
    replace B2 := Hd (B2.out.keeps hk (by show ¬ _ = _; omega))
    replace H := Hd (H.out.keeps hk (λ b _ hb e => by have h1 : b < w.heap.size := hb; have h2 : b = _ := e; omega))
    replace L1 := Hd (L1.out.keepsB BY.out ha hk)
    replace L4 := Hd (L4.out.keepsB BY.out ha hk)
    replace BX := Hd (BX.out.keeps hk (by show ¬ _ = _; omega))
    replace R1 := Hd (R1.out.keepsB BY.out ha hk)
    replace R4 := Hd (R4.out.keepsB BY.out ha hk)
    replace KB := Hd (KB.out.keepsB BY.out ha hk)
    replace L3 := Hd (L3.out.keepsB BY.out ha hk)
    replace R3 := Hd (R3.out.keepsB BY.out ha hk)
    replace L5 := Hd (L5.out.keepsB BY.out ha hk)
    replace R5 := Hd (R5.out.keepsB BY.out ha hk)
    replace BY := hb
    clear hw hb
    have szw12 := hk.size
    replace K := Hd (K.out.trans hk (λ b hb e => by subst e; omega))
    clear hk
    clear qBY gBY lBY qBX gBX lBX
    refine (bytesR KB.out.r HSX.out).mono ?_
    rintro e w13 ⟨v, rfl, hU, hk⟩
    obtain ⟨Bh, jh, hf⟩ := Own.form hU
    subst hf
    replace HU := Hd (HU.out.keeps hk (λ _ _ _ => id))
    replace BN := Hd (BN.out.keeps hk id)
    replace B1 := Hd (B1.out.keeps hk id)
    replace B2 := Hd (B2.out.keeps hk id)
    replace H := Hd (H.out.keeps hk (λ _ _ _ => id))
    replace L1 := Hd (L1.out.keeps hk (λ _ _ _ => id))
    replace L4 := Hd (L4.out.keeps hk (λ _ _ _ => id))
    replace BX := Hd (BX.out.keeps hk id)
    replace R1 := Hd (R1.out.keeps hk (λ _ _ _ => id))
    replace R4 := Hd (R4.out.keeps hk (λ _ _ _ => id))
    replace BY := Hd (BY.out.keeps hk id)
    replace KB := Hd (KB.out.keeps hk (λ _ _ _ => id))
    replace L3 := Hd (L3.out.keeps hk (λ _ _ _ => id))
    replace R3 := Hd (R3.out.keeps hk (λ _ _ _ => id))
    replace L5 := Hd (L5.out.keeps hk (λ _ _ _ => id))
    replace R5 := Hd (R5.out.keeps hk (λ _ _ _ => id))
    have szw13 := hk.size
    replace K := tq_ K hk
    clear L1
    have L1 : Hid (OBy w13 (From w.heap.size) (.slice Bh x.length jh) x) := hU.mono (λ b _ hb => by have := hb.1; show w.heap.size <= b; omega)
    clear hk hU
    have qBX := λ i => BX.out.cell i
    have gBX := λ i => BX.out.frozen i
    have lBX := BX.out.lt
    go_wp2
    refine code_at (λ w14 hw => ?_)
    have hk : Keeps (λ b => b = w2.heap.size) w13 w14 := by rw [hw]; exact (Keeps.setCell _ (M := λ b => b = w2.heap.size) rfl _).setCell' (λ _ => rfl) _
    have hb : Hid (Blk w14 (w2.heap.size) 35 #[.int .i64 n.lvl, .slice Bh x.length jh, .int .i64 right, .slice F3 tL3.length f3j, .slice D4 n.vals.length dj4, .slice F5 k3 f5j]) := by rw [hw]; exact ((BX.out.set_ 1 _).set_ 2 _)
    replace HU := Hd (HU.out.keeps hk (λ b _ hb e => by have h1 : b < w.heap.size := hb; have h2 : b = _ := e; omega))
    replace BN := Hd (BN.out.keeps hk (by show ¬ _ = _; omega))
    replace B1 := Hd (B1.out.keeps hk (by show ¬ _ = _; omega))
    replace B2 := Hd (B2.out.keeps hk (by show ¬ _ = _; omega))
    replace H := Hd (H.out.keeps hk (λ b _ hb e => by have h1 : b < w.heap.size := hb; have h2 : b = _ := e; omega))
    replace L4 := Hd (L4.out.keepsB BX.out ha hk)
    replace R1 := Hd (R1.out.keepsB BX.out ha hk)
    replace R4 := Hd (R4.out.keepsB BX.out ha hk)
    replace BY := Hd (BY.out.keeps hk (by show ¬ _ = _; omega))
    replace KB := Hd (KB.out.keepsB BX.out ha hk)
    replace L3 := Hd (L3.out.keepsB BX.out ha hk)
    replace R3 := Hd (R3.out.keepsB BX.out ha hk)
    replace L5 := Hd (L5.out.keepsB BX.out ha hk)
    replace R5 := Hd (R5.out.keepsB BX.out ha hk)
    replace L1 := Hd (L1.out.keepsB BX.out ha hk)
    replace BX := hb
    clear hw hb
    have szw14 := hk.size
    replace K := Hd (K.out.trans hk (λ b hb e => by subst e; omega))
    clear hk
    clear qBX gBX lBX
    refine rC_ [0, 1, 2, 3, 4, 5] 4 (λ W => W.cell? ⟨w2.heap.size, 0, none⟩ = some (.int .i64 n.lvl) /\ W.cell? ⟨w2.heap.size, 1, none⟩ = some (.slice Bh x.length jh) /\ W.cell? ⟨w2.heap.size, 2, none⟩ = some (.int .i64 right) /\ W.cell? ⟨w2.heap.size, 3, none⟩ = some (.slice F3 tL3.length f3j) /\ W.cell? ⟨w2.heap.size, 4, none⟩ = some (.slice D4 n.vals.length dj4) /\ W.cell? ⟨w2.heap.size, 5, none⟩ = some (.slice F5 k3 f5j) /\ W.cell? ⟨w4.heap.size, 0, none⟩ = some (.int .i64 n.lvl) /\ W.cell? ⟨w4.heap.size, 1, none⟩ = some (.slice E1 n.high.length ej1) /\ W.cell? ⟨w4.heap.size, 2, none⟩ = some (.int .i64 n.right) /\ W.cell? ⟨w4.heap.size, 3, none⟩ = some (.slice G3 tR3.length g3j) /\ W.cell? ⟨w4.heap.size, 4, none⟩ = some (.slice E4 n.vals.length ej4) /\ W.cell? ⟨w4.heap.size, 5, none⟩ = some (.slice G5 (n.kids.length - k3) g5j)) ⟨BX.out.cell 0, BX.out.cell 1, BX.out.cell 2, BX.out.cell 3, BX.out.cell 4, BX.out.cell 5, BY.out.cell 0, BY.out.cell 1, BY.out.cell 2, BY.out.cell 3, BY.out.cell 4, BY.out.cell 5⟩ ?_
    refine canon_at (λ w15 hw => ?_)
    have hk : Keeps Nob w14 w15 := by rw [hw]; exact Keeps.drew _ _
    replace HU := Hd (HU.out.keeps hk (λ _ _ _ => id))
    replace BN := Hd (BN.out.keeps hk id)
    replace B1 := Hd (B1.out.keeps hk id)
    replace B2 := Hd (B2.out.keeps hk id)
    replace H := Hd (H.out.keeps hk (λ _ _ _ => id))
    replace L4 := Hd (L4.out.keeps hk (λ _ _ _ => id))
    replace BX := Hd (BX.out.keeps hk id)
    replace R1 := Hd (R1.out.keeps hk (λ _ _ _ => id))
    replace R4 := Hd (R4.out.keeps hk (λ _ _ _ => id))
    replace BY := Hd (BY.out.keeps hk id)
    replace KB := Hd (KB.out.keeps hk (λ _ _ _ => id))
    replace L3 := Hd (L3.out.keeps hk (λ _ _ _ => id))
    replace R3 := Hd (R3.out.keeps hk (λ _ _ _ => id))
    replace L5 := Hd (L5.out.keeps hk (λ _ _ _ => id))
    replace R5 := Hd (R5.out.keeps hk (λ _ _ _ => id))
    replace L1 := Hd (L1.out.keeps hk (λ _ _ _ => id))
    have szw15 := hk.size
    replace K := tq_ K hk
    clear hw hk
    iterate 3
     refine cR_ (v := ?_) rfl ?_ ?_
     rotate_left
     ·intro W hW
      try (obtain ⟨h0, h1, h2, h3, h4, h5, h6, h7, h8, h9, h10, h11⟩ : _ /\ _ /\ _ /\ _ /\ _ /\ _ /\ _ /\ _ /\ _ /\ _ /\ _ /\ _ := hW)
      go_simp
      try rfl
     simp only [Act.put, sa_, sb_, sc_]
    have qB1 := λ i => B1.out.cell i
    have gB1 := λ i => B1.out.frozen i
    have lB1 := B1.out.lt
    refine cA_ rfl ?_
    go_wp2
    have hk : Keeps (λ b => b = w.heap.size + 1) w15 _ := (((((Keeps.setCell w15 (M := λ b => b = w.heap.size + 1) (p := ⟨w.heap.size + 1, 0, none⟩) rfl (.int .i64 n.lvl)).setCell' (p := ⟨w.heap.size + 1, 1, none⟩) (λ _ => rfl) (.slice Bh x.length jh)).setCell' (p := ⟨w.heap.size + 1, 2, none⟩) (λ _ => rfl) (.int .i64 right)).setCell' (p := ⟨w.heap.size + 1, 3, none⟩) (λ _ => rfl) (.slice F3 tL3.length f3j)).setCell' (p := ⟨w.heap.size + 1, 4, none⟩) (λ _ => rfl) (.slice D4 n.vals.length dj4)).setCell' (p := ⟨w.heap.size + 1, 5, none⟩) (λ _ => rfl) (.slice F5 k3 f5j)
    refine ⟨.inr ⟨(BX.out.keeps hk (by show ¬ _ = _; omega)).cell 0, (BX.out.keeps hk (by show ¬ _ = _; omega)).cell 1, (BX.out.keeps hk (by show ¬ _ = _; omega)).cell 2, (BX.out.keeps hk (by show ¬ _ = _; omega)).cell 3, (BX.out.keeps hk (by show ¬ _ = _; omega)).cell 4, (BX.out.keeps hk (by show ¬ _ = _; omega)).cell 5, (BY.out.keeps hk (by show ¬ _ = _; omega)).cell 0, (BY.out.keeps hk (by show ¬ _ = _; omega)).cell 1, (BY.out.keeps hk (by show ¬ _ = _; omega)).cell 2, (BY.out.keeps hk (by show ¬ _ = _; omega)).cell 3, (BY.out.keeps hk (by show ¬ _ = _; omega)).cell 4, (BY.out.keeps hk (by show ¬ _ = _; omega)).cell 5⟩, ?_⟩
    clear hk
    refine canon_at (λ w16 hw => ?_)
    have hk : Keeps (λ b => b = w.heap.size + 1) w15 w16 := by rw [hw]; exact (((((Keeps.setCell _ (M := λ b => b = w.heap.size + 1) rfl _).setCell' (λ _ => rfl) _).setCell' (λ _ => rfl) _).setCell' (λ _ => rfl) _).setCell' (λ _ => rfl) _).setCell' (λ _ => rfl) _
    have hb : Hid (Blk w16 (w.heap.size + 1) 35 #[.int .i64 n.lvl, .slice Bh x.length jh, .int .i64 right, .slice F3 tL3.length f3j, .slice D4 n.vals.length dj4, .slice F5 k3 f5j]) := by rw [hw]; exact ((((((B1.out.set_ 0 _).set_ 1 _).set_ 2 _).set_ 3 _).set_ 4 _).set_ 5 _)
    replace HU := Hd (HU.out.keeps hk (λ b _ hb e => by have h1 : b < w.heap.size := hb; have h2 : b = _ := e; omega))
    replace BN := Hd (BN.out.keeps hk (by show ¬ _ = _; omega))
    replace B2 := Hd (B2.out.keeps hk (by show ¬ _ = _; omega))
    replace H := Hd (H.out.keeps hk (λ b _ hb e => by have h1 : b < w.heap.size := hb; have h2 : b = _ := e; omega))
    replace L4 := Hd (L4.out.keepsB B1.out ha hk)
    replace BX := Hd (BX.out.keeps hk (by show ¬ _ = _; omega))
    replace R1 := Hd (R1.out.keepsB B1.out ha hk)
    replace R4 := Hd (R4.out.keepsB B1.out ha hk)
    replace BY := Hd (BY.out.keeps hk (by show ¬ _ = _; omega))
    replace KB := Hd (KB.out.keepsB B1.out ha hk)
    replace L3 := Hd (L3.out.keepsB B1.out ha hk)
    replace R3 := Hd (R3.out.keepsB B1.out ha hk)
    replace L5 := Hd (L5.out.keepsB B1.out ha hk)
    replace R5 := Hd (R5.out.keepsB B1.out ha hk)
    replace L1 := Hd (L1.out.keepsB B1.out ha hk)
    replace B1 := hb
    clear hw hb
    have szw16 := hk.size
    replace K := Hd (K.out.trans hk (λ b hb e => by subst e; omega))
    clear hk
    clear qB1 gB1 lB1
    have qB2 := λ i => B2.out.cell i
    have gB2 := λ i => B2.out.frozen i
    have lB2 := B2.out.lt
    refine cA_ rfl ?_
    go_wp2
    refine ⟨.inl (by kernel_rfl), ?_⟩
    refine canon_at (λ w17 hw => ?_)
    have hk : Keeps (λ b => b = w.heap.size + 1 + 1) w16 w17 := by rw [hw]; exact (((((Keeps.setCell _ (M := λ b => b = w.heap.size + 1 + 1) rfl _).setCell' (λ _ => rfl) _).setCell' (λ _ => rfl) _).setCell' (λ _ => rfl) _).setCell' (λ _ => rfl) _).setCell' (λ _ => rfl) _
    have hb : Hid (Blk w17 (w.heap.size + 1 + 1) 35 #[.int .i64 n.lvl, .slice E1 n.high.length ej1, .int .i64 n.right, .slice G3 tR3.length g3j, .slice E4 n.vals.length ej4, .slice G5 (n.kids.length - k3) g5j]) := by rw [hw]; exact ((((((B2.out.set_ 0 _).set_ 1 _).set_ 2 _).set_ 3 _).set_ 4 _).set_ 5 _)
    replace HU := Hd (HU.out.keeps hk (λ b _ hb e => by have h1 : b < w.heap.size := hb; have h2 : b = _ := e; omega))
    replace BN := Hd (BN.out.keeps hk (by show ¬ _ = _; omega))
    replace B1 := Hd (B1.out.keeps hk (by show ¬ _ = _; omega))
    replace H := Hd (H.out.keeps hk (λ b _ hb e => by have h1 : b < w.heap.size := hb; have h2 : b = _ := e; omega))
    replace L4 := Hd (L4.out.keepsB B2.out ha hk)
    replace BX := Hd (BX.out.keeps hk (by show ¬ _ = _; omega))
    replace R1 := Hd (R1.out.keepsB B2.out ha hk)
    replace R4 := Hd (R4.out.keepsB B2.out ha hk)
    replace BY := Hd (BY.out.keeps hk (by show ¬ _ = _; omega))
    replace KB := Hd (KB.out.keepsB B2.out ha hk)
    replace L3 := Hd (L3.out.keepsB B2.out ha hk)
    replace R3 := Hd (R3.out.keepsB B2.out ha hk)
    replace L5 := Hd (L5.out.keepsB B2.out ha hk)
    replace R5 := Hd (R5.out.keepsB B2.out ha hk)
    replace L1 := Hd (L1.out.keepsB B2.out ha hk)
    replace B2 := hb
    clear hw hb
    have szw17 := hk.size
    replace K := Hd (K.out.trans hk (λ b hb e => by subst e; omega))
    clear hk
    clear qB2 gB2 lB2
    iterate 1
     refine cR_ (v := ?_) rfl ?_ ?_
     rotate_left
     ·intro W hW
      skip
      go_simp
      try rfl
     simp only [Act.put, sa_, sb_, sc_]
    refine wpCanon_nil ?_
    go_wp2
    have r0 := B1.out.cell 0
    have s0 := B2.out.cell 0
    have r1 := B1.out.cell 1
    have s1 := B2.out.cell 1
    have r2 := B1.out.cell 2
    have s2 := B2.out.cell 2
    have r3 := B1.out.cell 3
    have s3 := B2.out.cell 3
    have r4 := B1.out.cell 4
    have s4 := B2.out.cell 4
    have r5 := B1.out.cell 5
    have s5 := B2.out.cell 5
    rw [HL.out, HRR.out, HKK.out]
    refine bodyPost_ret (v := .tuple #[.agg #[.int .i64 n.lvl, .slice Bh x.length jh, .int .i64 right, .slice F3 tL3.length f3j, .slice D4 n.vals.length dj4, .slice F5 k3 f5j], .agg #[.int .i64 n.lvl, .slice E1 n.high.length ej1, .int .i64 n.right, .slice G3 tR3.length g3j, .slice E4 n.vals.length ej4, .slice G5 (n.kids.length - k3) g5j], .slice Bk x.length jk]) (by simp [results, Tryz.results40, go_sem, r0, r1, r2, r3, r4, r5, s0, s1, s2, s3, s4, s5]) rfl ⟨_, _, _, _, _, _, _, _, _, _, _, _, _, rfl, ⟨⟨rfl, ?_, rfl⟩, ?_, ?_, ?_⟩, ⟨⟨rfl, ?_, rfl⟩, ?_, ?_, ?_⟩, ?_, K.out⟩
    ·exact L1.out.mono (λ b hb h => ⟨h, hb⟩)
    ·have e := HL3.out; subst e; exact L3.out.mono (λ b hb h => ⟨h, hb⟩)
    ·exact L4.out.mono (λ b hb h => ⟨h, hb⟩)
    ·have e := HL5.out; subst e; exact L5.out.mono (λ b hb h => ⟨h, hb⟩)
    ·exact R1.out.mono (λ b hb h => ⟨h, hb⟩)
    ·have e := HR3.out; subst e; exact R3.out.mono (λ b hb h => ⟨h, hb⟩)
    ·exact R4.out.mono (λ b hb h => ⟨h, hb⟩)
    ·have e := HR5.out; subst e; exact R5.out.mono (λ b hb h => ⟨h, hb⟩)
    ·exact KB.out.mono (λ b hb h => ⟨h, hb⟩)
   ·rw [hM] at hhd
    have h2a : 2 * h <= n.kids.length + 1 := by omega
    have h2b : n.kids.length <= 2 * h := by omega
    have hbd : ¬ spBad n := by unfold spBad; rw [hM]; omega
    have hsh : spH n = h := by unfold spH; rw [hM]; exact hhd
    have t2 : decide ((n.kids.length : Int) < 2) = false := decide_eq_false (by omega)
    have th : ((n.kids.length : Int) + 1) / 2 = (h : Int) := by omega
    have t0 : decide (0 < n.lvl) = true := decide_eq_true hl0
    have t1 : (n.lvl == 0) = false := by rw [beq_eq_false_iff_ne]; omega
    obtain ⟨x, hx⟩ : ∃ x, n.keys[(h - 1)]? = some x := ⟨_, List.getElem?_eq_getElem (by omega)⟩
    have hkk : spK n = x := by unfold spK; rw [if_neg hbd, if_neg (Int.ne_of_gt hl0), hsh, List.getD_eq_getElem?_getD, hx]; rfl
    have hl : spL n right = { n with high := spK n, right := right, keys := n.keys.take (h - 1), kids := n.kids.take h } := by unfold spL; rw [if_neg hbd, if_neg (Int.ne_of_gt hl0), hsh]
    have hr : spR n = { n with keys := n.keys.drop h, kids := n.kids.drop h } := by unfold spR; rw [if_neg hbd, if_neg (Int.ne_of_gt hl0), hsh]
    have HL := Hd hl
    have HRR := Hd hr
    have HKK := Hd hkk
    have HSX : Hid (Sm 0 1 x.length) := (HS.out.2.1.2 x (List.mem_of_getElem? hx)).mono (by decide)
    obtain ⟨ad, rfl, hadb, hc⟩ := H.out.2.keys.cells (i := (h - 1)) (by omega)
    obtain ⟨u, hu, hbu⟩ := hc _ x hx
    have HU := Hd (hbu.mono (T := λ b => b < w.heap.size) (λ b _ hs => hs))
    have HCU := Hd hu
    clear hc hbu hu
    obtain ⟨bd, hbd4, _, _⟩ := H.out.2.kids.cells (i := 0) (by omega)
    subst hbd4
    have b1 : (h - 1) < n.keys.length := by omega
    have b2 : (h - 1) <= k3 := by omega
    have b3 : h <= k5 := by omega
    have b4 : h <= n.keys.length := by omega
    have b5 : h <= n.kids.length := by omega
    have b8 : h <= k3 := by omega
    have b6 : ((h : Int) - 1) = ((h - 1 : Nat) : Int) := by omega
    have b10 : IntKind.i64.wrap ((h - 1 : Nat) : Int) = ((h - 1 : Nat) : Int) := by simp [IntKind.wrap, IntKind.bits, IntKind.signed]; omega
    have n2 : ¬ k5 = h := by omega
    clear hbd hl hr hkk hhd hx hsh hM hl0 rv rk
    obtain ⟨tL3, htL3⟩ : ∃ l, n.keys.take (h - 1) = l := ⟨_, rfl⟩
    have HL3 := Hd htL3
    obtain ⟨tR3, htR3⟩ : ∃ l, n.keys.drop h = l := ⟨_, rfl⟩
    have HR3 := Hd htR3
    obtain ⟨tL5, htL5⟩ : ∃ l, n.kids.take h = l := ⟨_, rfl⟩
    have HL5 := Hd htL5
    obtain ⟨tR5, htR5⟩ : ∃ l, n.kids.drop h = l := ⟨_, rfl⟩
    have HR5 := Hd htR5
    have lL5 : tL5.length = h := by rw [<- htL5, List.length_take]; omega
    have lR5 : tR5.length = n.kids.length - h := by rw [<- htR5, List.length_drop]
    have LL5 := Hd lL5
    have LR5 := Hd lR5
    clear lL5 lR5
    clear htL3 htR3 htL5 htR5
    go_enter Tryz.func40, Tryz.ntmps40
    go_wp2_with fail
    refine calls_at (λ w1 hw => ?_)
    have hk : Keeps Nob w w1 := by rw [hw]; exact ((Keeps.alloc _ w _).alloc' _).alloc' _
    have BN : Hid (Blk w1 (w.heap.size) 35 #[.int .i64 n.lvl, .slice A1 n.high.length k1, .int .i64 n.right, .slice (some ad) n.keys.length k3, .slice A4 n.vals.length k4, .slice (some bd) n.kids.length k5]) := by rw [hw]; exact ((Blk.new _ _ _).alloc _).alloc _
    have B1 : Hid (Blk w1 (w.heap.size + 1) 35 #[.int .i64 0, .slice none 0 0, .int .i64 0, .slice none 0 0, .slice none 0 0, .slice none 0 0]) := by rw [hw]; exact (Blk.new' (by simp) _ _).alloc _
    have B2 : Hid (Blk w1 (w.heap.size + 1 + 1) 35 #[.int .i64 0, .slice none 0 0, .int .i64 0, .slice none 0 0, .slice none 0 0, .slice none 0 0]) := by rw [hw]; exact Blk.new' (by simp) _ _
    replace HU := Hd (HU.out.keeps hk (λ _ _ _ => id))
    replace H := Hd (H.out.keeps hk (λ _ _ _ => id))
    have szw1 := hk.size
    have lt2 := B2.out.lt
    have K := Hd hk
    clear hw hk
    refine (cloneR H.out (HS.out.mono (by decide))).mono ?_
    rintro e w2 ⟨d0, d1, d2, d3, d4, d5, rfl, hO, hk, _, _, _⟩
    replace HU := Hd (HU.out.keeps hk (λ _ _ _ => id))
    replace BN := Hd (BN.out.keeps hk id)
    replace B1 := Hd (B1.out.keeps hk id)
    replace B2 := Hd (B2.out.keeps hk id)
    replace H := Hd (H.out.keeps hk (λ _ _ _ => id))
    have szw2 := hk.size
    replace K := tq_ K hk
    clear hk
    obtain ⟨D1, dj1, f1⟩ := Own.form hO.1.high
    obtain ⟨D3, dj3, f3⟩ := OTx.form hO.2.keys
    obtain ⟨D4, dj4, f4⟩ := OTx.form hO.2.vals
    obtain ⟨D5, dj5, f5⟩ := Own.form hO.2.kids
    have f0 := hO.1.lvl
    have f2 := hO.1.right
    unfold iV at f0 f2
    subst f0 f1 f2 f3 f4 f5
    have L1 : Hid (OBy w2 (From w.heap.size) (.slice D1 (n).high.length dj1) (n).high) := hO.1.high.mono (λ b _ hb => by have := hb.1; show w.heap.size <= b; omega)
    have L3 : Hid (OTx w2 (From w.heap.size) (.slice D3 (n).keys.length dj3) (n).keys) := hO.2.keys.mono (λ b _ hb => by have := hb.1; show w.heap.size <= b; omega)
    have L4 : Hid (OTx w2 (From w.heap.size) (.slice D4 (n).vals.length dj4) (n).vals) := hO.2.vals.mono (λ b _ hb => by have := hb.1; show w.heap.size <= b; omega)
    have L5 : Hid (OIn w2 (From w.heap.size) (.slice D5 (n).kids.length dj5) (n).kids) := hO.2.kids.mono (λ b _ hb => by have := hb.1; show w.heap.size <= b; omega)
    clear hO
    have qBN := λ i => BN.out.cell i
    have gBN := λ i => BN.out.frozen i
    have lBN := BN.out.lt
    go_wp2_with fail
    clear qBN gBN lBN
    refine calls_at (λ w3 hw => ?_)
    have hk : Keeps Nob w2 w3 := by rw [hw]; exact Keeps.alloc _ _ _
    have BX : Hid (Blk w3 (w2.heap.size) 35 #[.int .i64 n.lvl, .slice D1 n.high.length dj1, .int .i64 n.right, .slice D3 n.keys.length dj3, .slice D4 n.vals.length dj4, .slice D5 n.kids.length dj5]) := by rw [hw]; exact Blk.new _ _ _
    replace HU := Hd (HU.out.keeps hk (λ _ _ _ => id))
    replace BN := Hd (BN.out.keeps hk id)
    replace B1 := Hd (B1.out.keeps hk id)
    replace B2 := Hd (B2.out.keeps hk id)
    replace H := Hd (H.out.keeps hk (λ _ _ _ => id))
    replace L1 := Hd (L1.out.keeps hk (λ _ _ _ => id))
    replace L3 := Hd (L3.out.keeps hk (λ _ _ _ => id))
    replace L4 := Hd (L4.out.keeps hk (λ _ _ _ => id))
    replace L5 := Hd (L5.out.keeps hk (λ _ _ _ => id))
    have szw3 := hk.size
    have ltBX := BX.out.lt
    replace K := tq_ K hk
    clear hw hk
    refine (cloneR H.out (HS.out.mono (by decide))).mono ?_
    rintro e w4 ⟨e0, e1, e2, e3, e4, e5, rfl, hO, hk, _, _, _⟩
    replace HU := Hd (HU.out.keeps hk (λ _ _ _ => id))
    replace BN := Hd (BN.out.keeps hk id)
    replace B1 := Hd (B1.out.keeps hk id)
    replace B2 := Hd (B2.out.keeps hk id)
    replace H := Hd (H.out.keeps hk (λ _ _ _ => id))
    replace L1 := Hd (L1.out.keeps hk (λ _ _ _ => id))
    replace L3 := Hd (L3.out.keeps hk (λ _ _ _ => id))
    replace L4 := Hd (L4.out.keeps hk (λ _ _ _ => id))
    replace L5 := Hd (L5.out.keeps hk (λ _ _ _ => id))
    replace BX := Hd (BX.out.keeps hk id)
    have szw4 := hk.size
    replace K := tq_ K hk
    clear hk
    obtain ⟨E1, ej1, f1⟩ := Own.form hO.1.high
    obtain ⟨E3, ej3, f3⟩ := OTx.form hO.2.keys
    obtain ⟨E4, ej4, f4⟩ := OTx.form hO.2.vals
    obtain ⟨E5, ej5, f5⟩ := Own.form hO.2.kids
    have f0 := hO.1.lvl
    have f2 := hO.1.right
    unfold iV at f0 f2
    subst f0 f1 f2 f3 f4 f5
    have R1 : Hid (OBy w4 (From w.heap.size) (.slice E1 (n).high.length ej1) (n).high) := hO.1.high.mono (λ b _ hb => by have := hb.1; show w.heap.size <= b; omega)
    have R3 : Hid (OTx w4 (From w.heap.size) (.slice E3 (n).keys.length ej3) (n).keys) := hO.2.keys.mono (λ b _ hb => by have := hb.1; show w.heap.size <= b; omega)
    have R4 : Hid (OTx w4 (From w.heap.size) (.slice E4 (n).vals.length ej4) (n).vals) := hO.2.vals.mono (λ b _ hb => by have := hb.1; show w.heap.size <= b; omega)
    have R5 : Hid (OIn w4 (From w.heap.size) (.slice E5 (n).kids.length ej5) (n).kids) := hO.2.kids.mono (λ b _ hb => by have := hb.1; show w.heap.size <= b; omega)
    clear hO
    have hcu := λ o => (K.out.alloc' o).cell HCU.out id
    have qBN := λ i => BN.out.cell i
    have gBN := λ i => BN.out.frozen i
    have lBN := BN.out.lt
    go_wp2_with fail
    clear qBN gBN lBN
    clear hcu
    refine calls_at (λ w5 hw => ?_)
    have hk : Keeps Nob w4 w5 := by rw [hw]; exact Keeps.alloc _ _ _
    have BY : Hid (Blk w5 (w4.heap.size) 35 #[.int .i64 n.lvl, .slice E1 n.high.length ej1, .int .i64 n.right, .slice E3 n.keys.length ej3, .slice E4 n.vals.length ej4, .slice E5 n.kids.length ej5]) := by rw [hw]; exact Blk.new _ _ _
    replace HU := Hd (HU.out.keeps hk (λ _ _ _ => id))
    replace BN := Hd (BN.out.keeps hk id)
    replace B1 := Hd (B1.out.keeps hk id)
    replace B2 := Hd (B2.out.keeps hk id)
    replace H := Hd (H.out.keeps hk (λ _ _ _ => id))
    replace L1 := Hd (L1.out.keeps hk (λ _ _ _ => id))
    replace L3 := Hd (L3.out.keeps hk (λ _ _ _ => id))
    replace L4 := Hd (L4.out.keeps hk (λ _ _ _ => id))
    replace L5 := Hd (L5.out.keeps hk (λ _ _ _ => id))
    replace BX := Hd (BX.out.keeps hk id)
    replace R1 := Hd (R1.out.keeps hk (λ _ _ _ => id))
    replace R3 := Hd (R3.out.keeps hk (λ _ _ _ => id))
    replace R4 := Hd (R4.out.keeps hk (λ _ _ _ => id))
    replace R5 := Hd (R5.out.keeps hk (λ _ _ _ => id))
    have szw5 := hk.size
    have ltBY := BY.out.lt
    replace K := tq_ K hk
    clear hw hk
    refine (bytesR HU.out HSX.out).mono ?_
    rintro e w6 ⟨v, rfl, hU, hk⟩
    obtain ⟨Bk, jk, hf⟩ := Own.form hU
    subst hf
    replace HU := Hd (HU.out.keeps hk (λ _ _ _ => id))
    replace BN := Hd (BN.out.keeps hk id)
    replace B1 := Hd (B1.out.keeps hk id)
    replace B2 := Hd (B2.out.keeps hk id)
    replace H := Hd (H.out.keeps hk (λ _ _ _ => id))
    replace L1 := Hd (L1.out.keeps hk (λ _ _ _ => id))
    replace L3 := Hd (L3.out.keeps hk (λ _ _ _ => id))
    replace L4 := Hd (L4.out.keeps hk (λ _ _ _ => id))
    replace L5 := Hd (L5.out.keeps hk (λ _ _ _ => id))
    replace BX := Hd (BX.out.keeps hk id)
    replace R1 := Hd (R1.out.keeps hk (λ _ _ _ => id))
    replace R3 := Hd (R3.out.keeps hk (λ _ _ _ => id))
    replace R4 := Hd (R4.out.keeps hk (λ _ _ _ => id))
    replace R5 := Hd (R5.out.keeps hk (λ _ _ _ => id))
    replace BY := Hd (BY.out.keeps hk id)
    have szw6 := hk.size
    replace K := tq_ K hk
    have KB : Hid (OBy w6 (From w.heap.size) (.slice Bk x.length jk) x) := hU.mono (λ b _ hb => by have := hb.1; show w.heap.size <= b; omega)
    clear hk hU
    have qBN := λ i => BN.out.cell i
    have gBN := λ i => BN.out.frozen i
    have lBN := BN.out.lt
    go_wp2_with fail
    clear qBN gBN lBN
    refine (textsR (Txts.take_ H.out.2.keys (Nat.le_of_lt b1)) (sm_take HS.out.2.1)).mono ?_
    rintro e w7 ⟨v, rfl, hO, hk⟩
    rw [HL3.out] at hO
    clear L3
    replace HU := Hd (HU.out.keeps hk (λ _ _ _ => id))
    replace BN := Hd (BN.out.keeps hk id)
    replace B1 := Hd (B1.out.keeps hk id)
    replace B2 := Hd (B2.out.keeps hk id)
    replace H := Hd (H.out.keeps hk (λ _ _ _ => id))
    replace L1 := Hd (L1.out.keeps hk (λ _ _ _ => id))
    replace L4 := Hd (L4.out.keeps hk (λ _ _ _ => id))
    replace L5 := Hd (L5.out.keeps hk (λ _ _ _ => id))
    replace BX := Hd (BX.out.keeps hk id)
    replace R1 := Hd (R1.out.keeps hk (λ _ _ _ => id))
    replace R3 := Hd (R3.out.keeps hk (λ _ _ _ => id))
    replace R4 := Hd (R4.out.keeps hk (λ _ _ _ => id))
    replace R5 := Hd (R5.out.keeps hk (λ _ _ _ => id))
    replace BY := Hd (BY.out.keeps hk id)
    replace KB := Hd (KB.out.keeps hk (λ _ _ _ => id))
    obtain ⟨F3, f3j, hf⟩ := hO.form
    subst hf
    have szw7 := hk.size
    have L3 : Hid (OTx w7 (From w.heap.size) (.slice F3 (tL3).length f3j) (tL3)) := hO.mono (λ b _ hb => by have := hb.1; show w.heap.size <= b; omega)
    replace K := tq_ K hk
    clear hO hk
    have qBN := λ i => BN.out.cell i
    have gBN := λ i => BN.out.frozen i
    have lBN := BN.out.lt
    have qBX := λ i => BX.out.cell i
    have gBX := λ i => BX.out.frozen i
    have lBX := BX.out.lt
    go_wp2_with fail
    refine calls_at (λ w8 hw => ?_)
    have hk : Keeps (λ b => b = w2.heap.size) w7 w8 := by rw [hw]; exact Keeps.setCell _ (M := λ b => b = w2.heap.size) rfl _
    have hb : Hid (Blk w8 (w2.heap.size) 35 #[.int .i64 n.lvl, .slice D1 n.high.length dj1, .int .i64 n.right, .slice F3 tL3.length f3j, .slice D4 n.vals.length dj4, .slice D5 n.kids.length dj5]) := by rw [hw]; exact (BX.out.set_ 3 _)
    replace HU := Hd (HU.out.keeps hk (λ b _ hb e => by have h1 : b < w.heap.size := hb; have h2 : b = _ := e; omega))
    replace BN := Hd (BN.out.keeps hk (by show ¬ _ = _; omega))
    replace B1 := Hd (B1.out.keeps hk (by show ¬ _ = _; omega))
    replace B2 := Hd (B2.out.keeps hk (by show ¬ _ = _; omega))
    replace H := Hd (H.out.keeps hk (λ b _ hb e => by have h1 : b < w.heap.size := hb; have h2 : b = _ := e; omega))
    replace L1 := Hd (L1.out.keepsB BX.out ha hk)
    replace L4 := Hd (L4.out.keepsB BX.out ha hk)
    replace L5 := Hd (L5.out.keepsB BX.out ha hk)
    replace R1 := Hd (R1.out.keepsB BX.out ha hk)
    replace R3 := Hd (R3.out.keepsB BX.out ha hk)
    replace R4 := Hd (R4.out.keepsB BX.out ha hk)
    replace R5 := Hd (R5.out.keepsB BX.out ha hk)
    replace BY := Hd (BY.out.keeps hk (by show ¬ _ = _; omega))
    replace KB := Hd (KB.out.keepsB BX.out ha hk)
    replace L3 := Hd (L3.out.keepsB BX.out ha hk)
    replace BX := hb
    clear hw hb
    have szw8 := hk.size
    replace K := Hd (K.out.trans hk (λ b hb e => by subst e; omega))
    clear hk
    clear qBN gBN lBN qBX gBX lBX
    refine (textsR (Txts.drop_ H.out.2.keys b4 n1) (sm_drop HS.out.2.1)).mono ?_
    rintro e w9 ⟨v, rfl, hO, hk⟩
    rw [HR3.out] at hO
    clear R3
    replace HU := Hd (HU.out.keeps hk (λ _ _ _ => id))
    replace BN := Hd (BN.out.keeps hk id)
    replace B1 := Hd (B1.out.keeps hk id)
    replace B2 := Hd (B2.out.keeps hk id)
    replace H := Hd (H.out.keeps hk (λ _ _ _ => id))
    replace L1 := Hd (L1.out.keeps hk (λ _ _ _ => id))
    replace L4 := Hd (L4.out.keeps hk (λ _ _ _ => id))
    replace L5 := Hd (L5.out.keeps hk (λ _ _ _ => id))
    replace BX := Hd (BX.out.keeps hk id)
    replace R1 := Hd (R1.out.keeps hk (λ _ _ _ => id))
    replace R4 := Hd (R4.out.keeps hk (λ _ _ _ => id))
    replace R5 := Hd (R5.out.keeps hk (λ _ _ _ => id))
    replace BY := Hd (BY.out.keeps hk id)
    replace KB := Hd (KB.out.keeps hk (λ _ _ _ => id))
    replace L3 := Hd (L3.out.keeps hk (λ _ _ _ => id))
    obtain ⟨G3, g3j, hf⟩ := hO.form
    subst hf
    have szw9 := hk.size
    have R3 : Hid (OTx w9 (From w.heap.size) (.slice G3 (tR3).length g3j) (tR3)) := hO.mono (λ b _ hb => by have := hb.1; show w.heap.size <= b; omega)
    replace K := tq_ K hk
    clear hO hk
    replace R5 := Hd (R5.out.mono (T := λ b => w.heap.size <= b /\ b < w9.heap.size) (λ b hb h => ⟨h, hb⟩))
    have qBN := λ i => BN.out.cell i
    have gBN := λ i => BN.out.frozen i
    have lBN := BN.out.lt
    have qBY := λ i => BY.out.cell i
    have gBY := λ i => BY.out.frozen i
    have lBY := BY.out.lt
    have qBX := λ i => BX.out.cell i
    have gBX := λ i => BX.out.frozen i
    have lBX := BX.out.lt
    go_wp2_with (at_builtin; refine list_at (λ wd hw => ?_); refine wpList_app rfl (.tmp 103) (.tmp 108) 31 rfl Tryz.underlying31 hi hz0 hz1 hz2 rfl (by decide) (v := .slice (some ⟨w9.heap.size, 0, none⟩) 0 0) (n := 0) (m := h) (S := From w.heap.size) (T := λ b => b < w.heap.size) (xs := []) (news := (tL5).map iV) rfl ?raa (y := .slice (some bd) h k5) rfl ?rab ?rac ?rad ?rae ?raf)
    clear qBN gBN lBN qBY gBY lBY qBX gBX lBX
    case raa => rw [hw]; exact Own.made0 (by simp) (by show w.heap.size <= _; omega)
    case rab =>
     have hsg := Ints.g (Ints.take_ H.out.2.kids b5)
     rw [HL5.out, LL5.out] at hsg
     rw [hw]; exact (hsg.keeps (Keeps.setCell _ (M := λ b => b = w4.heap.size) rfl _) (λ b _ hb e => by have h1 : b < w.heap.size := hb; have h2 : b = _ := e; omega)).keeps (Keeps.alloc Nob _ _) (λ _ _ _ => id)
    case rac => exact iV_one _
    case rad => unfold maxLen; omega
    case rae => omega
    intro v' w10 ho hkk _
    rw [<- hw] at hkk
    try simp only [Nat.zero_add, List.nil_append] at ho
    obtain ⟨F5, f5j, hf⟩ := ho.form
    subst hf
    have hk1 : Keeps (λ b => b = w4.heap.size) w9 wd := by rw [hw]; exact (Keeps.setCell _ (M := λ b => b = w4.heap.size) rfl _).alloc' _
    have hb : Hid (Blk wd (w4.heap.size) 35 #[.int .i64 n.lvl, .slice E1 n.high.length ej1, .int .i64 n.right, .slice G3 tR3.length g3j, .slice E4 n.vals.length ej4, .slice E5 n.kids.length ej5]) := by rw [hw]; exact (BY.out.set_ 3 _).alloc _
    replace HU := Hd (HU.out.keeps hk1 (λ b _ hb e => by have h1 : b < w.heap.size := hb; have h2 : b = _ := e; omega))
    replace BN := Hd (BN.out.keeps hk1 (by show ¬ _ = _; omega))
    replace B1 := Hd (B1.out.keeps hk1 (by show ¬ _ = _; omega))
    replace B2 := Hd (B2.out.keeps hk1 (by show ¬ _ = _; omega))
    replace H := Hd (H.out.keeps hk1 (λ b _ hb e => by have h1 : b < w.heap.size := hb; have h2 : b = _ := e; omega))
    replace L1 := Hd (L1.out.keepsB BY.out ha hk1)
    replace L4 := Hd (L4.out.keepsB BY.out ha hk1)
    replace L5 := Hd (L5.out.keepsB BY.out ha hk1)
    replace BX := Hd (BX.out.keeps hk1 (by show ¬ _ = _; omega))
    replace R1 := Hd (R1.out.keepsB BY.out ha hk1)
    replace R4 := Hd (R4.out.keepsB BY.out ha hk1)
    replace R5 := Hd (R5.out.keepsB BY.out ha hk1)
    replace KB := Hd (KB.out.keepsB BY.out ha hk1)
    replace L3 := Hd (L3.out.keepsB BY.out ha hk1)
    replace R3 := Hd (R3.out.keepsB BY.out ha hk1)
    replace BY := hb
    clear hb
    have szd := hk1.size
    replace K := Hd (K.out.trans hk1 (λ b hb e => by subst e; omega))
    have hwd : wd.heap.size = w9.heap.size + 1 := by rw [hw]; simp
    have hkm : ∀ b, (Value.slice (some ⟨w9.heap.size, 0, none⟩) 0 0).ownBlock = some b -> b = w9.heap.size := λ b e => by simp [Value.ownBlock] at e; exact e.symm
    have hkz : Keeps (λ b => b = w9.heap.size) wd w10 := hkk.mono (λ b _ e => hkm b e)
    clear L5
    replace HU := Hd (HU.out.keeps hkz (λ b _ hb e => by have h1 : b < w.heap.size := hb; have h2 : b = _ := e; omega))
    replace BN := Hd (BN.out.keeps hkz (by show ¬ _ = _; omega))
    replace B1 := Hd (B1.out.keeps hkz (by show ¬ _ = _; omega))
    replace B2 := Hd (B2.out.keeps hkz (by show ¬ _ = _; omega))
    replace H := Hd (H.out.keeps hkz (λ b _ hb e => by have h1 : b < w.heap.size := hb; have h2 : b = _ := e; omega))
    replace L1 := Hd (OBy.keeps3 L1.out (by rw [hw]; exact Blk.new' (by simp) _ _) (by decide) hkz)
    replace L4 := Hd (OTx.keeps3 L4.out (by rw [hw]; exact Blk.new' (by simp) _ _) (by decide) hkz)
    replace BX := Hd (BX.out.keeps hkz (by show ¬ _ = _; omega))
    replace R1 := Hd (OBy.keeps3 R1.out (by rw [hw]; exact Blk.new' (by simp) _ _) (by decide) hkz)
    replace R4 := Hd (OTx.keeps3 R4.out (by rw [hw]; exact Blk.new' (by simp) _ _) (by decide) hkz)
    replace R5 := Hd ((R5.out.keeps hkz (λ b hb hs e => by have h1 := hs.2; have h2 : b = _ := e; omega)).mono (T := From w.heap.size) (λ b _ hs => hs.1))
    replace BY := Hd (BY.out.keeps hkz (by show ¬ _ = _; omega))
    replace KB := Hd (OBy.keeps3 KB.out (by rw [hw]; exact Blk.new' (by simp) _ _) (by decide) hkz)
    replace L3 := Hd (OTx.keeps3 L3.out (by rw [hw]; exact Blk.new' (by simp) _ _) (by decide) hkz)
    replace R3 := Hd (OTx.keeps3 R3.out (by rw [hw]; exact Blk.new' (by simp) _ _) (by decide) hkz)
    have szw10 := hkz.size
    replace K := Hd (K.out.trans hkz (λ b hb e => by have h2 : b = _ := e; omega))
    have L5 : Hid (OIn w10 (From w.heap.size) (.slice F5 h f5j) tL5) := by
     unfold OIn
     rw [LL5.out]
     exact ho.mono (λ b _ hb => by
      rcases hb with hb | hb
      ·have := hkm b hb; show w.heap.size <= b; omega
      ·have := hb.1; show w.heap.size <= b; omega)
    clear ho hkk hk1 hkz hkm hw hwd
    replace L5 := Hd (L5.out.mono (T := λ b => w.heap.size <= b /\ b < w10.heap.size) (λ b hb h => ⟨h, hb⟩))
    have qBN := λ i => BN.out.cell i
    have gBN := λ i => BN.out.frozen i
    have lBN := BN.out.lt
    have qBY := λ i => BY.out.cell i
    have gBY := λ i => BY.out.frozen i
    have lBY := BY.out.lt
    have qBX := λ i => BX.out.cell i
    have gBX := λ i => BX.out.frozen i
    have lBX := BX.out.lt
    go_wp2_with (at_builtin; refine list_at (λ wd hw => ?_); refine wpList_app rfl (.tmp 112) (.tmp 117) 31 rfl Tryz.underlying31 hi hz0 hz1 hz2 rfl (by decide) (v := .slice (some ⟨w10.heap.size, 0, none⟩) 0 0) (n := 0) (m := (n.kids.length - h)) (S := From w.heap.size) (T := λ b => b < w.heap.size) (xs := []) (news := (tR5).map iV) rfl ?rba (y := .slice (some (bd.add h)) (n.kids.length - h) (k5 - h)) rfl ?rbb ?rbc ?rbd ?rbe ?rbf)
    clear qBN gBN lBN qBY gBY lBY qBX gBX lBX
    case rba => rw [hw]; exact Own.made0 (by simp) (by show w.heap.size <= _; omega)
    case rbb =>
     have hsg := Ints.g (Ints.drop_ H.out.2.kids b5 n2)
     rw [HR5.out, LR5.out] at hsg
     rw [hw]; exact (hsg.keeps (Keeps.setCell _ (M := λ b => b = w2.heap.size) rfl _) (λ b _ hb e => by have h1 : b < w.heap.size := hb; have h2 : b = _ := e; omega)).keeps (Keeps.alloc Nob _ _) (λ _ _ _ => id)
    case rbc => exact iV_one _
    case rbd => unfold maxLen; omega
    case rbe => omega
    intro v' w11 ho hkk _
    rw [<- hw] at hkk
    try simp only [Nat.zero_add, List.nil_append] at ho
    obtain ⟨G5, g5j, hf⟩ := ho.form
    subst hf
    have hk1 : Keeps (λ b => b = w2.heap.size) w10 wd := by rw [hw]; exact (Keeps.setCell _ (M := λ b => b = w2.heap.size) rfl _).alloc' _
    have hb : Hid (Blk wd (w2.heap.size) 35 #[.int .i64 n.lvl, .slice D1 n.high.length dj1, .int .i64 n.right, .slice F3 tL3.length f3j, .slice D4 n.vals.length dj4, .slice F5 h f5j]) := by rw [hw]; exact (BX.out.set_ 5 _).alloc _
    replace HU := Hd (HU.out.keeps hk1 (λ b _ hb e => by have h1 : b < w.heap.size := hb; have h2 : b = _ := e; omega))
    replace BN := Hd (BN.out.keeps hk1 (by show ¬ _ = _; omega))
    replace B1 := Hd (B1.out.keeps hk1 (by show ¬ _ = _; omega))
    replace B2 := Hd (B2.out.keeps hk1 (by show ¬ _ = _; omega))
    replace H := Hd (H.out.keeps hk1 (λ b _ hb e => by have h1 : b < w.heap.size := hb; have h2 : b = _ := e; omega))
    replace L1 := Hd (L1.out.keepsB BX.out ha hk1)
    replace L4 := Hd (L4.out.keepsB BX.out ha hk1)
    replace R1 := Hd (R1.out.keepsB BX.out ha hk1)
    replace R4 := Hd (R4.out.keepsB BX.out ha hk1)
    replace R5 := Hd (R5.out.keepsB BX.out ha hk1)
    replace BY := Hd (BY.out.keeps hk1 (by show ¬ _ = _; omega))
    replace KB := Hd (KB.out.keepsB BX.out ha hk1)
    replace L3 := Hd (L3.out.keepsB BX.out ha hk1)
    replace R3 := Hd (R3.out.keepsB BX.out ha hk1)
    replace L5 := Hd (L5.out.keepsB BX.out ha hk1)
    replace BX := hb
    clear hb
    have szd := hk1.size
    replace K := Hd (K.out.trans hk1 (λ b hb e => by subst e; omega))
    have hwd : wd.heap.size = w10.heap.size + 1 := by rw [hw]; simp
    have hkm : ∀ b, (Value.slice (some ⟨w10.heap.size, 0, none⟩) 0 0).ownBlock = some b -> b = w10.heap.size := λ b e => by simp [Value.ownBlock] at e; exact e.symm
    have hkz : Keeps (λ b => b = w10.heap.size) wd w11 := hkk.mono (λ b _ e => hkm b e)
    clear R5
    replace HU := Hd (HU.out.keeps hkz (λ b _ hb e => by have h1 : b < w.heap.size := hb; have h2 : b = _ := e; omega))
    replace BN := Hd (BN.out.keeps hkz (by show ¬ _ = _; omega))
    replace B1 := Hd (B1.out.keeps hkz (by show ¬ _ = _; omega))
    replace B2 := Hd (B2.out.keeps hkz (by show ¬ _ = _; omega))
    replace H := Hd (H.out.keeps hkz (λ b _ hb e => by have h1 : b < w.heap.size := hb; have h2 : b = _ := e; omega))
    replace L1 := Hd (OBy.keeps3 L1.out (by rw [hw]; exact Blk.new' (by simp) _ _) (by decide) hkz)
    replace L4 := Hd (OTx.keeps3 L4.out (by rw [hw]; exact Blk.new' (by simp) _ _) (by decide) hkz)
    replace BX := Hd (BX.out.keeps hkz (by show ¬ _ = _; omega))
    replace R1 := Hd (OBy.keeps3 R1.out (by rw [hw]; exact Blk.new' (by simp) _ _) (by decide) hkz)
    replace R4 := Hd (OTx.keeps3 R4.out (by rw [hw]; exact Blk.new' (by simp) _ _) (by decide) hkz)
    replace BY := Hd (BY.out.keeps hkz (by show ¬ _ = _; omega))
    replace KB := Hd (OBy.keeps3 KB.out (by rw [hw]; exact Blk.new' (by simp) _ _) (by decide) hkz)
    replace L3 := Hd (OTx.keeps3 L3.out (by rw [hw]; exact Blk.new' (by simp) _ _) (by decide) hkz)
    replace R3 := Hd (OTx.keeps3 R3.out (by rw [hw]; exact Blk.new' (by simp) _ _) (by decide) hkz)
    replace L5 := Hd ((L5.out.keeps hkz (λ b hb hs e => by have h1 := hs.2; have h2 : b = _ := e; omega)).mono (T := From w.heap.size) (λ b _ hs => hs.1))
    have szw11 := hkz.size
    replace K := Hd (K.out.trans hkz (λ b hb e => by have h2 : b = _ := e; omega))
    have R5 : Hid (OIn w11 (From w.heap.size) (.slice G5 (n.kids.length - h) g5j) tR5) := by
     unfold OIn
     rw [LR5.out]
     exact ho.mono (λ b _ hb => by
      rcases hb with hb | hb
      ·have := hkm b hb; show w.heap.size <= b; omega
      ·have := hb.1; show w.heap.size <= b; omega)
    clear ho hkk hk1 hkz hkm hw hwd
    have qBY := λ i => BY.out.cell i
    have gBY := λ i => BY.out.frozen i
    have lBY := BY.out.lt
    have qBX := λ i => BX.out.cell i
    have gBX := λ i => BX.out.frozen i
    have lBX := BX.out.lt
    go_wp2_with fail
    refine calls_at (λ w12 hw => ?_)
    have hk : Keeps (λ b => b = w4.heap.size) w11 w12 := by rw [hw]; exact Keeps.setCell _ (M := λ b => b = w4.heap.size) rfl _
    have hb : Hid (Blk w12 (w4.heap.size) 35 #[.int .i64 n.lvl, .slice E1 n.high.length ej1, .int .i64 n.right, .slice G3 tR3.length g3j, .slice E4 n.vals.length ej4, .slice G5 (n.kids.length - h) g5j]) := by rw [hw]; exact (BY.out.set_ 5 _)
    replace HU := Hd (HU.out.keeps hk (λ b _ hb e => by have h1 : b < w.heap.size := hb; have h2 : b = _ := e; omega))
    replace BN := Hd (BN.out.keeps hk (by show ¬ _ = _; omega))
    replace B1 := Hd (B1.out.keeps hk (by show ¬ _ = _; omega))
    replace B2 := Hd (B2.out.keeps hk (by show ¬ _ = _; omega))
    replace H := Hd (H.out.keeps hk (λ b _ hb e => by have h1 : b < w.heap.size := hb; have h2 : b = _ := e; omega))
    replace L1 := Hd (L1.out.keepsB BY.out ha hk)
    replace L4 := Hd (L4.out.keepsB BY.out ha hk)
    replace BX := Hd (BX.out.keeps hk (by show ¬ _ = _; omega))
    replace R1 := Hd (R1.out.keepsB BY.out ha hk)
    replace R4 := Hd (R4.out.keepsB BY.out ha hk)
    replace KB := Hd (KB.out.keepsB BY.out ha hk)
    replace L3 := Hd (L3.out.keepsB BY.out ha hk)
    replace R3 := Hd (R3.out.keepsB BY.out ha hk)
    replace L5 := Hd (L5.out.keepsB BY.out ha hk)
    replace R5 := Hd (R5.out.keepsB BY.out ha hk)
    replace BY := hb
    clear hw hb
    have szw12 := hk.size
    replace K := Hd (K.out.trans hk (λ b hb e => by subst e; omega))
    clear hk
    clear qBY gBY lBY qBX gBX lBX
    refine (bytesR KB.out.r HSX.out).mono ?_
    rintro e w13 ⟨v, rfl, hU, hk⟩
    obtain ⟨Bh, jh, hf⟩ := Own.form hU
    subst hf
    replace HU := Hd (HU.out.keeps hk (λ _ _ _ => id))
    replace BN := Hd (BN.out.keeps hk id)
    replace B1 := Hd (B1.out.keeps hk id)
    replace B2 := Hd (B2.out.keeps hk id)
    replace H := Hd (H.out.keeps hk (λ _ _ _ => id))
    replace L1 := Hd (L1.out.keeps hk (λ _ _ _ => id))
    replace L4 := Hd (L4.out.keeps hk (λ _ _ _ => id))
    replace BX := Hd (BX.out.keeps hk id)
    replace R1 := Hd (R1.out.keeps hk (λ _ _ _ => id))
    replace R4 := Hd (R4.out.keeps hk (λ _ _ _ => id))
    replace BY := Hd (BY.out.keeps hk id)
    replace KB := Hd (KB.out.keeps hk (λ _ _ _ => id))
    replace L3 := Hd (L3.out.keeps hk (λ _ _ _ => id))
    replace R3 := Hd (R3.out.keeps hk (λ _ _ _ => id))
    replace L5 := Hd (L5.out.keeps hk (λ _ _ _ => id))
    replace R5 := Hd (R5.out.keeps hk (λ _ _ _ => id))
    have szw13 := hk.size
    replace K := tq_ K hk
    clear L1
    have L1 : Hid (OBy w13 (From w.heap.size) (.slice Bh x.length jh) x) := hU.mono (λ b _ hb => by have := hb.1; show w.heap.size <= b; omega)
    clear hk hU
    have qBX := λ i => BX.out.cell i
    have gBX := λ i => BX.out.frozen i
    have lBX := BX.out.lt
    go_wp2
    refine code_at (λ w14 hw => ?_)
    have hk : Keeps (λ b => b = w2.heap.size) w13 w14 := by rw [hw]; exact (Keeps.setCell _ (M := λ b => b = w2.heap.size) rfl _).setCell' (λ _ => rfl) _
    have hb : Hid (Blk w14 (w2.heap.size) 35 #[.int .i64 n.lvl, .slice Bh x.length jh, .int .i64 right, .slice F3 tL3.length f3j, .slice D4 n.vals.length dj4, .slice F5 h f5j]) := by rw [hw]; exact ((BX.out.set_ 1 _).set_ 2 _)
    replace HU := Hd (HU.out.keeps hk (λ b _ hb e => by have h1 : b < w.heap.size := hb; have h2 : b = _ := e; omega))
    replace BN := Hd (BN.out.keeps hk (by show ¬ _ = _; omega))
    replace B1 := Hd (B1.out.keeps hk (by show ¬ _ = _; omega))
    replace B2 := Hd (B2.out.keeps hk (by show ¬ _ = _; omega))
    replace H := Hd (H.out.keeps hk (λ b _ hb e => by have h1 : b < w.heap.size := hb; have h2 : b = _ := e; omega))
    replace L4 := Hd (L4.out.keepsB BX.out ha hk)
    replace R1 := Hd (R1.out.keepsB BX.out ha hk)
    replace R4 := Hd (R4.out.keepsB BX.out ha hk)
    replace BY := Hd (BY.out.keeps hk (by show ¬ _ = _; omega))
    replace KB := Hd (KB.out.keepsB BX.out ha hk)
    replace L3 := Hd (L3.out.keepsB BX.out ha hk)
    replace R3 := Hd (R3.out.keepsB BX.out ha hk)
    replace L5 := Hd (L5.out.keepsB BX.out ha hk)
    replace R5 := Hd (R5.out.keepsB BX.out ha hk)
    replace L1 := Hd (L1.out.keepsB BX.out ha hk)
    replace BX := hb
    clear hw hb
    have szw14 := hk.size
    replace K := Hd (K.out.trans hk (λ b hb e => by subst e; omega))
    clear hk
    clear qBX gBX lBX
    refine rC_ [0, 1, 2, 3, 4, 5] 4 (λ W => W.cell? ⟨w2.heap.size, 0, none⟩ = some (.int .i64 n.lvl) /\ W.cell? ⟨w2.heap.size, 1, none⟩ = some (.slice Bh x.length jh) /\ W.cell? ⟨w2.heap.size, 2, none⟩ = some (.int .i64 right) /\ W.cell? ⟨w2.heap.size, 3, none⟩ = some (.slice F3 tL3.length f3j) /\ W.cell? ⟨w2.heap.size, 4, none⟩ = some (.slice D4 n.vals.length dj4) /\ W.cell? ⟨w2.heap.size, 5, none⟩ = some (.slice F5 h f5j) /\ W.cell? ⟨w4.heap.size, 0, none⟩ = some (.int .i64 n.lvl) /\ W.cell? ⟨w4.heap.size, 1, none⟩ = some (.slice E1 n.high.length ej1) /\ W.cell? ⟨w4.heap.size, 2, none⟩ = some (.int .i64 n.right) /\ W.cell? ⟨w4.heap.size, 3, none⟩ = some (.slice G3 tR3.length g3j) /\ W.cell? ⟨w4.heap.size, 4, none⟩ = some (.slice E4 n.vals.length ej4) /\ W.cell? ⟨w4.heap.size, 5, none⟩ = some (.slice G5 (n.kids.length - h) g5j)) ⟨BX.out.cell 0, BX.out.cell 1, BX.out.cell 2, BX.out.cell 3, BX.out.cell 4, BX.out.cell 5, BY.out.cell 0, BY.out.cell 1, BY.out.cell 2, BY.out.cell 3, BY.out.cell 4, BY.out.cell 5⟩ ?_
    refine canon_at (λ w15 hw => ?_)
    have hk : Keeps Nob w14 w15 := by rw [hw]; exact Keeps.drew _ _
    replace HU := Hd (HU.out.keeps hk (λ _ _ _ => id))
    replace BN := Hd (BN.out.keeps hk id)
    replace B1 := Hd (B1.out.keeps hk id)
    replace B2 := Hd (B2.out.keeps hk id)
    replace H := Hd (H.out.keeps hk (λ _ _ _ => id))
    replace L4 := Hd (L4.out.keeps hk (λ _ _ _ => id))
    replace BX := Hd (BX.out.keeps hk id)
    replace R1 := Hd (R1.out.keeps hk (λ _ _ _ => id))
    replace R4 := Hd (R4.out.keeps hk (λ _ _ _ => id))
    replace BY := Hd (BY.out.keeps hk id)
    replace KB := Hd (KB.out.keeps hk (λ _ _ _ => id))
    replace L3 := Hd (L3.out.keeps hk (λ _ _ _ => id))
    replace R3 := Hd (R3.out.keeps hk (λ _ _ _ => id))
    replace L5 := Hd (L5.out.keeps hk (λ _ _ _ => id))
    replace R5 := Hd (R5.out.keeps hk (λ _ _ _ => id))
    replace L1 := Hd (L1.out.keeps hk (λ _ _ _ => id))
    have szw15 := hk.size
    replace K := tq_ K hk
    clear hw hk
    iterate 3
     refine cR_ (v := ?_) rfl ?_ ?_
     rotate_left
     ·intro W hW
      try (obtain ⟨h0, h1, h2, h3, h4, h5, h6, h7, h8, h9, h10, h11⟩ : _ /\ _ /\ _ /\ _ /\ _ /\ _ /\ _ /\ _ /\ _ /\ _ /\ _ /\ _ := hW)
      go_simp
      try rfl
     simp only [Act.put, sa_, sb_, sc_]
    have qB1 := λ i => B1.out.cell i
    have gB1 := λ i => B1.out.frozen i
    have lB1 := B1.out.lt
    refine cA_ rfl ?_
    go_wp2
    have hk : Keeps (λ b => b = w.heap.size + 1) w15 _ := (((((Keeps.setCell w15 (M := λ b => b = w.heap.size + 1) (p := ⟨w.heap.size + 1, 0, none⟩) rfl (.int .i64 n.lvl)).setCell' (p := ⟨w.heap.size + 1, 1, none⟩) (λ _ => rfl) (.slice Bh x.length jh)).setCell' (p := ⟨w.heap.size + 1, 2, none⟩) (λ _ => rfl) (.int .i64 right)).setCell' (p := ⟨w.heap.size + 1, 3, none⟩) (λ _ => rfl) (.slice F3 tL3.length f3j)).setCell' (p := ⟨w.heap.size + 1, 4, none⟩) (λ _ => rfl) (.slice D4 n.vals.length dj4)).setCell' (p := ⟨w.heap.size + 1, 5, none⟩) (λ _ => rfl) (.slice F5 h f5j)
    refine ⟨.inr ⟨(BX.out.keeps hk (by show ¬ _ = _; omega)).cell 0, (BX.out.keeps hk (by show ¬ _ = _; omega)).cell 1, (BX.out.keeps hk (by show ¬ _ = _; omega)).cell 2, (BX.out.keeps hk (by show ¬ _ = _; omega)).cell 3, (BX.out.keeps hk (by show ¬ _ = _; omega)).cell 4, (BX.out.keeps hk (by show ¬ _ = _; omega)).cell 5, (BY.out.keeps hk (by show ¬ _ = _; omega)).cell 0, (BY.out.keeps hk (by show ¬ _ = _; omega)).cell 1, (BY.out.keeps hk (by show ¬ _ = _; omega)).cell 2, (BY.out.keeps hk (by show ¬ _ = _; omega)).cell 3, (BY.out.keeps hk (by show ¬ _ = _; omega)).cell 4, (BY.out.keeps hk (by show ¬ _ = _; omega)).cell 5⟩, ?_⟩
    clear hk
    refine canon_at (λ w16 hw => ?_)
    have hk : Keeps (λ b => b = w.heap.size + 1) w15 w16 := by rw [hw]; exact (((((Keeps.setCell _ (M := λ b => b = w.heap.size + 1) rfl _).setCell' (λ _ => rfl) _).setCell' (λ _ => rfl) _).setCell' (λ _ => rfl) _).setCell' (λ _ => rfl) _).setCell' (λ _ => rfl) _
    have hb : Hid (Blk w16 (w.heap.size + 1) 35 #[.int .i64 n.lvl, .slice Bh x.length jh, .int .i64 right, .slice F3 tL3.length f3j, .slice D4 n.vals.length dj4, .slice F5 h f5j]) := by rw [hw]; exact ((((((B1.out.set_ 0 _).set_ 1 _).set_ 2 _).set_ 3 _).set_ 4 _).set_ 5 _)
    replace HU := Hd (HU.out.keeps hk (λ b _ hb e => by have h1 : b < w.heap.size := hb; have h2 : b = _ := e; omega))
    replace BN := Hd (BN.out.keeps hk (by show ¬ _ = _; omega))
    replace B2 := Hd (B2.out.keeps hk (by show ¬ _ = _; omega))
    replace H := Hd (H.out.keeps hk (λ b _ hb e => by have h1 : b < w.heap.size := hb; have h2 : b = _ := e; omega))
    replace L4 := Hd (L4.out.keepsB B1.out ha hk)
    replace BX := Hd (BX.out.keeps hk (by show ¬ _ = _; omega))
    replace R1 := Hd (R1.out.keepsB B1.out ha hk)
    replace R4 := Hd (R4.out.keepsB B1.out ha hk)
    replace BY := Hd (BY.out.keeps hk (by show ¬ _ = _; omega))
    replace KB := Hd (KB.out.keepsB B1.out ha hk)
    replace L3 := Hd (L3.out.keepsB B1.out ha hk)
    replace R3 := Hd (R3.out.keepsB B1.out ha hk)
    replace L5 := Hd (L5.out.keepsB B1.out ha hk)
    replace R5 := Hd (R5.out.keepsB B1.out ha hk)
    replace L1 := Hd (L1.out.keepsB B1.out ha hk)
    replace B1 := hb
    clear hw hb
    have szw16 := hk.size
    replace K := Hd (K.out.trans hk (λ b hb e => by subst e; omega))
    clear hk
    clear qB1 gB1 lB1
    have qB2 := λ i => B2.out.cell i
    have gB2 := λ i => B2.out.frozen i
    have lB2 := B2.out.lt
    refine cA_ rfl ?_
    go_wp2
    refine ⟨.inl (by kernel_rfl), ?_⟩
    refine canon_at (λ w17 hw => ?_)
    have hk : Keeps (λ b => b = w.heap.size + 1 + 1) w16 w17 := by rw [hw]; exact (((((Keeps.setCell _ (M := λ b => b = w.heap.size + 1 + 1) rfl _).setCell' (λ _ => rfl) _).setCell' (λ _ => rfl) _).setCell' (λ _ => rfl) _).setCell' (λ _ => rfl) _).setCell' (λ _ => rfl) _
    have hb : Hid (Blk w17 (w.heap.size + 1 + 1) 35 #[.int .i64 n.lvl, .slice E1 n.high.length ej1, .int .i64 n.right, .slice G3 tR3.length g3j, .slice E4 n.vals.length ej4, .slice G5 (n.kids.length - h) g5j]) := by rw [hw]; exact ((((((B2.out.set_ 0 _).set_ 1 _).set_ 2 _).set_ 3 _).set_ 4 _).set_ 5 _)
    replace HU := Hd (HU.out.keeps hk (λ b _ hb e => by have h1 : b < w.heap.size := hb; have h2 : b = _ := e; omega))
    replace BN := Hd (BN.out.keeps hk (by show ¬ _ = _; omega))
    replace B1 := Hd (B1.out.keeps hk (by show ¬ _ = _; omega))
    replace H := Hd (H.out.keeps hk (λ b _ hb e => by have h1 : b < w.heap.size := hb; have h2 : b = _ := e; omega))
    replace L4 := Hd (L4.out.keepsB B2.out ha hk)
    replace BX := Hd (BX.out.keeps hk (by show ¬ _ = _; omega))
    replace R1 := Hd (R1.out.keepsB B2.out ha hk)
    replace R4 := Hd (R4.out.keepsB B2.out ha hk)
    replace BY := Hd (BY.out.keeps hk (by show ¬ _ = _; omega))
    replace KB := Hd (KB.out.keepsB B2.out ha hk)
    replace L3 := Hd (L3.out.keepsB B2.out ha hk)
    replace R3 := Hd (R3.out.keepsB B2.out ha hk)
    replace L5 := Hd (L5.out.keepsB B2.out ha hk)
    replace R5 := Hd (R5.out.keepsB B2.out ha hk)
    replace L1 := Hd (L1.out.keepsB B2.out ha hk)
    replace B2 := hb
    clear hw hb
    have szw17 := hk.size
    replace K := Hd (K.out.trans hk (λ b hb e => by subst e; omega))
    clear hk
    clear qB2 gB2 lB2
    iterate 1
     refine cR_ (v := ?_) rfl ?_ ?_
     rotate_left
     ·intro W hW
      skip
      go_simp
      try rfl
     simp only [Act.put, sa_, sb_, sc_]
    refine wpCanon_nil ?_
    go_wp2
    have r0 := B1.out.cell 0
    have s0 := B2.out.cell 0
    have r1 := B1.out.cell 1
    have s1 := B2.out.cell 1
    have r2 := B1.out.cell 2
    have s2 := B2.out.cell 2
    have r3 := B1.out.cell 3
    have s3 := B2.out.cell 3
    have r4 := B1.out.cell 4
    have s4 := B2.out.cell 4
    have r5 := B1.out.cell 5
    have s5 := B2.out.cell 5
    rw [HL.out, HRR.out, HKK.out]
    refine bodyPost_ret (v := .tuple #[.agg #[.int .i64 n.lvl, .slice Bh x.length jh, .int .i64 right, .slice F3 tL3.length f3j, .slice D4 n.vals.length dj4, .slice F5 h f5j], .agg #[.int .i64 n.lvl, .slice E1 n.high.length ej1, .int .i64 n.right, .slice G3 tR3.length g3j, .slice E4 n.vals.length ej4, .slice G5 (n.kids.length - h) g5j], .slice Bk x.length jk]) (by simp [results, Tryz.results40, go_sem, r0, r1, r2, r3, r4, r5, s0, s1, s2, s3, s4, s5]) rfl ⟨_, _, _, _, _, _, _, _, _, _, _, _, _, rfl, ⟨⟨rfl, ?_, rfl⟩, ?_, ?_, ?_⟩, ⟨⟨rfl, ?_, rfl⟩, ?_, ?_, ?_⟩, ?_, K.out⟩
    ·exact L1.out.mono (λ b hb h => ⟨h, hb⟩)
    ·have e := HL3.out; subst e; exact L3.out.mono (λ b hb h => ⟨h, hb⟩)
    ·exact L4.out.mono (λ b hb h => ⟨h, hb⟩)
    ·have e := HL5.out; subst e; exact L5.out.mono (λ b hb h => ⟨h, hb⟩)
    ·exact R1.out.mono (λ b hb h => ⟨h, hb⟩)
    ·have e := HR3.out; subst e; exact R3.out.mono (λ b hb h => ⟨h, hb⟩)
    ·exact R4.out.mono (λ b hb h => ⟨h, hb⟩)
    ·have e := HR5.out; subst e; exact R5.out.mono (λ b hb h => ⟨h, hb⟩)
    ·exact KB.out.mono (λ b hb h => ⟨h, hb⟩)
end
end Go.Proofs.YtbhohohgojcapaaGreat

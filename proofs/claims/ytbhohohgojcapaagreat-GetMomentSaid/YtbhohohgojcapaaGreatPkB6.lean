import Derived.Test.YtbhohohgojcapaaGreatPkB5
set_option maxHeartbeats 64000000
namespace Go.Proofs.YtbhohohgojcapaaGreat
open Go.RowKit
theorem app_text {w W0 w1 w2 : World} {A' : Option Addr} {c' : Nat} {L : List (List UInt8)} {vs : List Value} {u v' : Value} {x : List UInt8} {o : Obj} {m0 : Nat}
  (hown : Own W0 (Fresh w W0) 23 1 (.slice A' L.length c') L.length vs) (hl : vs.length = L.length) (hvs : ∀ (i : Nat) u x, vs[i]? = some u -> L[i]? = some x -> OBy W0 (Fresh w W0) u x) (hK : Keeps Nob w W0)
  (hu : OBy w1 (Fresh W0 w1) u x) (hK1 : Keeps Nob W0 w1) (hm : w1.heap.size <= m0)
  (ho : Own w2 (λ b => (Value.slice A' L.length c').ownBlock = some b \/ (m0 <= b /\ b < w2.heap.size)) 23 1 v' (L.length + 1) (vs ++ [u]))
  (hk2 : Keeps (λ b => (Value.slice A' L.length c').ownBlock = some b) (w1.alloc o) w2) : OTx w2 (Fresh w w2) v' (L ++ [x]) /\ Keeps Nob w w2 := by
 have hk1 := hK1.alloc' o
 have hs1 := hK.size
 have hs2 := hK1.size
 have hs3 := hk2.size
 have hs4 : (w1.alloc o).heap.size = w1.heap.size + 1 := by simp
 refine ⟨?_, ?_⟩
 ·have ho' : Own w2 (Fresh w w2) 23 1 v' (L.length + 1) (vs ++ [u]) := ho.mono (λ b _ hb => by
   rcases hb with hb | hb
   ·have := (hown.blk hb).1; exact ⟨this.1, by have := this.2; omega⟩
   ·exact ⟨by have := hb.1; omega, hb.2⟩)
  exact tx_snoc (S := Fresh w W0) (T := Fresh w w2) (hown.keeps hk1 (λ _ _ _ => id)) hl (λ i a y ha hy => (hvs i a y ha hy).keeps hk1 (λ _ _ _ => id))
   ((hu.keeps (Keeps.alloc Nob _ _) (λ _ _ _ => id)).mono (λ b _ hb => ⟨by have := hb.1; omega, by have := hb.2; omega⟩)) ho' hk2 (λ b hb => λ hb => ⟨hb.1, by have := hb.2; omega⟩)
 ·exact hK.trans (hk1.mono (M' := λ b => (Value.slice A' L.length c').ownBlock = some b) (λ _ _ h => h.elim) |>.trans hk2 (λ _ _ h => h)) (λ b hb e => absurd hb (Nat.not_lt.2 (hown.blk e).1.1))
theorem ins_snoc {α : Type} {l : List α} {k i : Nat} {x y : α} (hy : l[k]? = some y) (hi : i <= k) : ins (l.take (k + 1)) i x = ins (l.take k) i x ++ [y] := by
 have hk : k < l.length := (List.getElem?_eq_some_iff.1 hy).1
 have hl : (l.take k).length = k := by rw [List.length_take]; omega
 rw [List.take_add_one, hy]
 unfold ins
 show (l.take k ++ [y]).take i ++ x :: (l.take k ++ [y]).drop i = _
 rw [List.take_append_of_le_length (by omega), List.drop_append_of_le_length (by omega)]
 simp
theorem ins_last {α : Type} (l : List α) (i : Nat) (x : α) : ins (l.take i) i x = l.take i ++ [x] := by
 unfold ins
 rw [List.take_take, Nat.min_self, List.drop_take]
 simp
theorem erase_snoc {α : Type} {l : List α} {k i : Nat} {y : α} (hy : l[k]? = some y) (hi : k ≠ i) : (l.take (k + 1)).eraseIdx i = (l.take k).eraseIdx i ++ [y] := by
 have hk : k < l.length := (List.getElem?_eq_some_iff.1 hy).1
 have hl : (l.take k).length = k := by rw [List.length_take]; omega
 rw [List.take_add_one, hy]
 show (l.take k ++ [y]).eraseIdx i = _
 rcases Nat.lt_or_ge i k with h | h
 ·rw [List.eraseIdx_append_of_lt_length (by omega)]
 ·rw [List.eraseIdx_of_length_le (by simp; omega), List.eraseIdx_of_length_le (by omega)]
theorem erase_same {α : Type} {l : List α} {k : Nat} {y : α} (hy : l[k]? = some y) : (l.take (k + 1)).eraseIdx k = (l.take k).eraseIdx k := by
 have hk : k < l.length := (List.getElem?_eq_some_iff.1 hy).1
 have hl : (l.take k).length = k := by rw [List.length_take]; omega
 rw [List.take_add_one, hy]
 show (l.take k ++ [y]).eraseIdx k = _
 rw [List.eraseIdx_append_of_length_le (by omega), hl, Nat.sub_self, List.eraseIdx_of_length_le (l := l.take k) (by omega)]
 simp
section
variable {S T : Nat -> Prop} {w : World} {v b : Value} {ls : List (List UInt8)} {x : List UInt8} {i : Nat}
set_option maxRecDepth 100000 in
theorem putR (h : Txts w S v ls) (hx : Byts w T b x) (hb : TxSm 64 ls) (hsx : Sm 0 1 x.length) (hil : i <= ls.length) : Calls Tryz.prog 90 #[v, .int .i64 i, b] w λ e w' => ∃ v', e = .returned v' /\ OTx w' (Fresh w w') v' (ins ls i x) /\ Keeps Nob w w' := by
 obtain ⟨A, c, rfl, h1, h2⟩ := h.form
 have H := Hd h
 have HX := Hd hx
 have HB : Hid (TxSm 64 ls) := hb
 have HSX : Hid (Sm 0 1 x.length) := hsx
 have hsz : ls.length <= 9223372036854775807 := Nat.le_trans h1 h2
 clear h hx h1 h2 hb hsx
 obtain ⟨i0, hi, hz0, hz1, hz2⟩ := info_parts Tryz.inf_text
 go_enter Tryz.func90, Tryz.ntmps90
 go_wp2
 go_loopw [7, 8] (λ l j wr => ∃ k : Nat, k <= i /\ j = .int .i64 k /\ OTx wr (Fresh w wr) l (ls.take k) /\ Keeps Nob w wr) (λ _ j _ => i - (intOf j).toNat)
 case atStart => exact ⟨0, Nat.zero_le _, rfl, OTx.nil _ _, Keeps.refl _ _⟩
 obtain ⟨k, hk, rfl, hO, hK⟩ := hrel
 obtain ⟨vs, hown, hlen, hvs⟩ := hO
 have hle : (ls.take k).length = k := by rw [List.length_take]; omega
 rw [hle] at hown hlen
 obtain ⟨A', c', hv⟩ := hown.form
 subst hv
 have HOWN := Hd hown
 have HLE := Hd hle
 have HVS := Hd (And.intro hlen hvs)
 have HKR := Hd hK
 clear hown hle hlen hvs hK
 rcases Nat.lt_or_ge k i with hki | hki
 ·have hlt : k < ls.length := by omega
  obtain ⟨y, hy⟩ : ∃ y, ls[k]? = some y := ⟨_, List.getElem?_eq_getElem hlt⟩
  obtain ⟨ad, rfl, _, hc⟩ := H.out.cells hlt
  obtain ⟨u, hu, hbu⟩ := hc k y hy
  have hu' : wr.cell? (ad.add k) = some u := HKR.out.cell hu id
  have HY := Hd hy
  have HCL := Hd (bytesR (hbu.keeps HKR.out (λ _ _ _ => id)) ((HB.out.2 y (List.mem_of_getElem? hy)).mono (by decide)))
  clear hc hu hbu hy
  go_wp2_with (first
   | (go_at_call 89; refine HCL.out.mono ?_; rintro e w1 ⟨u', rfl, hO1, hK1⟩; have HO1 := Hd hO1; have HK1 := Hd hK1; obtain ⟨A1, c1, hf1⟩ := hO1.form; subst hf1; clear hO1 hK1)
   | (at_builtin; refine wpList_app rfl (.tmp 15) (.tmp 21) 30 rfl Tryz.underlying30 hi hz0 hz1 hz2 rfl (by decide) (v := .slice A' (k) c') (n := k) (m := 1) (S := Fresh w wr) (T := λ _ => True) (xs := vs) (news := [.slice A1 y.length c1]) rfl ?raa (y := .slice (some ⟨w1.heap.size, 0, none⟩) 1 1) rfl ?rab ?rac ?rad ?rae ?raf))
  case raa => exact HOWN.out.keeps (HK1.out.alloc' _) (λ _ _ _ => id)
  case rab => exact (SlG.lit1 _ _ _ _ rfl).mono (λ _ _ _ => trivial)
  case rac => intro u hu; simp at hu; subst hu; rfl
  case rad => have := HB.out.1; unfold Sm at this; unfold maxLen; omega
  case rae => have := HB.out.1; unfold Sm at this; omega
  intro v' w2 ho hk2 _
  have HR := Hd (app_text (L := ls.take k) (by rw [HLE.out]; exact HOWN.out) (by rw [HLE.out]; exact HVS.out.1) HVS.out.2 HKR.out HO1.out HK1.out (Nat.le_succ _) (by rw [HLE.out]; simpa using ho) (by rw [HLE.out]; exact hk2))
  clear ho hk2
  go_wp2
  go_roundw
  case rel => exact ⟨k + 1, by omega, by go_num, by rw [take_snoc' ls k y HY.out]; exact HR.out.1, HR.out.2⟩
  case measure => simp [intOf]; omega
 obtain rfl : k = i := by omega
 have HCL := Hd (bytesR (HX.out.keeps HKR.out (λ _ _ _ => id)) HSX.out)
 go_wp2_with (first
  | (go_at_call 89; refine HCL.out.mono ?_; rintro e w1 ⟨u', rfl, hO1, hK1⟩; have HO1 := Hd hO1; have HK1 := Hd hK1; obtain ⟨A1, c1, hf1⟩ := hO1.form; subst hf1; clear hO1 hK1)
  | (at_builtin; refine wpList_app rfl (.tmp 23) (.tmp 26) 30 rfl Tryz.underlying30 hi hz0 hz1 hz2 rfl (by decide) (v := .slice A' (k) c') (n := k) (m := 1) (S := Fresh w wr) (T := λ _ => True) (xs := vs) (news := [.slice A1 x.length c1]) rfl ?rba (y := .slice (some ⟨w1.heap.size, 0, none⟩) 1 1) rfl ?rbb ?rbc ?rbd ?rbe ?rbf))
 case rba => exact HOWN.out.keeps (HK1.out.alloc' _) (λ _ _ _ => id)
 case rbb => exact (SlG.lit1 _ _ _ _ rfl).mono (λ _ _ _ => trivial)
 case rbc => intro u hu; simp at hu; subst hu; rfl
 case rbd => have := HB.out.1; unfold Sm at this; unfold maxLen; omega
 case rbe => have := HB.out.1; unfold Sm at this; omega
 intro v' w2 ho hk2 _
 have HR := Hd (app_text (L := ls.take k) (by rw [HLE.out]; exact HOWN.out) (by rw [HLE.out]; exact HVS.out.1) HVS.out.2 HKR.out HO1.out HK1.out (Nat.le_succ _) (by rw [HLE.out]; simpa using ho) (by rw [HLE.out]; exact hk2))
 clear ho hk2
 go_wp2
 clear hki HKR HOWN HVS HCL HO1 HK1
 go_loopw [7, 9] (λ l j wr => ∃ z : Nat, k <= z /\ z <= ls.length /\ j = .int .i64 z /\ OTx wr (Fresh w wr) l (ins (ls.take z) k x) /\ Keeps Nob w wr) (λ _ j _ => ls.length - (intOf j).toNat)
 case atStart => exact ⟨k, Nat.le_refl _, hil, rfl, by rw [ins_last]; exact HR.out.1, HR.out.2⟩
 clear HR HLE
 obtain ⟨z, hkz, hz, rfl, hO, hK⟩ := hrel
 obtain ⟨vs, hown, hlen, hvs⟩ := hO
 have hle : (ins (ls.take z) k x).length = z + 1 := by rw [ins_len _ _ _ (by rw [List.length_take]; omega), List.length_take]; omega
 rw [hle] at hown hlen
 obtain ⟨A', c', hv⟩ := hown.form
 subst hv
 have HOWN := Hd hown
 have HLE := Hd hle
 have HVS := Hd (And.intro hlen hvs)
 have HKR := Hd hK
 clear hown hle hlen hvs hK
 rcases Nat.lt_or_ge z ls.length with hlt | hlt
 ·obtain ⟨y, hy⟩ : ∃ y, ls[z]? = some y := ⟨_, List.getElem?_eq_getElem hlt⟩
  obtain ⟨ad, rfl, _, hc⟩ := H.out.cells hlt
  obtain ⟨u, hu, hbu⟩ := hc z y hy
  have hu' : wr.cell? (ad.add z) = some u := HKR.out.cell hu id
  have HY := Hd hy
  have HCL := Hd (bytesR (hbu.keeps HKR.out (λ _ _ _ => id)) ((HB.out.2 y (List.mem_of_getElem? hy)).mono (by decide)))
  clear hc hu hbu hy
  go_wp2_with (first
   | (go_at_call 89; refine HCL.out.mono ?_; rintro e w1 ⟨u', rfl, hO1, hK1⟩; have HO1 := Hd hO1; have HK1 := Hd hK1; obtain ⟨A1, c1, hf1⟩ := hO1.form; subst hf1; clear hO1 hK1)
   | (at_builtin; refine wpList_app rfl (.tmp 35) (.tmp 41) 30 rfl Tryz.underlying30 hi hz0 hz1 hz2 rfl (by decide) (v := .slice A' (z + 1) c') (n := z + 1) (m := 1) (S := Fresh w wr) (T := λ _ => True) (xs := vs) (news := [.slice A1 y.length c1]) rfl ?rca (y := .slice (some ⟨w1.heap.size, 0, none⟩) 1 1) rfl ?rcb ?rcc ?rcd ?rce ?rcf))
  case rca => exact HOWN.out.keeps (HK1.out.alloc' _) (λ _ _ _ => id)
  case rcb => exact (SlG.lit1 _ _ _ _ rfl).mono (λ _ _ _ => trivial)
  case rcc => intro u hu; simp at hu; subst hu; rfl
  case rcd => have := HB.out.1; unfold Sm at this; unfold maxLen; omega
  case rce => have := HB.out.1; unfold Sm at this; omega
  intro v' w2 ho hk2 _
  have HR := Hd (app_text (L := ins (ls.take z) k x) (by rw [HLE.out]; exact HOWN.out) (by rw [HLE.out]; exact HVS.out.1) HVS.out.2 HKR.out HO1.out HK1.out (Nat.le_succ _) (by rw [HLE.out]; simpa using ho) (by rw [HLE.out]; exact hk2))
  clear ho hk2
  go_wp2
  go_roundw
  case rel => exact ⟨z + 1, by omega, by omega, by go_num, by rw [ins_snoc HY.out hkz]; exact HR.out.1, HR.out.2⟩
  case measure => simp [intOf]; omega
 obtain rfl : z = ls.length := by omega
 go_wp2
 go_ret
 refine ⟨_, rfl, ?_, HKR.out⟩
 have hh : ls.take ls.length = ls := List.take_length
 have h1 := HOWN.out
 have h2 := HVS.out
 have h3 := HLE.out
 rw [hh] at h2 h3
 exact ⟨vs, by rw [h3]; exact h1, by rw [h3]; exact h2.1, h2.2⟩
set_option maxRecDepth 100000 in
theorem cutR (h : Txts w S v ls) (hb : TxSm 64 ls) : Calls Tryz.prog 91 #[v, .int .i64 i] w λ e w' => ∃ v', e = .returned v' /\ OTx w' (Fresh w w') v' (ls.eraseIdx i) /\ Keeps Nob w w' := by
 obtain ⟨A, c, rfl, h1, h2⟩ := h.form
 have H := Hd h
 have HB : Hid (TxSm 64 ls) := hb
 have hsz : ls.length <= 9223372036854775807 := Nat.le_trans h1 h2
 clear h h1 h2 hb
 obtain ⟨i0, hi, hz0, hz1, hz2⟩ := info_parts Tryz.inf_text
 go_enter Tryz.func91, Tryz.ntmps91
 go_wp2
 go_loopw [5, 6] (λ l j wr => ∃ k : Nat, k <= ls.length /\ j = .int .i64 k /\ OTx wr (Fresh w wr) l ((ls.take k).eraseIdx i) /\ Keeps Nob w wr) (λ _ j _ => ls.length - (intOf j).toNat)
 case atStart => exact ⟨0, Nat.zero_le _, rfl, OTx.nil _ _, Keeps.refl _ _⟩
 obtain ⟨k, hk, rfl, hO, hK⟩ := hrel
 rcases Nat.lt_or_ge k ls.length with hlt | hlt
 ·by_cases hki : k = i
  ·obtain ⟨y, hy⟩ : ∃ y, ls[k]? = some y := ⟨_, List.getElem?_eq_getElem hlt⟩
   have HO := Hd hO
   have HK := Hd hK
   have HY := Hd hy
   clear hO hK hy
   have hki2 : ((k : Int) != (i : Int)) = false := by simp [hki]
   have HKI := Hd hki
   clear hki
   go_wp2
   go_roundw
   case rel => exact ⟨k + 1, by omega, by go_num, by have := erase_same HY.out; rw [HKI.out] at this HO ⊢; rw [this]; exact HO.out, HK.out⟩
   case measure => simp [intOf]; omega
  ·have hki2 : ((k : Int) != (i : Int)) = true := by simp; omega
   have HKI := Hd hki
   clear hki
   have hel : ((ls.take k).eraseIdx i).length <= k := by have := List.length_eraseIdx_le (ls.take k) i; rw [List.length_take] at this; omega
   obtain ⟨z, hze⟩ : ∃ z, ((ls.take k).eraseIdx i).length = z := ⟨_, rfl⟩
   rw [hze] at hel
   have HZE := Hd hze
   clear hze
   obtain ⟨vs, hown, hlen, hvs⟩ := hO
   have hle : ((ls.take k).eraseIdx i).length = z := by exact HZE.out
   rw [hle] at hown hlen
   obtain ⟨A', c', hv⟩ := hown.form
   subst hv
   have HOWN := Hd hown
   have HLE := Hd hle
   have HVS := Hd (And.intro hlen hvs)
   have HKR := Hd hK
   clear hown hle hlen hvs hK
   obtain ⟨y, hy⟩ : ∃ y, ls[k]? = some y := ⟨_, List.getElem?_eq_getElem hlt⟩
   obtain ⟨ad, rfl, _, hc⟩ := H.out.cells hlt
   obtain ⟨u, hu, hbu⟩ := hc k y hy
   have hu' : wr.cell? (ad.add k) = some u := HKR.out.cell hu id
   have HY := Hd hy
   have HCL := Hd (bytesR (hbu.keeps HKR.out (λ _ _ _ => id)) ((HB.out.2 y (List.mem_of_getElem? hy)).mono (by decide)))
   clear hc hu hbu hy
   go_wp2_with (first
    | (go_at_call 89; refine HCL.out.mono ?_; rintro e w1 ⟨u', rfl, hO1, hK1⟩; have HO1 := Hd hO1; have HK1 := Hd hK1; obtain ⟨A1, c1, hf1⟩ := hO1.form; subst hf1; clear hO1 hK1)
    | (at_builtin; refine wpList_app rfl (.tmp 16) (.tmp 22) 30 rfl Tryz.underlying30 hi hz0 hz1 hz2 rfl (by decide) (v := .slice A' (z) c') (n := z) (m := 1) (S := Fresh w wr) (T := λ _ => True) (xs := vs) (news := [.slice A1 y.length c1]) rfl ?raa (y := .slice (some ⟨w1.heap.size, 0, none⟩) 1 1) rfl ?rab ?rac ?rad ?rae ?raf))
   case raa => exact HOWN.out.keeps (HK1.out.alloc' _) (λ _ _ _ => id)
   case rab => exact (SlG.lit1 _ _ _ _ rfl).mono (λ _ _ _ => trivial)
   case rac => intro u hu; simp at hu; subst hu; rfl
   case rad => have := HB.out.1; unfold Sm at this; unfold maxLen; omega
   case rae => have := HB.out.1; unfold Sm at this; omega
   intro v' w2 ho hk2 _
   have HR := Hd (app_text (L := (ls.take k).eraseIdx i) (by rw [HLE.out]; exact HOWN.out) (by rw [HLE.out]; exact HVS.out.1) HVS.out.2 HKR.out HO1.out HK1.out (Nat.le_succ _) (by rw [HLE.out]; simpa using ho) (by rw [HLE.out]; exact hk2))
   clear ho hk2
   go_wp2
   go_roundw
   case rel => exact ⟨k + 1, by omega, by go_num, by rw [erase_snoc HY.out HKI.out]; exact HR.out.1, HR.out.2⟩
   case measure => simp [intOf]; omega
 ·obtain rfl : k = ls.length := by omega
  rw [List.take_length] at hO
  have HO := Hd hO
  have HK := Hd hK
  clear hO hK
  go_wp2
  go_ret
  exact ⟨_, rfl, HO.out, HK.out⟩
end
end Go.Proofs.YtbhohohgojcapaaGreat

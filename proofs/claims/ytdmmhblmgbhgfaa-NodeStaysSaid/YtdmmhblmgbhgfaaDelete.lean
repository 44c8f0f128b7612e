/- slices.Delete of one text, in place. -/
import Derived.Test.YtdmmhblmgbhgfaaIns
import Derived.Lib.SliceRun
namespace Go.Proofs.Ytdmmhblmgbhgfaa
open Go.RowKit

section
variable {P : Program} {S T : Nat → Prop} {w : World}

/-- append where there is room. -/
theorem wpList_fit {ops : Array Oper} {rest : List Oper} {o : Oper} {a : Act} {Q : Exit → Act → World → Prop} (hgd : o.guard = none) (s x : Operand) (t : TypeId)
    (ho : o.op = .call { callee := .builtin .append, args := #[s, x], argTypes := #[t, t] })
    {e : TypeId} {i : TypeInfo} (ht : P.underlying t = some (.slice e)) (hi : P.info? e = some i) (hsize : i.size = 1)
    {g q n m c : Nat} {y : Value} {news : List Value} {cur : Array Value} (hs : a.eval s = .slice (some ⟨g, q, none⟩) n c) (hx : a.eval x = y) (hy : SlG w T 1 y m news) (h1 : ∀ u ∈ news, u.oneCell' = true)
    (hb : Blk w g e cur) (hroom : n + m ≤ c) (hfit : q + c ≤ cur.size)
    (h : wpList P ops Q rest (a.put o.dst (.slice (some ⟨g, q, none⟩) (n + m) c)) (w.setCells g (q + n) news)) : wpList P ops Q (o :: rest) a w := by
  have hy' : SlG w T i.size y m news := by rw [hsize]; exact hy
  have hsrc : Src P i.size t y m news w := hy'.src ht h1
  have hnl : news.length = m := by have := hy.1; omega
  have hr := run_append_room_src (P := P) w t t o.type e i ht hi g q n c y m news hsrc hroom
    (fun j hj => by rw [hb.cell, hsize, Nat.mul_one]; rw [Array.getElem?_eq_getElem (by omega)]; rfl) (fun j _ => hb.frozen _)
  rw [hsize, Nat.mul_one] at hr
  refine wpList_plain hgd fun K hK' => ?_
  unfold Oper.wp execOp
  simp only [ho, resolve, invoke, builtin, Sem.run_bind, Sem.run_pure, Result.andThen_ok, List.map_toArray, List.map_cons, List.map_nil, hs, hx, hr]
  exact hK' _ _ h

/-- clear of a row of one-cell elements. -/
theorem wpList_clear {ops : Array Oper} {rest : List Oper} {o : Oper} {a : Act} {Q : Exit → Act → World → Prop} (hgd : o.guard = none) (x : Operand) (t : TypeId)
    (ho : o.op = .call { callee := .builtin .clear, args := #[x], argTypes := #[t] })
    {e e' : TypeId} {z : Value} (ht : P.underlying t = some (.slice e)) (hv : ∀ w, (zeroValue e).run P w = .ok z w) (hz : z.cells = #[z]) (h1 : z.oneCell' = true)
    {g q n c : Nat} {cur : Array Value} (hx : a.eval x = .slice (some ⟨g, q, none⟩) n c) (hn : 0 < n) (hb : Blk w g e' cur) (hfit : q + n ≤ cur.size)
    (h : wpList P ops Q rest (a.put o.dst (.tuple #[])) (w.setCells g q (List.replicate n z))) : wpList P ops Q (o :: rest) a w := by
  have hr := Lib.run_clear_slice (P := P) w t e o.type z ht hv hz h1 g q n c hn (fun j hj => by rw [hb.cell, Array.getElem?_eq_getElem (by omega)]; rfl) (fun j _ => hb.frozen _)
  refine wpList_plain hgd fun K hK' => ?_
  unfold Oper.wp execOp
  simp only [ho, resolve, invoke, builtin, Sem.run_bind, Sem.run_pure, Result.andThen_ok, List.map_toArray, List.map_cons, List.map_nil, hx, hr]
  exact hK' _ _ h
end

section
variable {S : Nat → Prop} {w : World} {A : Option Addr} {c i : Nat} {l : List (List UInt8)}

set_option maxRecDepth 100000 in
set_option maxHeartbeats 1000000 in
theorem deleteT (h : OTx w S (.slice A l.length c) l) (hil : i < l.length) : Calls Try.prog 102 #[.slice A l.length c, .int .i64 i, .int .i64 ((i : Int) + 1)] w fun e w' =>
    e = .returned (.slice A (l.length - 1) c) ∧ OTx w' S (.slice A (l.length - 1) c) (l.eraseIdx i) ∧ Keeps (fun b => (Value.slice A l.length c).ownBlock = some b) w w' := by
  have hO := Lib.hid h
  obtain ⟨vs, hown, hlen, hvs⟩ := h
  obtain ⟨hlc, hcm, hat⟩ := hown.at_
  rcases hat with ⟨_, hc0⟩ | ⟨g, o, cur, rfl, hSg, hb, hoc, hcur⟩
  · omega
  have hcm2 : c ≤ 9223372036854775807 := hcm
  rw [Nat.mul_one] at hoc
  obtain ⟨M, hL⟩ : ∃ M, l.length = M + 1 := ⟨l.length - 1, by omega⟩
  rw [hL] at hlc hil hlen ⊢
  have HL := Lib.hid hL
  have HB := Lib.hid hb
  have HVL := Lib.hid hlen
  have HCUR := Lib.hid hcur
  have HVS := Lib.hid hvs
  have HSG : Hid (S g) := hSg
  have HOC : Hid (o + c ≤ cur.size) := hoc
  clear hown hL hb hlen hcur hvs hSg hoc hcm
  obtain ⟨i0, hi, hz0, hz1, hz2⟩ := info_parts Try.inf_text
  have hzv : ∀ w, (zeroValue 44).run Try.prog w = .ok (.slice none 0 0) w := fun w => by kernel_rfl
  have t1 : ((i : Int) == (i : Int) + 1) = false := by rw [beq_eq_false_iff_ne]; omega
  have t2 : (i : Int) ≤ (i : Int) + 1 := by omega
  have t3 : (i : Int) + 1 ≤ (M : Int) + 1 := by omega
  have t4 : i ≤ i + 1 := by omega
  have t5 : i + 1 ≤ M + 1 := by omega
  have t6 : i ≤ c := by omega
  have t7 : i ≤ M := by omega
  have t8 : ¬ c = M := by omega
  have t9 : M ≤ c := by omega
  have t10 : i + 1 ≤ c := by omega
  rw [show M + 1 - 1 = M by omega]
  have HEND : Hid (∀ w2 : World, w2 = (w.drew.setCells g (o + i) (vs.drop (i + 1))).setCells g (o + M) (List.replicate 1 (.slice none 0 0)) → OTx w2 S (.slice (some ⟨g, o, none⟩) M c) (l.eraseIdx i) ∧ Keeps (fun b => (Value.slice (some ⟨g, o, none⟩) (M + 1) c).ownBlock = some b) w w2) := by
    intro w2 hw2
    have hvl := HVL.out
    have hll := HL.out
    have hlen2 : (vs.drop (i + 1)).length = M - i := by rw [List.length_drop]; omega
    obtain ⟨cur1, b1, z1, f1, g1⟩ := setCells_blk (vs.drop (i + 1)) (o + i) w.drew cur HB.out.drew
    obtain ⟨cur2, b2, z2, f2, g2⟩ := setCells_blk (List.replicate 1 (.slice none 0 0)) (o + M) _ cur1 b1
    have hk : Keeps (fun b => b = g) w w2 := by rw [hw2]; exact ((Keeps.drew _ w).trans (setCells_keeps _ _ w.drew) (fun _ _ h => h)).trans (setCells_keeps _ _ _) (fun _ _ h => h)
    rw [← hw2] at b2
    have hoc := HOC.out
    have hel : (l.eraseIdx i).length = M := by rw [List.length_eraseIdx_of_lt (by omega)]; omega
    refine ⟨⟨vs.eraseIdx i, ?_, by rw [hel, List.length_eraseIdx_of_lt (by omega)]; omega, fun j u x hu hx => ?_⟩, hk.mono (fun b _ e => by subst e; rfl)⟩
    · rw [hel]
      refine ⟨by rw [List.length_eraseIdx_of_lt (by omega)]; omega, _, _, rfl, by omega, by unfold maxLen; omega, .inr ⟨g, o, cur2, rfl, HSG.out, b2, by omega, fun j x hj => ?_⟩⟩
      have hjM : j < M := by have := (List.getElem?_eq_some_iff.1 hj).1; rw [List.length_eraseIdx_of_lt (by omega)] at this; omega
      rw [g2 (o + j) (.inl (by omega))]
      rw [List.getElem?_eraseIdx] at hj
      split at hj
      · rw [g1 (o + j) (.inl (by omega))]; exact HCUR.out j x hj
      · have := f1 (j - i) x (by rw [List.getElem?_drop, show i + 1 + (j - i) = j + 1 by omega]; exact hj) (by omega)
        rw [show o + j = o + i + (j - i) by omega]; exact this
    · rw [List.getElem?_eraseIdx] at hu hx
      have : OBy w S u x := by
        split at hu
        · rename_i h1; rw [if_pos h1] at hx; exact HVS.out j u x hu hx
        · rename_i h1; rw [if_neg h1] at hx; exact HVS.out _ u x hu hx
      exact Own.keepsB this HB.out (by decide) hk
  by_cases hcz : c = i + 1
  · subst hcz
    obtain rfl : M = i := by omega
    go_enter Try.func102, Try.ntmps102
    go_wp2
    refine wp_region_canon [0, 1, 2, 3, 4, 5, 6, 7] 99 (fun _ => True) (by kernel_rfl) (by kernel_rfl) rfl (by kernel_rfl) (fun _ _ d _ _ h => by cases d <;> exact h) trivial ?_
    iterate 6
      refine wpCanon_read (v := ?_) rfl (by kernel_rfl) (by rfl) ?_ ?_
      rotate_left
      · intro W hW
        go_simp
        try rfl
      simp only [Act.put, List.setIfInBounds_toArray, List.set_cons_zero, List.set_cons_succ]
    refine wpCanon_act rfl (by kernel_rfl) ?_
    refine list_at (fun wd hwd => ?_)
    refine wpList_fit rfl (.tmp 22) (.tmp 25) 47 rfl Try.underlying47 hi hz1 (g := g) (q := o) (n := M) (m := 0) (c := (M + 1)) (T := fun _ => True) (news := vs.drop (M + 1)) (cur := cur) rfl rfl ?_ ?_ ?_ (by omega) HOC.out ?_
    · exact ⟨by rw [List.length_drop, HVL.out]; omega, _, _, rfl, by omega, by unfold maxLen; omega, fun hne => absurd (List.drop_eq_nil_of_le (by rw [HVL.out]; omega)) hne⟩
    · intro u hu
      obtain ⟨j, hj⟩ := List.getElem?_of_mem (List.mem_of_mem_drop hu)
      have hjl : j < l.length := by rw [HL.out, ← HVL.out]; exact (List.getElem?_eq_some_iff.1 hj).1
      exact (HVS.out j u _ hj (List.getElem?_eq_getElem hjl)).one
    · rw [hwd]; exact HB.out
    · rw [show M + 0 = M by omega, hwd]
      refine ⟨.inr trivial, ?_⟩
      refine wpCanon_read (v := ?_) rfl (by kernel_rfl) (by rfl) ?_ ?_
      rotate_left
      · intro W hW
        go_simp
        try rfl
      simp only [Act.put, List.setIfInBounds_toArray, List.set_cons_zero, List.set_cons_succ]
      refine wpCanon_nil ?_
      obtain ⟨cur1, b1, z1, _, _⟩ := setCells_blk (vs.drop (M + 1)) (o + M) w.drew cur HB.out.drew
      have HB1 := Lib.hid b1
      have HZ1 := Lib.hid z1
      clear b1 z1
      go_wp2_with (with_reducible (show wpList _ _ _ ({ dst := none, op := _, type := _, pos := _, after := _, guard := _ } :: _) _ _); refine wpList_clear rfl (.tmp 31) 47 rfl Try.underlying47 hzv rfl rfl (g := g) (q := o + M) (n := 1) (c := _) rfl (by omega) (cur := cur1) (e' := 44) ?_ (by rw [HZ1.out]; have := HOC.out; omega) ?_)
      · exact HB1.out
      · go_ret
        exact ⟨rfl, HEND.out _ rfl⟩
  · have hcz2 := hcz
    go_enter Try.func102, Try.ntmps102
    go_wp2
    refine wp_region_canon [0, 1, 2, 3, 4, 5, 6, 7] 99 (fun _ => True) (by kernel_rfl) (by kernel_rfl) rfl (by kernel_rfl) (fun _ _ d _ _ h => by cases d <;> exact h) trivial ?_
    iterate 6
      refine wpCanon_read (v := ?_) rfl (by kernel_rfl) (by rfl) ?_ ?_
      rotate_left
      · intro W hW
        go_simp
        try rfl
      simp only [Act.put, List.setIfInBounds_toArray, List.set_cons_zero, List.set_cons_succ]
    refine wpCanon_act rfl (by kernel_rfl) ?_
    refine list_at (fun wd hwd => ?_)
    refine wpList_fit rfl (.tmp 22) (.tmp 25) 47 rfl Try.underlying47 hi hz1 (g := g) (q := o) (n := i) (m := M - i) (c := c) (T := fun _ => True) (news := vs.drop (i + 1)) (cur := cur) rfl rfl ?_ ?_ ?_ (by omega) HOC.out ?_
    · refine ⟨by rw [List.length_drop, HVL.out]; omega, _, _, rfl, by omega, by unfold maxLen; omega, fun _ => ⟨_, rfl, trivial, fun j x hj => ?_⟩⟩
      rw [List.getElem?_drop] at hj
      rw [add_lit, hwd, HB.out.drew.cell, show o + (i + 1) + j = o + (i + 1 + j) by omega]
      exact HCUR.out _ x hj
    · intro u hu
      obtain ⟨j, hj⟩ := List.getElem?_of_mem (List.mem_of_mem_drop hu)
      have hjl : j < l.length := by rw [HL.out, ← HVL.out]; exact (List.getElem?_eq_some_iff.1 hj).1
      exact (HVS.out j u _ hj (List.getElem?_eq_getElem hjl)).one
    · rw [hwd]; exact HB.out
    · rw [show i + (M - i) = M by omega, hwd]
      refine ⟨.inr trivial, ?_⟩
      refine wpCanon_read (v := ?_) rfl (by kernel_rfl) (by rfl) ?_ ?_
      rotate_left
      · intro W hW
        go_simp
        try rfl
      simp only [Act.put, List.setIfInBounds_toArray, List.set_cons_zero, List.set_cons_succ]
      refine wpCanon_nil ?_
      obtain ⟨cur1, b1, z1, _, _⟩ := setCells_blk (vs.drop (i + 1)) (o + i) w.drew cur HB.out.drew
      have HB1 := Lib.hid b1
      have HZ1 := Lib.hid z1
      clear b1 z1
      go_wp2_with (with_reducible (show wpList _ _ _ ({ dst := none, op := _, type := _, pos := _, after := _, guard := _ } :: _) _ _); refine wpList_clear rfl (.tmp 31) 47 rfl Try.underlying47 hzv rfl rfl (g := g) (q := o + M) (n := 1) (c := _) rfl (by omega) (cur := cur1) (e' := 44) ?_ (by rw [HZ1.out]; have := HOC.out; omega) ?_)
      · exact HB1.out
      · go_ret
        exact ⟨rfl, HEND.out _ rfl⟩
end
end Go.Proofs.Ytdmmhblmgbhgfaa

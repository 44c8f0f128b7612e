/- What Alloc, New and Held of the document's arena do. -/
import Derived.Test.YtbhohohgojcapaaDocB
namespace Go.Proofs.Ytbhohohgojcapaa
open Go.RowKit

theorem Try.inf_dslot : (Try.prog.info? 81).map (fun i => (i.zero, i.size, i.bytes)) = some (some (.agg #[.int .u64 0, .int .i64 0, .slice none 0 0, .int .i64 0, .slice none 0 0, .slice none 0 0, .slice none 0 0]), 7, 120) := by kernel_rfl

/-- A slot that holds nothing but a word. -/
def nilSlot (x : Nat) : List Value := [.int .u64 x, .int .i64 0, .slice none 0 0, .int .i64 0, .slice none 0 0, .slice none 0 0, .slice none 0 0]

section
variable {M D : Nat → Prop} {w : World} {q : Nat} {L : Value} {xs : List Value} {A : Ar} {ix : Int}

theorem DocW.rowOff (h : DocW w M D q L xs A) : ¬ L.ownBlock = some q := fun e => by
  obtain ⟨hl, a, c, rfl, _, _, hr⟩ := h.row
  rcases hr with ⟨rfl, _⟩ | ⟨g, o, cur, rfl, _, hb, _⟩
  · simp [Value.ownBlock] at e
  · simp [Value.ownBlock] at e; subst e; exact Blk.ne_ hb h.blk (by decide) rfl

theorem docNew_world (w : World) (n : Nat) (h1 : 1 ≤ n) (h2 : n ≤ 65536) {w' : World}
    (hw : w' = (w.alloc (.cells (nilSlot 0).toArray 81)).alloc (.cells #[.int .i64 n, .slice (some ⟨w.heap.size, 0, none⟩) 1 1, .int .i64 1] 84)) :
    DocS w w' (Fresh w w') Nob (w.heap.size + 1) ⟨n, [⟨0, Nd.zero⟩], 1⟩ ∧ Keeps Nob w w' := by
  have hk : Keeps Nob w w' := by rw [hw]; exact (Keeps.alloc _ w _).alloc' _
  have b0 : Blk w' w.heap.size 81 (nilSlot 0).toArray := by rw [hw]; exact (Blk.new w _ _).alloc _
  have b1 : Blk w' (w.heap.size + 1) 84 #[.int .i64 n, .slice (some ⟨w.heap.size, 0, none⟩) 1 1, .int .i64 1] := by rw [hw]; exact Blk.new' (by simp) _ _
  have hsz : w'.heap.size = w.heap.size + 2 := by rw [hw]; simp
  refine ⟨⟨_, nilSlot 0, ⟨b1, ⟨rfl, _, _, rfl, Nat.le_refl _, by decide, .inr ⟨_, 0, _, rfl, ⟨by omega, by omega⟩, b0, by decide, fun i x hx => by simpa using hx⟩⟩, fun i s hs => ?_, ⟨by omega, by omega⟩, fun _ _ h => h, fun b hb => hb.2, fun _ h => h.elim, ?_⟩⟩, hk⟩
  · cases i with
    | zero => simp at hs; subst hs; exact ⟨_, _, _, _, _, _, rfl, rfl, rfl, rfl, rfl, rfl, rfl, IsNd.zero _ _, by unfold U64; decide⟩
    | succ i => simp at hs
  · simp; omega

set_option maxHeartbeats 400000 in
theorem docNew_ok {n : Nat} (w : World) (h1 : 1 ≤ n) (h2 : n ≤ 65536) : Calls Try.prog 39 #[iV n] w fun e w' => e = .returned (.tuple #[pV (w.heap.size + 1), iV 0]) ∧
    DocS w w' (Fresh w w') Nob (w.heap.size + 1) ⟨n, [⟨0, Nd.zero⟩], 1⟩ ∧ Keeps Nob w w' := by
  have HQ := Lib.hid (fun w' => docNew_world w n h1 h2 (w' := w'))
  have h1' : (1 : Int) ≤ n := by omega
  have h2' : (n : Int) ≤ 65536 := by omega
  clear h1 h2
  unfold iV
  go_enter Try.func39, Try.ntmps39
  go_wp2
  go_ret2
  exact ⟨rfl, HQ.out _ rfl⟩

set_option maxHeartbeats 400000 in
theorem docNew_bad {n : Int} (w : World) (hn : n < 1 ∨ 65536 < n) : Calls Try.prog 39 #[iV n] w fun e w' => e = .returned (.tuple #[.pointer none, iV 1]) ∧ w = w' := by
  unfold iV at *
  by_cases h1 : n < 1
  · clear hn
    go_enter Try.func39, Try.ntmps39
    go_wp2
    go_ret2
    exact ⟨rfl, rfl⟩
  · have h2 : 1 ≤ n := by omega
    have h3 : 65536 < n := by omega
    clear hn h1
    go_enter Try.func39, Try.ntmps39
    go_wp2
    go_ret2
    exact ⟨rfl, rfl⟩

theorem docAlloc_world (h : DocW w M D q L xs A) (hlt : A.sl.length < A.nodes) {w0 w1 w2 : World} {v : Value} {nn : Nat} (hnn : w.heap.size ≤ nn) (hk0 : Keeps Nob w w0)
    (ho : Own w1 (fun b => L.ownBlock = some b ∨ (nn ≤ b ∧ b < w1.heap.size)) 81 7 v (A.sl.length + 1) (xs ++ nilSlot 1))
    (hk : Keeps (fun b => L.ownBlock = some b) w0 w1) (hw2 : w2 = w1.setCell ⟨q, 1, none⟩ v) :
    DocW w2 (fun b => M b ∨ Fresh w w2 b) D q v (xs ++ nilSlot 1) { A with sl := A.sl ++ [⟨1, Nd.zero⟩] } ∧ Keeps M w w2 := by
  have hbM : ∀ b, L.ownBlock = some b → M b := fun b hb => (h.row.blk hb).1
  have hk1 : Keeps (fun b => L.ownBlock = some b) w w1 := (hk0.mono (fun _ _ h => h.elim)).trans hk (fun _ _ h => h)
  have hnp := h.rowOff
  have hp1 := h.blk.keeps hk1 hnp
  have hs0 := hk0.size
  have hsz2 : w2.heap.size = w1.heap.size := by rw [hw2]; simp
  have hplt := h.blk.lt
  have hk2 : Keeps (fun b => L.ownBlock = some b ∨ b = q) w w2 := by
    rw [hw2]; exact (hk1.mono (fun _ _ h => .inl h)).setCell' (fun _ => .inr rfl) _
  have hk12 : Keeps (fun b => b = q) w1 w2 := by rw [hw2]; exact Keeps.setCell w1 (M := fun b => b = q) rfl v
  have hxl := h.xlen
  refine ⟨⟨?_, ?_, fun i s hs => ?_, .inl h.mp, fun b hb hd => ?_, fun b hb => ?_, fun b hb => Nat.lt_of_lt_of_le (h.dlt b hb) hk2.size, ?_⟩, hk2.mono (fun b _ hb => by
    rcases hb with hb | rfl
    · exact hbM b hb
    · exact h.mp)⟩
  · rw [hw2]; exact hp1.set_ 1 v
  · have := ho.keeps hk12 (fun b _ hb e => by
      subst e
      rcases hb with hb | hb
      · exact hnp hb
      · omega)
    have := this.mono (T := fun b => M b ∨ Fresh w w2 b) (fun b _ hb => by
      rcases hb with hb | hb
      · exact .inl (hbM b hb)
      · exact .inr ⟨by omega, by omega⟩)
    simpa using this
  · by_cases hi : i < A.sl.length
    · rw [List.getElem?_append_left hi] at hs
      refine ((h.slot i s hs).keeps hk2 (fun b _ hd e => ?_)).other (fun j _ h2 => List.getElem?_append_left (by omega))
      rcases e with e | e
      · exact h.apart b (hbM b e) hd
      · subst e; exact h.apart _ h.mp hd
    · rw [List.getElem?_append_right (by omega)] at hs
      cases hj : i - A.sl.length with
      | zero =>
        rw [hj] at hs; simp at hs; subst hs
        have e : i = A.sl.length := by omega
        subst e
        refine ⟨.int .i64 0, .slice none 0 0, .int .i64 0, .slice none 0 0, .slice none 0 0, .slice none 0 0, ?_, ?_, ?_, ?_, ?_, ?_, ?_, IsNd.zero _ _, by unfold U64; decide⟩
        all_goals
          rw [List.getElem?_append_right (by omega)]
          simp [hxl, nilSlot]
      | succ j => rw [hj] at hs; simp at hs
  · rcases hb with hb | hb
    · exact h.apart b hb hd
    · have := h.dlt b hd; have := hb.1; omega
  · rcases hb with hb | hb
    · exact Nat.lt_of_lt_of_le (h.mlt b hb) hk2.size
    · exact hb.2
  · have := h.bound; simp; omega

set_option maxRecDepth 100000 in
set_option maxHeartbeats 800000 in
theorem allocR (h : DocW w M D q L xs A) : Calls Try.prog 45 #[pV q] w fun e w' => e = .returned (.tuple #[iV (opAlloc A).1, iV (opAlloc A).2.1]) ∧
    DocS w w' (fun b => M b ∨ Fresh w w' b) D q (opAlloc A).2.2 ∧ Keeps M w w' := by
  have hbd := h.bound
  have H := Lib.hid h
  obtain ⟨_, a, c, hsl, _, _, _⟩ := h.row
  subst hsl
  have c0 : w.cell? ⟨q, 0, none⟩ = some (iV A.nodes) := h.blk.cell 0
  have c1 : w.cell? ⟨q, 1, none⟩ = some (.slice a A.sl.length c) := h.blk.cell 1
  unfold opAlloc
  by_cases hf : A.sl.length = A.nodes
  · rw [if_pos hf]
    have hge : A.nodes ≤ A.sl.length := by omega
    clear h hf hbd
    unfold pV iV at *
    go_enter Try.func45, Try.ntmps45
    go_wp2
    go_quiet (fail)
    go_wp2
    go_ret2
    refine ⟨rfl, ⟨_, _, (H.out.keeps (Keeps.drewN Nob w _) (fun _ _ _ => id) (fun _ _ _ => id)).monoM ?_ ?_ ?_⟩, Keeps.drewN _ _ _⟩
    · exact fun b hb => .inl hb
    · rintro b (hb | hb)
      · exact H.out.apart b hb
      · intro hd; have := H.out.dlt b hd; have := hb.1; omega
    · rintro b (hb | hb)
      · exact Nat.lt_of_lt_of_le (H.out.mlt b hb) (Nat.le_refl _)
      · exact hb.2
  · rw [if_neg hf]
    have hge : decide (A.nodes ≤ A.sl.length) = false := by simp; omega
    have hsmall : A.sl.length + 1 ≤ 65536 := by omega
    have HLT : Hid (A.sl.length < A.nodes) := by show _ < _; omega
    clear h hf hbd
    obtain ⟨i0, hi, hz0, hz1, hz2⟩ := info_parts Try.inf_dslot
    unfold pV iV at *
    go_enter Try.func45, Try.ntmps45
    go_wp2
    go_quiet (fail)
    obtain ⟨wq, hwq⟩ : ∃ wq, w.drewN nq = wq := ⟨_, rfl⟩
    rw [hwq]
    have hq := H.out.keeps (hwq ▸ Keeps.drewN Nob w nq) (fun _ _ _ => id) (fun _ _ _ => id)
    have hkq : Keeps Nob w wq := hwq ▸ Keeps.drewN Nob w nq
    have hsq : wq.heap.size = w.heap.size := by rw [← hwq]; rfl
    clear c0 c1 hwq
    have c1 : wq.cell? ⟨q, 1, none⟩ = some (.slice a A.sl.length c) := hq.blk.cell 1
    have f1 : wq.frozen? ⟨q, 1, none⟩ = false := hq.blk.frozen 1
    have HNP := Lib.hid hq.rowOff
    have hplt := hq.blk.lt
    have HQ := Lib.hid hq
    have HKQ := Lib.hid hkq
    have HSQ := Lib.hid hsq
    clear hq hkq hsq
    go_wp2_with (at_builtin; refine wpList_app rfl (.tmp 18) (.tmp 20) 82 rfl Try.underlying82 hi hz0 hz1 hz2 rfl (by decide) (v := .slice a A.sl.length c) (n := A.sl.length) (m := 1) (S := M) (T := fun _ => True) (xs := xs) (news := nilSlot 1) (y := .slice (some ⟨wq.heap.size, 0, none⟩) 1 1) rfl ?c1 rfl ?c2 ?c3 ?c4 ?c5 ?c6)
    case c1 => exact HQ.out.row.keeps (Keeps.alloc Nob _ _) (fun _ _ _ => id)
    case c2 => exact (SlG.lit _ _ (nilSlot 1) 7 1 _ rfl rfl (by decide)).mono (fun _ _ _ => trivial)
    case c3 => intro u hu; simp only [nilSlot, List.mem_cons, List.not_mem_nil, or_false] at hu; rcases hu with h | h | h | h | h | h | h <;> subst h <;> rfl
    case c4 => unfold maxLen; omega
    case c5 => omega
    case c6 =>
      intro v' w1 ho hk _
      obtain ⟨A', c', hv⟩ := ho.form
      have hp1 := HQ.out.blk.keeps (((Keeps.alloc Nob _ _) |>.mono (M' := fun b => (Value.slice a A.sl.length c).ownBlock = some b) (fun _ _ h => h.elim)).trans hk (fun _ _ h => h)) HNP.out
      have HO := Lib.hid ho
      have HK := Lib.hid hk
      have cp := hp1.cell 1
      have fp := hp1.frozen 1
      clear ho hk hp1
      subst hv
      go_wp2
      go_ret2
      have R := docAlloc_world HQ.out HLT.out (Nat.le_succ _) (Keeps.alloc Nob wq _) HO.out HK.out rfl
      have R1 := R.1
      unfold Fresh at R1
      rw [HSQ.out] at R1
      exact ⟨rfl, ⟨_, _, R1⟩, (HKQ.out.mono (fun _ _ h => h.elim)).trans R.2 (fun _ _ h => h)⟩

set_option maxRecDepth 100000 in
set_option maxHeartbeats 800000 in
theorem heldsR (h : DocW w M D q L xs A) : Calls Try.prog 68 #[pV q] w fun e w' => ∃ v, e = .returned v ∧
    Own w' (From w.heap.size) 3 1 v (heldFrom 1 A.sl).length ((heldFrom 1 A.sl).map iV) ∧ Keeps Nob w w' := by
  have hbd := h.bound
  have hsmall : A.sl.length ≤ 65536 := by omega
  have H := Lib.hid h
  obtain ⟨_, a, c, hsl, _, _, hrow⟩ := h.row
  subst hsl
  have c1 : w.cell? ⟨q, 1, none⟩ = some (.slice a A.sl.length c) := h.blk.cell 1
  clear h hbd hrow
  obtain ⟨i0, hi, hz0, hz1, hz2⟩ := info_parts Try.inf_int
  unfold pV at *
  go_enter Try.func68, Try.ntmps68
  go_wp2
  go_loopw [3, 4] (fun l i wr => ∃ k : Nat, k ≤ A.sl.length ∧ i = .int .i64 k ∧ Own wr (From w.heap.size) 3 1 l (heldFrom 1 (A.sl.take k)).length ((heldFrom 1 (A.sl.take k)).map iV) ∧ Keeps Nob w wr) (fun _ i _ => A.sl.length - (intOf i).toNat)
  case atStart => exact ⟨0, Nat.zero_le _, rfl, Own.nil _ _ _ _, Keeps.refl _ _⟩
  case round =>
    obtain ⟨k, hk, rfl, hown, hkp⟩ := hrel
    obtain ⟨A', c', hv⟩ := hown.form
    subst hv
    have hle := heldFrom_len 1 (A.sl.take k)
    have hle2 : (A.sl.take k).length ≤ k := List.length_take_le _ _
    have hsz := hkp.size
    have cr : wr.cell? ⟨q, 1, none⟩ = some (.slice a A.sl.length c) := hkp.cell c1 id
    by_cases hlt : k < A.sl.length
    · obtain ⟨s, hs⟩ : ∃ s, A.sl[k]? = some s := ⟨_, List.getElem?_eq_getElem hlt⟩
      obtain ⟨g, o, c2, hform, _, _, hcells⟩ := H.out.form (by omega)
      obtain ⟨rfl, rfl⟩ : a = some ⟨g, o, none⟩ ∧ c = c2 := by injection hform with h1 _ h3; exact ⟨h1, h3⟩
      obtain ⟨_, _, _, _, _, _, h0, _, _, _, _, _, _, _, hu⟩ := H.out.slot k s hs
      have hc2 : wr.cell? ⟨g, o + k * 7, none⟩ = some (.int .u64 s.word) := hkp.cell (hcells _ _ h0) id
      have HT := Lib.hid (take_snoc' A.sl k s hs)
      have HS := Lib.hid (heldFrom_snoc 1 (A.sl.take k) s)
      have HO := Lib.hid hown
      have HK := Lib.hid hkp
      have hw0 : (0 : Int) ≤ s.word := by omega
      have hw1 : (s.word : Int) < 18446744073709551616 := by unfold U64 at hu; omega
      have hmod := mod2_int s.word
      clear hcells hform hown hkp hs h0 hu
      by_cases hsw : s.word % 2 = 1
      · rw [hsw] at hmod
        have HSW : Hid (s.word % 2 = 1) := hsw
        clear hsw
        go_wp2_with (at_builtin; refine wpList_app rfl (.tmp 24) (.tmp 27) 29 rfl Try.underlying29 hi hz0 hz1 hz2 rfl (by decide) (v := .slice A' (heldFrom 1 (List.take k A.sl)).length c') (n := (heldFrom 1 (List.take k A.sl)).length) (m := 1) (S := From w.heap.size) (T := fun _ => True) (xs := (heldFrom 1 (List.take k A.sl)).map iV) (news := [.int .i64 ((k : Int) + 1)]) rfl ?c1 (y := .slice (some ⟨wr.heap.size, 0, none⟩) 1 1) rfl ?c2 ?c3 ?c4 ?c5 ?c6)
        case c1 => exact HO.out.keeps (Keeps.alloc Nob _ _) (fun _ _ _ => id)
        case c2 => exact (SlG.lit1 _ _ _ _ rfl).mono (fun _ _ _ => trivial)
        case c3 => intro u hu; simp at hu; subst hu; rfl
        case c4 => unfold maxLen; omega
        case c5 => omega
        case c6 =>
          intro v' w1 ho hkk _
          have HOO := Lib.hid ho
          have HKK := Lib.hid hkk
          clear ho hkk
          go_wp2
          go_roundw
          case rel =>
            have hlk : (A.sl.take k).length = k := by rw [List.length_take]; omega
            have heq : heldFrom 1 (A.sl.take (k + 1)) = heldFrom 1 (A.sl.take k) ++ [((k : Int) + 1)] := by
              rw [HT.out, HS.out, if_pos HSW.out, hlk]; congr 2; omega
            refine ⟨k + 1, by omega, by go_num, ?_, ?_⟩
            · rw [heq, List.length_append, List.map_append]
              refine HOO.out.mono (fun b _ hb => ?_)
              rcases hb with hb | hb
              · exact (HO.out.blk hb).1
              · have := HK.out.size; show w.heap.size ≤ b; have h2 := hb.1; omega
            · exact (HK.out.alloc' _).trans HKK.out (fun b hb e => absurd hb (Nat.not_lt.2 (HO.out.blk e).1))
          case measure => simp [intOf]; omega
      · rw [show s.word % 2 = 0 by omega] at hmod
        have HSW : Hid (¬ s.word % 2 = 1) := hsw
        clear hsw
        go_wp2
        go_roundw
        case rel =>
          have heq : heldFrom 1 (A.sl.take (k + 1)) = heldFrom 1 (A.sl.take k) := by
            rw [HT.out, HS.out, if_neg HSW.out, List.append_nil]
          exact ⟨k + 1, by omega, by go_num, by rw [heq]; exact HO.out, HK.out⟩
        case measure => simp [intOf]; omega
    · have hkk : k = A.sl.length := by omega
      have HO := Lib.hid hown
      have HK := Lib.hid hkp
      clear hown hkp
      go_wp2
      go_ret
      have heq : A.sl.take k = A.sl := List.take_of_length_le (by omega)
      have := HO.out
      rw [heq] at this
      exact ⟨_, rfl, by rw [heq]; exact this, HK.out⟩
end
end Go.Proofs.Ytbhohohgojcapaa

/- Joined of the document: an inner node with a child more. -/
import Derived.Test.YtdmmhblmgbhgfaaJoin
namespace Go.Proofs.Ytdmmhblmgbhgfaa
open Go.RowKit

/-- The children so far: one more behind place i. -/
def jl (l : List Int) (i : Nat) (x : Int) (k : Nat) : List Int := if k ≤ i then l.take k else ins (l.take k) (i + 1) x
theorem jl_zero (l : List Int) (i : Nat) (x : Int) : jl l i x 0 = [] := by unfold jl; simp
theorem jl_len (l : List Int) (i : Nat) (x : Int) (k : Nat) : (jl l i x k).length ≤ k + 1 := by
  unfold jl
  split
  · rw [List.length_take]; omega
  · unfold ins; simp; omega
theorem jl_here {l : List Int} {i k : Nat} {x y : Int} (hy : l[k]? = some y) (hk : k = i) : jl l i x (k + 1) = (jl l i x k ++ [y]) ++ [x] := by
  subst hk
  have hlt : k < l.length := (List.getElem?_eq_some_iff.1 hy).1
  unfold jl
  rw [if_neg (by omega), if_pos (Nat.le_refl _), ins_last, List.take_add_one, hy]
  rfl
theorem jl_there {l : List Int} {i k : Nat} {x y : Int} (hy : l[k]? = some y) (hk : k ≠ i) : jl l i x (k + 1) = jl l i x k ++ [y] := by
  unfold jl
  by_cases h : k < i
  · rw [if_pos (by omega), if_pos (by omega), List.take_add_one, hy]; rfl
  · rw [if_neg (by omega), if_neg (by omega), ins_snoc hy (by omega)]
theorem jl_end (l : List Int) (i : Nat) (x : Int) (h : i + 1 ≤ l.length) : jl l i x l.length = ins l (i + 1) x := by
  unfold jl
  rw [if_neg (by omega), List.take_length]

section
variable {kid : Int}
variable {S T U : Nat → Prop} {w : World} {c0 c1 c2 c3 c4 c5 ck cv : Value} {n : Nd} {key val : List UInt8}

set_option maxRecDepth 100000 in
set_option maxHeartbeats 1000000 in
theorem joinedR (h : IsNd w S c0 c1 c2 c3 c4 c5 n) (hk : Byts w T ck key) (hs : NdSm 64 n) (hsk : Sm 0 1 key.length) (hkl : below n.keys key + 1 ≤ n.kids.length) :
    Calls Try.prog 47 #[.agg #[c0, c1, c2, c3, c4, c5], ck, .int .i64 kid] w fun e w' => ∃ d0 d1 d2 d3 d4 d5, e = .returned (.tuple #[.agg #[d0, d1, d2, d3, d4, d5], .bool (!has n.keys key)]) ∧ ONd w' (Fresh w w') d0 d1 d2 d3 d4 d5 (jnd n key kid) ∧ Keeps Nob w w' := by
  obtain ⟨i0, hi, hz0, hz1, hz2⟩ := info_parts Try.inf_int
  have lk : n.kids.length * 8 + 64 ≤ 140737488355328 := by have := hs.2.2.2; unfold Sm at this; omega
  obtain ⟨A1, k1, e1, _, _⟩ := h.1.high.form
  obtain ⟨A3, k3, e3, _, _⟩ := h.2.keys.form
  obtain ⟨A4, k4, e4, _, _⟩ := h.2.vals.form
  obtain ⟨A5, k5, e5, _, _⟩ := h.2.kids.form
  have e0 := h.1.lvl
  have e2 := h.1.right
  subst e0 e1 e2 e3 e4 e5
  have H := Lib.hid (h.mono (T := fun b => b < w.heap.size) (fun b hb _ => hb))
  have HK := Lib.hid (hk.mono (T := fun b => b < w.heap.size) (fun b hb _ => hb))
  have HSK : Hid (Sm 0 1 key.length) := hsk
  have HS : Hid (NdSm 64 n) := hs
  have hsz1 : n.keys.length ≤ 140737488355328 := by have := hs.2.1.1; unfold Sm at this; omega
  have hsz2 : n.vals.length ≤ 140737488355328 := by have := hs.2.2.1.1; unfold Sm at this; omega
  have hsz3 : n.kids.length ≤ 140737488355328 := by have := hs.2.2.2; unfold Sm at this; omega
  have hbl := below_le n.keys key
  obtain ⟨i, hbi⟩ : ∃ i, below n.keys key = i := ⟨_, rfl⟩
  obtain ⟨vh, hvh⟩ : ∃ v, has n.keys key = v := ⟨_, rfl⟩
  rw [hbi] at hbl
  have HBI := Lib.hid hbi
  have HVH := Lib.hid hvh
  have ha : Apart 51 := ⟨by decide, by decide, by decide⟩
  rw [hbi] at hkl
  clear h hk hs hbi hvh hsk
  unfold iV
  go_enter Try.func47, Try.ntmps47
  go_wp2_with fail
  refine calls_at (fun w1 hw => ?_)
  have hk : Keeps Nob w w1 := by rw [hw]; exact (Keeps.alloc _ _ _).alloc' _
  have BN : Hid (Blk w1 (w.heap.size) 51 #[.int .i64 n.lvl, .slice A1 n.high.length k1, .int .i64 n.right, .slice A3 n.keys.length k3, .slice A4 n.vals.length k4, .slice A5 n.kids.length k5]) := by rw [hw]; exact (Blk.new _ _ _).alloc _
  have BR : Hid (Blk w1 (w.heap.size + 1) 51 #[.int .i64 0, .slice none 0 0, .int .i64 0, .slice none 0 0, .slice none 0 0, .slice none 0 0]) := by rw [hw]; exact Blk.new' (by simp) _ _
  have szw1 := hk.size
  have ltBN := BN.out.lt
  have ltBR := BR.out.lt
  have K := Lib.hid hk
  clear hw hk
  replace H := Lib.hid (H.out.keeps K.out (fun _ _ _ => id))
  replace HK := Lib.hid (HK.out.keeps K.out (fun _ _ _ => id))
  refine (cloneR H.out (HS.out.mono (by decide))).mono ?_
  rintro e w2 ⟨d0, d1, d2, d3, d4, d5, rfl, hO, hk, hP, _, _⟩
  replace BN := Lib.hid (BN.out.keeps hk id)
  replace BR := Lib.hid (BR.out.keeps hk id)
  replace H := Lib.hid (H.out.keeps hk (fun _ _ _ => id))
  replace HK := Lib.hid (HK.out.keeps hk (fun _ _ _ => id))
  have szw2 := hk.size
  replace K := Lib.hid (K.out.trans hk (fun _ _ h => h))
  clear hk
  obtain ⟨D1, dj1, f1⟩ := Own.form hO.1.high
  obtain ⟨D3, dj3, f3⟩ := OTx.form hO.2.keys
  obtain ⟨D4, dj4, f4⟩ := OTx.form hO.2.vals
  obtain ⟨D5, dj5, f5⟩ := Own.form hO.2.kids
  have f0 := hO.1.lvl
  have f2 := hO.1.right
  unfold iV at f0 f2
  subst f0 f1 f2 f3 f4 f5
  have R1 : Hid (OBy w2 (From w.heap.size) (.slice D1 (n).high.length dj1) (n).high) := hO.1.high.mono (fun b _ hb => by have := hb.1; show w.heap.size ≤ b; omega)
  have R3 : Hid (OTx w2 (From w.heap.size) (.slice D3 (n).keys.length dj3) (n).keys) := hO.2.keys.mono (fun b _ hb => by have := hb.1; show w.heap.size ≤ b; omega)
  have R4 : Hid (OTx w2 (From w.heap.size) (.slice D4 (n).vals.length dj4) (n).vals) := hO.2.vals.mono (fun b _ hb => by have := hb.1; show w.heap.size ≤ b; omega)
  have R5 : Hid (OIn w2 (From w.heap.size) (.slice D5 (n).kids.length dj5) (n).kids) := hO.2.kids.mono (fun b _ hb => by have := hb.1; show w.heap.size ≤ b; omega)
  have HP : Hid (Prt (.slice D3 n.keys.length dj3) (.slice D4 n.vals.length dj4)) := hP
  clear hO hP
  have qBN := fun i => BN.out.cell i
  have gBN := fun i => BN.out.frozen i
  have lBN := BN.out.lt
  go_wp2_with fail
  clear qBN gBN lBN
  refine calls_at (fun w3 hw => ?_)
  have hk : Keeps Nob w2 w3 := by rw [hw]; exact Keeps.alloc _ _ _
  have BX : Hid (Blk w3 (w2.heap.size) 51 #[.int .i64 n.lvl, .slice D1 n.high.length dj1, .int .i64 n.right, .slice D3 n.keys.length dj3, .slice D4 n.vals.length dj4, .slice D5 n.kids.length dj5]) := by rw [hw]; exact Blk.new _ _ _
  replace BN := Lib.hid (BN.out.keeps hk id)
  replace BR := Lib.hid (BR.out.keeps hk id)
  replace H := Lib.hid (H.out.keeps hk (fun _ _ _ => id))
  replace HK := Lib.hid (HK.out.keeps hk (fun _ _ _ => id))
  replace R1 := Lib.hid (R1.out.keeps hk (fun _ _ _ => id))
  replace R3 := Lib.hid (R3.out.keeps hk (fun _ _ _ => id))
  replace R4 := Lib.hid (R4.out.keeps hk (fun _ _ _ => id))
  replace R5 := Lib.hid (R5.out.keeps hk (fun _ _ _ => id))
  have szw3 := hk.size
  have ltBX := BX.out.lt
  replace K := Lib.hid (K.out.trans hk (fun _ _ h => h))
  clear hw hk
  refine (findR H.out.2.keys HK.out).mono ?_
  rintro e w4 ⟨rfl, hk⟩
  replace BN := Lib.hid (BN.out.keeps hk id)
  replace BR := Lib.hid (BR.out.keeps hk id)
  replace H := Lib.hid (H.out.keeps hk (fun _ _ _ => id))
  replace HK := Lib.hid (HK.out.keeps hk (fun _ _ _ => id))
  replace R1 := Lib.hid (R1.out.keeps hk (fun _ _ _ => id))
  replace R3 := Lib.hid (R3.out.keeps hk (fun _ _ _ => id))
  replace R4 := Lib.hid (R4.out.keeps hk (fun _ _ _ => id))
  replace R5 := Lib.hid (R5.out.keeps hk (fun _ _ _ => id))
  replace BX := Lib.hid (BX.out.keeps hk id)
  have szw4 := hk.size
  replace K := Lib.hid (K.out.trans hk (fun _ _ h => h))
  clear hk
  rw [HBI.out, HVH.out]
  cases vh with
  | true =>
    have hwo : jnd n key kid = n := by unfold jnd; rw [HVH.out]; rfl
    have qBX := fun i => BX.out.cell i
    have gBX := fun i => BX.out.frozen i
    have lBX := BX.out.lt
    have qBR := fun i => BR.out.cell i
    have gBR := fun i => BR.out.frozen i
    have lBR := BR.out.lt
    go_wp2
    refine post_at (fun w5 hw => ?_)
    clear qBX gBX lBX qBR gBR lBR
    have hk : Keeps (fun b => b = w.heap.size + 1) w4 w5 := by rw [hw]; exact (((((Keeps.setCell _ (M := fun b => b = w.heap.size + 1) rfl _).setCell' (fun _ => rfl) _).setCell' (fun _ => rfl) _).setCell' (fun _ => rfl) _).setCell' (fun _ => rfl) _).setCell' (fun _ => rfl) _
    have hb : Blk w5 (w.heap.size + 1) 51 #[.int .i64 n.lvl, .slice D1 n.high.length dj1, .int .i64 n.right, .slice D3 n.keys.length dj3, .slice D4 n.vals.length dj4, .slice D5 n.kids.length dj5] := by rw [hw]; exact ((((((BR.out.set_ 0 _).set_ 1 _).set_ 2 _).set_ 3 _).set_ 4 _).set_ 5 _)
    have hs : w5.heap.size = w4.heap.size := by rw [hw]; simp
    clear hw
    have r0 := hb.cell 0
    have r1 := hb.cell 1
    have r2 := hb.cell 2
    have r3 := hb.cell 3
    have r4 := hb.cell 4
    have r5 := hb.cell 5
    rw [hwo, HVH.out]
    refine bodyPost_ret (v := .tuple #[.agg #[.int .i64 n.lvl, .slice D1 n.high.length dj1, .int .i64 n.right, .slice D3 n.keys.length dj3, .slice D4 n.vals.length dj4, .slice D5 n.kids.length dj5], .bool false]) (by simp [results, Try.results47, go_sem, r0, r1, r2, r3, r4, r5]) rfl ⟨_, _, _, _, _, _, rfl, ⟨⟨rfl, ?_, rfl⟩, ?_, ?_, ?_⟩, K.out.trans hk (fun b hb e => by have h2 : b = _ := e; omega)⟩
    · exact (R1.out.keepsB BR.out ha hk).mono (fun b hb h => ⟨h, hb⟩)
    · exact (R3.out.keepsB BR.out ha hk).mono (fun b hb h => ⟨h, hb⟩)
    · exact (R4.out.keepsB BR.out ha hk).mono (fun b hb h => ⟨h, hb⟩)
    · exact (R5.out.keepsB BR.out ha hk).mono (fun b hb h => ⟨h, hb⟩)
  | false =>
    have hwo : jnd n key kid = { n with keys := ins n.keys i key, kids := ins n.kids (i + 1) kid } := by unfold jnd; rw [HVH.out, HBI.out, Nat.min_eq_left hkl]; rfl
    have HWO := Lib.hid hwo
    clear hwo
    have qBN := fun i => BN.out.cell i
    have gBN := fun i => BN.out.frozen i
    have lBN := BN.out.lt
    go_wp2_with fail
    clear qBN gBN lBN
    refine (putR H.out.2.keys HK.out HS.out.2.1 HSK.out hbl).mono ?_
    rintro e w5 ⟨v, rfl, hO, hk⟩
    clear R3
    replace BN := Lib.hid (BN.out.keeps hk id)
    replace BR := Lib.hid (BR.out.keeps hk id)
    replace H := Lib.hid (H.out.keeps hk (fun _ _ _ => id))
    replace HK := Lib.hid (HK.out.keeps hk (fun _ _ _ => id))
    replace R1 := Lib.hid (R1.out.keeps hk (fun _ _ _ => id))
    replace R4 := Lib.hid (R4.out.keeps hk (fun _ _ _ => id))
    replace R5 := Lib.hid (R5.out.keeps hk (fun _ _ _ => id))
    replace BX := Lib.hid (BX.out.keeps hk id)
    obtain ⟨E3, e3j, hf⟩ := hO.form
    subst hf
    have szw5 := hk.size
    have R3 : Hid (OTx w5 (From w.heap.size) (.slice E3 (ins n.keys i key).length e3j) (ins n.keys i key)) := hO.mono (fun b _ hb => by have := hb.1; show w.heap.size ≤ b; omega)
    replace K := Lib.hid (K.out.trans hk (fun _ _ h => h))
    clear hO hk
    have qBX := fun i => BX.out.cell i
    have gBX := fun i => BX.out.frozen i
    have lBX := BX.out.lt
    go_wp2
    refine code_at (fun w6 hw => ?_)
    have hk : Keeps (fun b => b = w2.heap.size) w5 w6 := by rw [hw]; exact (Keeps.setCell _ (M := fun b => b = w2.heap.size) rfl _).setCell' (fun _ => rfl) _
    have hb : Hid (Blk w6 (w2.heap.size) 51 #[.int .i64 n.lvl, .slice D1 n.high.length dj1, .int .i64 n.right, .slice E3 (ins n.keys i key).length e3j, .slice D4 n.vals.length dj4, .slice none 0 0]) := by rw [hw]; exact ((BX.out.set_ 3 _).set_ 5 _)
    replace BN := Lib.hid (BN.out.keeps hk (by show ¬ _ = _; omega))
    replace BR := Lib.hid (BR.out.keeps hk (by show ¬ _ = _; omega))
    replace H := Lib.hid (H.out.keeps hk (fun b _ hb e => by have h1 : b < w.heap.size := hb; have h2 : b = _ := e; omega))
    replace HK := Lib.hid (HK.out.keeps hk (fun b _ hb e => by have h1 : b < w.heap.size := hb; have h2 : b = _ := e; omega))
    replace R1 := Lib.hid (R1.out.keepsB BX.out ha hk)
    replace R4 := Lib.hid (R4.out.keepsB BX.out ha hk)
    replace R5 := Lib.hid (R5.out.keepsB BX.out ha hk)
    replace R3 := Lib.hid (R3.out.keepsB BX.out ha hk)
    replace BX := hb
    clear hw hb
    have szw6 := hk.size
    replace K := Lib.hid (K.out.trans hk (fun b hb e => by subst e; omega))
    clear hk
    clear qBX gBX lBX
    clear R5
    have sx : w.heap.size + 1 < w2.heap.size := by omega
    have BX0 := Lib.hid BX.out
    clear BX
    go_loopw [11] (fun j wr => ∃ (k : Nat) (A : Option Addr) (c : Nat), k ≤ n.kids.length ∧ j = .int .i64 k ∧ (Blk wr (w2.heap.size) 51 #[.int .i64 n.lvl, .slice D1 n.high.length dj1, .int .i64 n.right, .slice E3 (ins n.keys i key).length e3j, .slice D4 n.vals.length dj4, .slice A (jl n.kids i kid k).length c] ∧ OIn wr (From w6.heap.size) (.slice A (jl n.kids i kid k).length c) (jl n.kids i kid k) ∧ Keeps (fun b => b = w2.heap.size) w6 wr)) (fun j _ => n.kids.length - (intOf j).toNat)
    case atStart => exact ⟨0, none, 0, Nat.zero_le _, rfl, by rw [jl_zero]; exact BX0.out, by rw [jl_zero]; exact OIn.nil _ _, Keeps.refl _ _⟩
    obtain ⟨k, A, c, hk, rfl, hbx, hoi, hkr⟩ := hrel
    have hjlen : (jl n.kids i kid k).length ≤ k + 1 := jl_len _ _ _ _
    have BX := Lib.hid hbx
    have R5 := Lib.hid hoi
    have KR := Lib.hid hkr
    have BNr := Lib.hid (BN.out.keeps hkr (by show ¬ _ = _; omega))
    clear hbx hoi hkr
    have qn := fun i => BNr.out.cell i
    rcases Nat.lt_or_ge k n.kids.length with hlt | hlt
    · obtain ⟨y, hy⟩ : ∃ y, n.kids[k]? = some y := ⟨_, List.getElem?_eq_getElem hlt⟩
      obtain ⟨ad, rfl, hadb, hc⟩ := H.out.2.kids.cells hlt
      have hcy : wr.cell? (ad.add k) = some (.int .i64 y) := KR.out.cell (hc k y hy) (by intro e; rw [blk_add] at e; have h2 : ad.block < w.heap.size := hadb; have h3 : ad.block = _ := e; omega)
      have HY := Lib.hid hy
      clear hc hy
      go_wp2
      refine wp_region_canon [0, 1, 2, 3, 4, 5, 6, 7, 8, 9, 10, 11, 12, 13] 13 (fun W => W.cell? ⟨w2.heap.size, 5, none⟩ = some (.slice A (jl n.kids i kid k).length c) ∧ W.cell? ⟨w.heap.size, 5, none⟩ = some (.slice (some ad) n.kids.length k5) ∧ W.cell? (ad.add k) = some (.int .i64 y)) (by kernel_rfl) (by kernel_rfl) rfl (by kernel_rfl) (fun _ _ d _ _ h => by cases d <;> exact h) ⟨BX.out.cell 5, BNr.out.cell 5, hcy⟩ ?_
      iterate 9
        refine wpCanon_read (v := ?_) rfl (by kernel_rfl) (by rfl) ?_ ?_
        rotate_left
        · intro W hW
          try (obtain ⟨h1, h2, h3⟩ : _ ∧ _ ∧ _ := hW)
          go_simp
          try rfl
        simp only [Act.put, List.setIfInBounds_toArray, List.set_cons_zero, List.set_cons_succ]
      refine wpCanon_act rfl (by kernel_rfl) ?_
      go_wp2
      refine ⟨.inr ⟨(BX.out.drew.alloc _).cell 5, (BNr.out.drew.alloc _).cell 5, ?_⟩, ?_⟩
      · exact (Keeps.cell (Keeps.alloc Nob _ _) hcy id)
      refine wpCanon_act rfl (by kernel_rfl) ?_
      go_wp2_with (at_builtin; refine list_at (fun wd hwd => ?_); refine wpList_app rfl (.tmp 42) (.tmp 49) 33 rfl Try.underlying33 hi hz0 hz1 hz2 rfl (by decide) (v := .slice A (jl n.kids i kid k).length c) (n := (jl n.kids i kid k).length) (m := 1) (S := From w6.heap.size) (T := fun _ => True) (xs := (jl n.kids i kid k).map iV) (news := [.int .i64 y]) rfl ?raa (y := .slice (some ⟨_, 0, none⟩) 1 1) rfl ?rab ?rac ?rad ?rae ?raf)
      case raa => rw [hwd]; exact R5.out.keeps ((Keeps.drew Nob wr).alloc' _) (fun _ _ _ => id)
      case rab => rw [hwd]; exact (SlG.lit1 wr.drew _ _ _ rfl).mono (fun _ _ _ => trivial)
      case rac => intro u hu; simp at hu; subst hu; rfl
      case rad => unfold maxLen; omega
      case rae => omega
      intro v' w7 ho hkk _
      rw [← hwd] at hkk
      obtain ⟨E, ce, hf⟩ := ho.form
      subst hf
      have hkd : Keeps Nob wr wd := by rw [hwd]; exact (Keeps.drew Nob wr).alloc' _
      have hod := R5.out.keeps hkd (fun _ _ _ => id)
      have BX7 := Lib.hid ((BX.out.keeps hkd id).keepsOw hod (by decide) hkk)
      have BN7 := Lib.hid ((BNr.out.keeps hkd id).keepsOw hod (by decide) hkk)
      have R7 : Hid (OIn w7 (From w6.heap.size) (.slice E (jl n.kids i kid k ++ [y]).length ce) (jl n.kids i kid k ++ [y])) := by
        unfold OIn
        rw [List.length_append, List.map_append]
        exact ho.mono (fun b _ hb => by
          rcases hb with hb | hb
          · exact (Own.blk R5.out hb).1
          · have h1 := hb.1; have h2 := hkd.size; have h3 := KR.out.size; show w6.heap.size ≤ b; omega)
      have KR7 : Hid (Keeps (fun b => b = w2.heap.size) w6 w7) := (KR.out.trans hkd (fun _ _ h => h.elim)).trans hkk (fun b hb e => by have h1 : w6.heap.size ≤ b := (Own.blk R5.out e).1; omega)
      have hl7 : (jl n.kids i kid k ++ [y]).length = (jl n.kids i kid k).length + 1 := by simp
      have hcy7 : w7.cell? (ad.add k) = some (.int .i64 y) := (hkk.cell (hkd.cell hcy id) (fun e => by have h1 : w6.heap.size ≤ (ad.add k).block := (Own.blk R5.out e).1; rw [blk_add] at h1; have h2 : ad.block < w.heap.size := hadb; omega))
      clear ho hkk hod hkd hwd BX BNr R5 hcy
      refine ⟨.inr ⟨BX7.out.cell 5, BN7.out.cell 5, hcy7⟩, ?_⟩
      iterate 2
        refine wpCanon_read (v := ?_) rfl (by kernel_rfl) (by rfl) ?_ ?_
        rotate_left
        · intro W hW
          skip
          go_simp
          try rfl
        simp only [Act.put, List.setIfInBounds_toArray, List.set_cons_zero, List.set_cons_succ]
      have q5 := BX7.out.cell 5
      have f5 := BX7.out.frozen 5
      refine wpCanon_act rfl (by kernel_rfl) ?_
      go_wp2
      refine ⟨.inl (by kernel_rfl), wpCanon_nil (then_at (fun w8 hw8 => ?_))⟩
      have BX8 : Hid (Blk w8 (w2.heap.size) 51 #[.int .i64 n.lvl, .slice D1 n.high.length dj1, .int .i64 n.right, .slice E3 (ins n.keys i key).length e3j, .slice D4 n.vals.length dj4, .slice E (jl n.kids i kid k ++ [y]).length ce]) := by rw [hw8, hl7]; exact BX7.out.set_ 5 _
      have hk8 : Keeps (fun b => b = w2.heap.size) w7 w8 := by rw [hw8]; exact Keeps.setCell _ (M := fun b => b = w2.heap.size) rfl _
      have R8 := Lib.hid (R7.out.keepsB BX7.out ha hk8)
      have KR8 := Lib.hid (KR7.out.trans hk8 (fun _ _ h => h))
      clear hw8 hk8 q5 f5 BX7 BN7 R7 KR7 hcy7 hl7
      have hjl2 : (jl n.kids i kid k ++ [y]).length ≤ k + 2 := by simp; omega
      by_cases hki : k = i
      · have hje : jl n.kids i kid (k + 1) = (jl n.kids i kid k ++ [y]) ++ [kid] := jl_here HY.out hki
        have hki2 : ((k : Int) == (i : Int)) = true := by simp [hki]
        have HKI := Lib.hid hki
        clear hki
        have q5 := BX8.out.cell 5
        have f5 := BX8.out.frozen 5
        generalize hJ : jl n.kids i kid k ++ [y] = J at *
        have HJ := Lib.hid hJ
        clear hJ
        have HJE := Lib.hid hje
        clear hje
        go_wp2_with (at_builtin; refine list_at (fun wd hwd => ?_); refine wpList_app rfl (.tmp 58) (.tmp 60) 33 rfl Try.underlying33 hi hz0 hz1 hz2 rfl (by decide) (v := .slice E J.length ce) (n := J.length) (m := 1) (S := From w6.heap.size) (T := fun _ => True) (xs := J.map iV) (news := [.int .i64 kid]) rfl ?rba (y := .slice (some ⟨_, 0, none⟩) 1 1) rfl ?rbb ?rbc ?rbd ?rbe ?rbf)
        case rba => rw [hwd]; exact R8.out.keeps (Keeps.alloc Nob _ _) (fun _ _ _ => id)
        case rbb => rw [hwd]; exact (SlG.lit1 w8 _ _ _ rfl).mono (fun _ _ _ => trivial)
        case rbc => intro u hu; simp at hu; subst hu; rfl
        case rbd => unfold maxLen; omega
        case rbe => omega
        intro v' w9 ho hkk _
        rw [← hwd] at hkk
        obtain ⟨F, cf, hf⟩ := ho.form
        subst hf
        have hkd : Keeps Nob w8 wd := by rw [hwd]; exact Keeps.alloc _ _ _
        have hod := R8.out.keeps hkd (fun _ _ _ => id)
        have BX9 := Lib.hid ((BX8.out.keeps hkd id).keepsOw hod (by decide) hkk)
        have R9 : Hid (OIn w9 (From w6.heap.size) (.slice F (J ++ [kid]).length cf) (J ++ [kid])) := by
          unfold OIn
          rw [List.length_append, List.map_append]
          exact ho.mono (fun b _ hb => by
            rcases hb with hb | hb
            · exact (Own.blk R8.out hb).1
            · have h1 := hb.1; have h2 := hkd.size; have h3 := KR8.out.size; show w6.heap.size ≤ b; omega)
        have KR9 : Hid (Keeps (fun b => b = w2.heap.size) w6 w9) := (KR8.out.trans hkd (fun _ _ h => h.elim)).trans hkk (fun b hb e => by have h1 : w6.heap.size ≤ b := (Own.blk R8.out e).1; omega)
        have HL9 : Hid ((J ++ [kid]).length = J.length + 1) := by show _ = _; simp
        clear ho hkk hod hkd hwd q5 f5
        have q5 := BX9.out.cell 5
        have f5 := BX9.out.frozen 5
        go_wp2
        go_roundw
        case rel =>
          refine ⟨k + 1, F, cf, by omega, by go_num, ?_, ?_, ?_⟩
          · rw [HJE.out, HL9.out]; exact BX9.out.set_ 5 _
          · rw [HJE.out]; exact R9.out.keepsB BX9.out ha (Keeps.setCell _ (M := fun b => b = w2.heap.size) rfl _)
          · exact KR9.out.trans (Keeps.setCell _ (M := fun b => b = w2.heap.size) rfl _) (fun _ _ h => h)
        case measure => simp [intOf]; omega
      · have hje : jl n.kids i kid (k + 1) = jl n.kids i kid k ++ [y] := jl_there HY.out hki
        have hki2 : ((k : Int) == (i : Int)) = false := by rw [beq_eq_false_iff_ne]; omega
        go_wp2
        go_roundw
        case rel => exact ⟨k + 1, E, ce, by omega, by go_num, by rw [hje]; exact BX8.out, by rw [hje]; exact R8.out, KR8.out⟩
        case measure => simp [intOf]; omega
    · have hke : k = n.kids.length := by omega
      have hje : jl n.kids i kid k = ins n.kids (i + 1) kid := by rw [hke]; exact jl_end _ _ _ hkl
      rw [hje] at BX R5
      subst hke
      replace R5 := Lib.hid (R5.out.mono (T := From w.heap.size) (fun b _ hb => by have h1 : w6.heap.size ≤ b := hb; show w.heap.size ≤ b; omega))
      have hkk := KR.out
      replace R1 := Lib.hid (R1.out.keepsB BX0.out ha hkk)
      replace R3 := Lib.hid (R3.out.keepsB BX0.out ha hkk)
      replace R4 := Lib.hid (R4.out.keepsB BX0.out ha hkk)
      replace BR := Lib.hid (BR.out.keeps hkk (by show ¬ _ = _; omega))
      replace K := Lib.hid (K.out.trans hkk (fun b hb e => by have h2 : b = _ := e; omega))
      clear hkk BNr BN KR BX0
      have qBX := fun i => BX.out.cell i
      have gBX := fun i => BX.out.frozen i
      have lBX := BX.out.lt
      have qBR := fun i => BR.out.cell i
      have gBR := fun i => BR.out.frozen i
      have lBR := BR.out.lt
      go_wp2
      refine post_at (fun w7 hw => ?_)
      clear qBX gBX lBX qBR gBR lBR
      have hk : Keeps (fun b => b = w.heap.size + 1) wr w7 := by rw [hw]; exact (((((Keeps.setCell _ (M := fun b => b = w.heap.size + 1) rfl _).setCell' (fun _ => rfl) _).setCell' (fun _ => rfl) _).setCell' (fun _ => rfl) _).setCell' (fun _ => rfl) _).setCell' (fun _ => rfl) _
      have hb : Blk w7 (w.heap.size + 1) 51 #[.int .i64 n.lvl, .slice D1 n.high.length dj1, .int .i64 n.right, .slice E3 (ins n.keys i key).length e3j, .slice D4 n.vals.length dj4, .slice A (ins n.kids (i + 1) kid).length c] := by rw [hw]; exact ((((((BR.out.set_ 0 _).set_ 1 _).set_ 2 _).set_ 3 _).set_ 4 _).set_ 5 _)
      have hs : w7.heap.size = wr.heap.size := by rw [hw]; simp
      clear hw
      have r0 := hb.cell 0
      have r1 := hb.cell 1
      have r2 := hb.cell 2
      have r3 := hb.cell 3
      have r4 := hb.cell 4
      have r5 := hb.cell 5
      rw [HWO.out, HVH.out]
      refine bodyPost_ret (v := .tuple #[.agg #[.int .i64 n.lvl, .slice D1 n.high.length dj1, .int .i64 n.right, .slice E3 (ins n.keys i key).length e3j, .slice D4 n.vals.length dj4, .slice A (ins n.kids (i + 1) kid).length c], .bool true]) (by simp [results, Try.results47, go_sem, r0, r1, r2, r3, r4, r5]) rfl ⟨_, _, _, _, _, _, rfl, ⟨⟨rfl, ?_, rfl⟩, ?_, ?_, ?_⟩, K.out.trans hk (fun b hb e => by have h2 : b = _ := e; omega)⟩
      · exact (R1.out.keepsB BR.out ha hk).mono (fun b hb h => ⟨h, hb⟩)
      · exact (R3.out.keepsB BR.out ha hk).mono (fun b hb h => ⟨h, hb⟩)
      · exact (R4.out.keepsB BR.out ha hk).mono (fun b hb h => ⟨h, hb⟩)
      · exact (R5.out.keepsB BR.out ha hk).mono (fun b hb h => ⟨h, hb⟩)
end
end Go.Proofs.Ytdmmhblmgbhgfaa

/- node.Without: a leaf without a key, in new memory. -/
import Derived.Test.YtdmmhblmgbhgfaaWith
import Derived.Test.YtdmmhblmgbhgfaaDelete
namespace Go.Proofs.Ytdmmhblmgbhgfaa
open Go.RowKit

/-- A leaf without a key. -/
def wout (n : Nd) (key : List UInt8) : Nd := if has n.keys key = true ∧ below n.keys key < n.keys.length ∧ below n.keys key < n.vals.length then { n with keys := n.keys.eraseIdx (below n.keys key), vals := n.vals.eraseIdx (below n.keys key) } else n

section
variable {S T U : Nat → Prop} {w : World} {c0 c1 c2 c3 c4 c5 ck cv : Value} {n : Nd} {key val : List UInt8}

set_option maxRecDepth 100000 in
set_option maxHeartbeats 1000000 in
theorem withoutP0 (h : IsNd w S c0 c1 c2 c3 c4 c5 n) (hk : Byts w T ck key) (hs : NdSm 0 n) :
    Calls Try.prog 56 #[.agg #[c0, c1, c2, c3, c4, c5], ck] w fun e w' => ∃ d0 d1 d2 d3 d4 d5, e = .returned (.tuple #[.agg #[d0, d1, d2, d3, d4, d5], .bool (has n.keys key)]) ∧ ONd w' (Fresh w w') d0 d1 d2 d3 d4 d5 (wout n key) ∧ Keeps Nob w w' := by
  obtain ⟨A1, k1, e1, _, _⟩ := h.1.high.form
  obtain ⟨A3, k3, e3, _, _⟩ := h.2.keys.form
  obtain ⟨A4, k4, e4, _, _⟩ := h.2.vals.form
  obtain ⟨A5, k5, e5, _, _⟩ := h.2.kids.form
  have e0 := h.1.lvl
  have e2 := h.1.right
  subst e0 e1 e2 e3 e4 e5
  have H := Lib.hid (h.mono (T := fun b => b < w.heap.size) (fun b hb _ => hb))
  have HK := Lib.hid (hk.mono (T := fun b => b < w.heap.size) (fun b hb _ => hb))
  have HS : Hid (NdSm 0 n) := hs
  have hsz1 : n.keys.length ≤ 140737488355328 := by have := hs.2.1.1; unfold Sm at this; omega
  have hsz2 : n.vals.length ≤ 140737488355328 := by have := hs.2.2.1.1; unfold Sm at this; omega
  have hsz3 : n.kids.length ≤ 140737488355328 := by have := hs.2.2.2; unfold Sm at this; omega
  have hbl := below_le n.keys key
  obtain ⟨i, hbi⟩ : ∃ i, below n.keys key = i := ⟨_, rfl⟩
  obtain ⟨vh, hvh⟩ : ∃ v, has n.keys key = v := ⟨_, rfl⟩
  rw [hbi] at hbl
  have HBI := Lib.hid hbi
  have HVH := Lib.hid hvh
  have ha : Apart 51 := ⟨by decide, by decide, by decide⟩
  clear h hk hs hbi hvh
  unfold iV
  go_enter Try.func56, Try.ntmps56
  go_wp2_with fail
  refine calls_at (fun w1 hw => ?_)
  have hk : Keeps Nob w w1 := by rw [hw]; exact (Keeps.alloc _ _ _).alloc' _
  have BN : Hid (Blk w1 (w.heap.size) 51 #[.int .i64 n.lvl, .slice A1 n.high.length k1, .int .i64 n.right, .slice A3 n.keys.length k3, .slice A4 n.vals.length k4, .slice A5 n.kids.length k5]) := by rw [hw]; exact (Blk.new _ _ _).alloc _
  have BR : Hid (Blk w1 (w.heap.size + 1) 51 #[.int .i64 0, .slice none 0 0, .int .i64 0, .slice none 0 0, .slice none 0 0, .slice none 0 0]) := by rw [hw]; exact Blk.new' (by simp) _ _
  have szw1 := hk.size
  have ltBN := BN.out.lt
  have ltBR := BR.out.lt
  have K := Lib.hid hk
  clear hw hk
  replace H := Lib.hid (H.out.keeps K.out (fun _ _ _ => id))
  replace HK := Lib.hid (HK.out.keeps K.out (fun _ _ _ => id))
  refine (cloneP H.out (HS.out.mono (by decide))).mono ?_
  rintro e w2 ⟨d0, d1, d2, d3, d4, d5, rfl, hO, hk, hP⟩
  replace BN := Lib.hid (BN.out.keeps hk id)
  replace BR := Lib.hid (BR.out.keeps hk id)
  replace H := Lib.hid (H.out.keeps hk (fun _ _ _ => id))
  replace HK := Lib.hid (HK.out.keeps hk (fun _ _ _ => id))
  have szw2 := hk.size
  replace K := Lib.hid (K.out.trans hk (fun _ _ h => h))
  clear hk
  obtain ⟨D1, dj1, f1⟩ := Own.form hO.1.high
  obtain ⟨D3, dj3, f3⟩ := OTx.form hO.2.keys
  obtain ⟨D4, dj4, f4⟩ := OTx.form hO.2.vals
  obtain ⟨D5, dj5, f5⟩ := Own.form hO.2.kids
  have f0 := hO.1.lvl
  have f2 := hO.1.right
  unfold iV at f0 f2
  subst f0 f1 f2 f3 f4 f5
  have R1 : Hid (OBy w2 (From w.heap.size) (.slice D1 (n).high.length dj1) (n).high) := hO.1.high.mono (fun b _ hb => by have := hb.1; show w.heap.size ≤ b; omega)
  have R3 : Hid (OTx w2 (From w.heap.size) (.slice D3 (n).keys.length dj3) (n).keys) := hO.2.keys.mono (fun b _ hb => by have := hb.1; show w.heap.size ≤ b; omega)
  have R4 : Hid (OTx w2 (From w.heap.size) (.slice D4 (n).vals.length dj4) (n).vals) := hO.2.vals.mono (fun b _ hb => by have := hb.1; show w.heap.size ≤ b; omega)
  have R5 : Hid (OIn w2 (From w.heap.size) (.slice D5 (n).kids.length dj5) (n).kids) := hO.2.kids.mono (fun b _ hb => by have := hb.1; show w.heap.size ≤ b; omega)
  have HP : Hid (Prt (.slice D3 n.keys.length dj3) (.slice D4 n.vals.length dj4)) := hP
  clear hO hP
  have qBN := fun i => BN.out.cell i
  have gBN := fun i => BN.out.frozen i
  have lBN := BN.out.lt
  go_wp2_with fail
  refine calls_at (fun w3 hw => ?_)
  have hk : Keeps (fun b => b = w.heap.size) w2 w3 := by rw [hw]; exact (((((Keeps.setCell _ (M := fun b => b = w.heap.size) rfl _).setCell' (fun _ => rfl) _).setCell' (fun _ => rfl) _).setCell' (fun _ => rfl) _).setCell' (fun _ => rfl) _).setCell' (fun _ => rfl) _
  have hb : Hid (Blk w3 (w.heap.size) 51 #[.int .i64 n.lvl, .slice D1 n.high.length dj1, .int .i64 n.right, .slice D3 n.keys.length dj3, .slice D4 n.vals.length dj4, .slice D5 n.kids.length dj5]) := by rw [hw]; exact ((((((BN.out.set_ 0 _).set_ 1 _).set_ 2 _).set_ 3 _).set_ 4 _).set_ 5 _)
  replace BR := Lib.hid (BR.out.keeps hk (by show ¬ _ = _; omega))
  replace H := Lib.hid (H.out.keeps hk (fun b _ hb e => by have h1 : b < w.heap.size := hb; have h2 : b = _ := e; omega))
  replace HK := Lib.hid (HK.out.keeps hk (fun b _ hb e => by have h1 : b < w.heap.size := hb; have h2 : b = _ := e; omega))
  replace R1 := Lib.hid (R1.out.keepsB BN.out ha hk)
  replace R3 := Lib.hid (R3.out.keepsB BN.out ha hk)
  replace R4 := Lib.hid (R4.out.keepsB BN.out ha hk)
  replace R5 := Lib.hid (R5.out.keepsB BN.out ha hk)
  replace BN := hb
  clear hw hb
  have szw3 := hk.size
  replace K := Lib.hid (K.out.trans hk (fun b hb e => by subst e; omega))
  clear hk
  clear qBN gBN lBN
  refine (findP R3.out.r HK.out).mono ?_
  rintro e w4 ⟨rfl, hk⟩
  replace BN := Lib.hid (BN.out.keeps hk id)
  replace BR := Lib.hid (BR.out.keeps hk id)
  replace H := Lib.hid (H.out.keeps hk (fun _ _ _ => id))
  replace HK := Lib.hid (HK.out.keeps hk (fun _ _ _ => id))
  replace R1 := Lib.hid (R1.out.keeps hk (fun _ _ _ => id))
  replace R3 := Lib.hid (R3.out.keeps hk (fun _ _ _ => id))
  replace R4 := Lib.hid (R4.out.keeps hk (fun _ _ _ => id))
  replace R5 := Lib.hid (R5.out.keeps hk (fun _ _ _ => id))
  have szw4 := hk.size
  replace K := Lib.hid (K.out.trans hk (fun _ _ h => h))
  clear hk
  rw [HBI.out, HVH.out]
  cases vh with
  | false =>
    have hwo : wout n key = n := by unfold wout; rw [HVH.out]; rfl
    have qBN := fun i => BN.out.cell i
    have gBN := fun i => BN.out.frozen i
    have lBN := BN.out.lt
    have qBR := fun i => BR.out.cell i
    have gBR := fun i => BR.out.frozen i
    have lBR := BR.out.lt
    go_wp2
    refine post_at (fun w5 hw => ?_)
    clear qBN gBN lBN qBR gBR lBR
    have hk : Keeps (fun b => b = w.heap.size + 1) w4 w5 := by rw [hw]; exact (((((Keeps.setCell _ (M := fun b => b = w.heap.size + 1) rfl _).setCell' (fun _ => rfl) _).setCell' (fun _ => rfl) _).setCell' (fun _ => rfl) _).setCell' (fun _ => rfl) _).setCell' (fun _ => rfl) _
    have hb : Blk w5 (w.heap.size + 1) 51 #[.int .i64 n.lvl, .slice D1 n.high.length dj1, .int .i64 n.right, .slice D3 n.keys.length dj3, .slice D4 n.vals.length dj4, .slice D5 n.kids.length dj5] := by rw [hw]; exact ((((((BR.out.set_ 0 _).set_ 1 _).set_ 2 _).set_ 3 _).set_ 4 _).set_ 5 _)
    have hs : w5.heap.size = w4.heap.size := by rw [hw]; simp
    clear hw
    have r0 := hb.cell 0
    have r1 := hb.cell 1
    have r2 := hb.cell 2
    have r3 := hb.cell 3
    have r4 := hb.cell 4
    have r5 := hb.cell 5
    rw [hwo, HVH.out]
    refine bodyPost_ret (v := .tuple #[.agg #[.int .i64 n.lvl, .slice D1 n.high.length dj1, .int .i64 n.right, .slice D3 n.keys.length dj3, .slice D4 n.vals.length dj4, .slice D5 n.kids.length dj5], .bool false]) (by simp [results, Try.results56, go_sem, r0, r1, r2, r3, r4, r5]) rfl ⟨_, _, _, _, _, _, rfl, ⟨⟨rfl, ?_, rfl⟩, ?_, ?_, ?_⟩, K.out.trans hk (fun b hb e => by have h2 : b = _ := e; omega)⟩
    · exact (R1.out.keepsB BR.out ha hk).mono (fun b hb h => ⟨h, hb⟩)
    · exact (R3.out.keepsB BR.out ha hk).mono (fun b hb h => ⟨h, hb⟩)
    · exact (R4.out.keepsB BR.out ha hk).mono (fun b hb h => ⟨h, hb⟩)
    · exact (R5.out.keepsB BR.out ha hk).mono (fun b hb h => ⟨h, hb⟩)
  | true =>
    by_cases hik : i < n.keys.length
    · by_cases hiv : i < n.vals.length
      · have hwo : wout n key = { n with keys := n.keys.eraseIdx i, vals := n.vals.eraseIdx i } := by unfold wout; rw [HVH.out, HBI.out, if_pos ⟨rfl, hik, hiv⟩]
        have hke : (n.keys.eraseIdx i).length = n.keys.length - 1 := List.length_eraseIdx_of_lt hik
        have hve : (n.vals.eraseIdx i).length = n.vals.length - 1 := List.length_eraseIdx_of_lt hiv
        have qBN := fun i => BN.out.cell i
        have gBN := fun i => BN.out.frozen i
        have lBN := BN.out.lt
        go_wp2_with fail
        clear qBN gBN lBN
        refine (deleteT R3.out hik).mono ?_
        rintro e w5 ⟨rfl, hO, hk⟩
        replace BN := Lib.hid (BN.out.keepsR R3.out (by decide) hk)
        replace BR := Lib.hid (BR.out.keepsR R3.out (by decide) hk)
        replace H := Lib.hid (H.out.keeps hk (fun b _ hb e => by have h1 : b < w.heap.size := hb; have h2 : w.heap.size ≤ b := (R3.out.blk e).1; omega))
        replace HK := Lib.hid (HK.out.keeps hk (fun b _ hb e => by have h1 : b < w.heap.size := hb; have h2 : w.heap.size ≤ b := (R3.out.blk e).1; omega))
        replace R1 := Lib.hid (R1.out.keepsR R3.out hk)
        replace R4 := Lib.hid (R4.out.keepsR R3.out (fun b h1 h2 => HP.out b h2 h1) hk)
        replace R5 := Lib.hid (R5.out.keepsR R3.out hk)
        have szw5 := hk.size
        replace K := Lib.hid (K.out.trans hk (fun b hb e => by have h2 : w.heap.size ≤ b := (R3.out.blk e).1; omega))
        replace R3 := Lib.hid hO
        clear hO hk
        have qBN := fun i => BN.out.cell i
        have gBN := fun i => BN.out.frozen i
        have lBN := BN.out.lt
        go_wp2_with fail
        refine calls_at (fun w6 hw => ?_)
        have hk : Keeps (fun b => b = w.heap.size) w5 w6 := by rw [hw]; exact Keeps.setCell _ (M := fun b => b = w.heap.size) rfl _
        have hb : Hid (Blk w6 (w.heap.size) 51 #[.int .i64 n.lvl, .slice D1 n.high.length dj1, .int .i64 n.right, .slice D3 (n.keys.length - 1) dj3, .slice D4 n.vals.length dj4, .slice D5 n.kids.length dj5]) := by rw [hw]; exact (BN.out.set_ 3 _)
        replace BR := Lib.hid (BR.out.keeps hk (by show ¬ _ = _; omega))
        replace H := Lib.hid (H.out.keeps hk (fun b _ hb e => by have h1 : b < w.heap.size := hb; have h2 : b = _ := e; omega))
        replace HK := Lib.hid (HK.out.keeps hk (fun b _ hb e => by have h1 : b < w.heap.size := hb; have h2 : b = _ := e; omega))
        replace R1 := Lib.hid (R1.out.keepsB BN.out ha hk)
        replace R3 := Lib.hid (R3.out.keepsB BN.out ha hk)
        replace R4 := Lib.hid (R4.out.keepsB BN.out ha hk)
        replace R5 := Lib.hid (R5.out.keepsB BN.out ha hk)
        replace BN := hb
        clear hw hb
        have szw6 := hk.size
        replace K := Lib.hid (K.out.trans hk (fun b hb e => by subst e; omega))
        clear hk
        clear qBN gBN lBN
        refine (deleteT R4.out hiv).mono ?_
        rintro e w7 ⟨rfl, hO, hk⟩
        replace BN := Lib.hid (BN.out.keepsR R4.out (by decide) hk)
        replace BR := Lib.hid (BR.out.keepsR R4.out (by decide) hk)
        replace H := Lib.hid (H.out.keeps hk (fun b _ hb e => by have h1 : b < w.heap.size := hb; have h2 : w.heap.size ≤ b := (R4.out.blk e).1; omega))
        replace HK := Lib.hid (HK.out.keeps hk (fun b _ hb e => by have h1 : b < w.heap.size := hb; have h2 : w.heap.size ≤ b := (R4.out.blk e).1; omega))
        replace R1 := Lib.hid (R1.out.keepsR R4.out hk)
        replace R3 := Lib.hid (R3.out.keepsR R4.out (fun b h1 h2 => HP.out b (by cases D3 <;> exact h1) h2) hk)
        replace R5 := Lib.hid (R5.out.keepsR R4.out hk)
        have szw7 := hk.size
        replace K := Lib.hid (K.out.trans hk (fun b hb e => by have h2 : w.heap.size ≤ b := (R4.out.blk e).1; omega))
        replace R4 := Lib.hid hO
        clear hO hk
        have qBN := fun i => BN.out.cell i
        have gBN := fun i => BN.out.frozen i
        have lBN := BN.out.lt
        have qBR := fun i => BR.out.cell i
        have gBR := fun i => BR.out.frozen i
        have lBR := BR.out.lt
        go_wp2
        refine post_at (fun w8 hw => ?_)
        clear qBN gBN lBN qBR gBR lBR
        have hk0 : Keeps (fun b => b = w.heap.size) w7 (w7.setCell ⟨w.heap.size, 4, none⟩ (.slice D4 (n.vals.length - 1) dj4)) := Keeps.setCell _ (M := fun b => b = w.heap.size) rfl _
        have hbr := BR.out.keeps hk0 (by show ¬ _ = _; omega)
        have hk : Keeps (fun b => b = w.heap.size + 1) (w7.setCell ⟨w.heap.size, 4, none⟩ (.slice D4 (n.vals.length - 1) dj4)) w8 := by rw [hw]; exact (((((Keeps.setCell _ (M := fun b => b = w.heap.size + 1) rfl _).setCell' (fun _ => rfl) _).setCell' (fun _ => rfl) _).setCell' (fun _ => rfl) _).setCell' (fun _ => rfl) _).setCell' (fun _ => rfl) _
        have hb : Blk w8 (w.heap.size + 1) 51 #[.int .i64 n.lvl, .slice D1 n.high.length dj1, .int .i64 n.right, .slice D3 (n.keys.length - 1) dj3, .slice D4 (n.vals.length - 1) dj4, .slice D5 n.kids.length dj5] := by rw [hw]; exact ((((((hbr.set_ 0 _).set_ 1 _).set_ 2 _).set_ 3 _).set_ 4 _).set_ 5 _)
        clear hw
        have r0 := hb.cell 0
        have r1 := hb.cell 1
        have r2 := hb.cell 2
        have r3 := hb.cell 3
        have r4 := hb.cell 4
        have r5 := hb.cell 5
        rw [hwo, HVH.out]
        refine bodyPost_ret (v := .tuple #[.agg #[.int .i64 n.lvl, .slice D1 n.high.length dj1, .int .i64 n.right, .slice D3 (n.keys.length - 1) dj3, .slice D4 (n.vals.length - 1) dj4, .slice D5 n.kids.length dj5], .bool true]) (by simp [results, Try.results56, go_sem, r0, r1, r2, r3, r4, r5]) rfl ⟨_, _, _, _, _, _, rfl, ⟨⟨rfl, ?_, rfl⟩, ?_, ?_, ?_⟩, (K.out.trans hk0 (fun b hb e => by have h2 : b = _ := e; omega)).trans hk (fun b hb e => by have h2 : b = _ := e; omega)⟩
        · exact ((R1.out.keepsB BN.out ha hk0).keepsB hbr ha hk).mono (fun b hb h => ⟨h, hb⟩)
        · exact ((R3.out.keepsB BN.out ha hk0).keepsB hbr ha hk).mono (fun b hb h => ⟨h, hb⟩)
        · exact ((R4.out.keepsB BN.out ha hk0).keepsB hbr ha hk).mono (fun b hb h => ⟨h, hb⟩)
        · exact ((R5.out.keepsB BN.out ha hk0).keepsB hbr ha hk).mono (fun b hb h => ⟨h, hb⟩)
      · have hwo : wout n key = n := by unfold wout; rw [HVH.out, HBI.out, if_neg (fun h => hiv h.2.2)]
        have qBN := fun i => BN.out.cell i
        have gBN := fun i => BN.out.frozen i
        have lBN := BN.out.lt
        have qBR := fun i => BR.out.cell i
        have gBR := fun i => BR.out.frozen i
        have lBR := BR.out.lt
        go_wp2
        refine post_at (fun w5 hw => ?_)
        clear qBN gBN lBN qBR gBR lBR
        have hk : Keeps (fun b => b = w.heap.size + 1) w4 w5 := by rw [hw]; exact (((((Keeps.setCell _ (M := fun b => b = w.heap.size + 1) rfl _).setCell' (fun _ => rfl) _).setCell' (fun _ => rfl) _).setCell' (fun _ => rfl) _).setCell' (fun _ => rfl) _).setCell' (fun _ => rfl) _
        have hb : Blk w5 (w.heap.size + 1) 51 #[.int .i64 n.lvl, .slice D1 n.high.length dj1, .int .i64 n.right, .slice D3 n.keys.length dj3, .slice D4 n.vals.length dj4, .slice D5 n.kids.length dj5] := by rw [hw]; exact ((((((BR.out.set_ 0 _).set_ 1 _).set_ 2 _).set_ 3 _).set_ 4 _).set_ 5 _)
        have hs : w5.heap.size = w4.heap.size := by rw [hw]; simp
        clear hw
        have r0 := hb.cell 0
        have r1 := hb.cell 1
        have r2 := hb.cell 2
        have r3 := hb.cell 3
        have r4 := hb.cell 4
        have r5 := hb.cell 5
        rw [hwo, HVH.out]
        refine bodyPost_ret (v := .tuple #[.agg #[.int .i64 n.lvl, .slice D1 n.high.length dj1, .int .i64 n.right, .slice D3 n.keys.length dj3, .slice D4 n.vals.length dj4, .slice D5 n.kids.length dj5], .bool true]) (by simp [results, Try.results56, go_sem, r0, r1, r2, r3, r4, r5]) rfl ⟨_, _, _, _, _, _, rfl, ⟨⟨rfl, ?_, rfl⟩, ?_, ?_, ?_⟩, K.out.trans hk (fun b hb e => by have h2 : b = _ := e; omega)⟩
        · exact (R1.out.keepsB BR.out ha hk).mono (fun b hb h => ⟨h, hb⟩)
        · exact (R3.out.keepsB BR.out ha hk).mono (fun b hb h => ⟨h, hb⟩)
        · exact (R4.out.keepsB BR.out ha hk).mono (fun b hb h => ⟨h, hb⟩)
        · exact (R5.out.keepsB BR.out ha hk).mono (fun b hb h => ⟨h, hb⟩)
    · have hwo : wout n key = n := by unfold wout; rw [HVH.out, HBI.out, if_neg (fun h => hik h.2.1)]
      have qBN := fun i => BN.out.cell i
      have gBN := fun i => BN.out.frozen i
      have lBN := BN.out.lt
      have qBR := fun i => BR.out.cell i
      have gBR := fun i => BR.out.frozen i
      have lBR := BR.out.lt
      go_wp2
      refine post_at (fun w5 hw => ?_)
      clear qBN gBN lBN qBR gBR lBR
      have hk : Keeps (fun b => b = w.heap.size + 1) w4 w5 := by rw [hw]; exact (((((Keeps.setCell _ (M := fun b => b = w.heap.size + 1) rfl _).setCell' (fun _ => rfl) _).setCell' (fun _ => rfl) _).setCell' (fun _ => rfl) _).setCell' (fun _ => rfl) _).setCell' (fun _ => rfl) _
      have hb : Blk w5 (w.heap.size + 1) 51 #[.int .i64 n.lvl, .slice D1 n.high.length dj1, .int .i64 n.right, .slice D3 n.keys.length dj3, .slice D4 n.vals.length dj4, .slice D5 n.kids.length dj5] := by rw [hw]; exact ((((((BR.out.set_ 0 _).set_ 1 _).set_ 2 _).set_ 3 _).set_ 4 _).set_ 5 _)
      have hs : w5.heap.size = w4.heap.size := by rw [hw]; simp
      clear hw
      have r0 := hb.cell 0
      have r1 := hb.cell 1
      have r2 := hb.cell 2
      have r3 := hb.cell 3
      have r4 := hb.cell 4
      have r5 := hb.cell 5
      rw [hwo, HVH.out]
      refine bodyPost_ret (v := .tuple #[.agg #[.int .i64 n.lvl, .slice D1 n.high.length dj1, .int .i64 n.right, .slice D3 n.keys.length dj3, .slice D4 n.vals.length dj4, .slice D5 n.kids.length dj5], .bool true]) (by simp [results, Try.results56, go_sem, r0, r1, r2, r3, r4, r5]) rfl ⟨_, _, _, _, _, _, rfl, ⟨⟨rfl, ?_, rfl⟩, ?_, ?_, ?_⟩, K.out.trans hk (fun b hb e => by have h2 : b = _ := e; omega)⟩
      · exact (R1.out.keepsB BR.out ha hk).mono (fun b hb h => ⟨h, hb⟩)
      · exact (R3.out.keepsB BR.out ha hk).mono (fun b hb h => ⟨h, hb⟩)
      · exact (R4.out.keepsB BR.out ha hk).mono (fun b hb h => ⟨h, hb⟩)
      · exact (R5.out.keepsB BR.out ha hk).mono (fun b hb h => ⟨h, hb⟩)
theorem withoutP (h : IsNd w S c0 c1 c2 c3 c4 c5 n) (hk : Byts w T ck key) (hs : NdSm 64 n) :
    Calls Try.prog 56 #[.agg #[c0, c1, c2, c3, c4, c5], ck] w fun e w' => ∃ d0 d1 d2 d3 d4 d5, e = .returned (.tuple #[.agg #[d0, d1, d2, d3, d4, d5], .bool (has n.keys key)]) ∧ ONd w' (Fresh w w') d0 d1 d2 d3 d4 d5 (wout n key) ∧ Keeps Nob w w' := withoutP0 h hk (hs.mono (by decide))
end
end Go.Proofs.Ytdmmhblmgbhgfaa

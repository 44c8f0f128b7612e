import Derived.Test.YtbhohohgojcapaaPkD7
import Derived.Test.YtbhohohgojcapaaPkD8
namespace Go.Proofs.Ytbhohohgojcapaa
open Go.RowKit

/-- What found answers from a node on. -/
def leafM (n : Nd) (key val : List UInt8) : Bool := has n.keys key && (decide (below n.keys key < n.vals.length) && (n.vals.getD (below n.keys key) [] == val))
def foundM (A : Ar) (key val : List UInt8) : Nat → Int → Bool
  | 0, _ => false
  | f + 1, id => match A.get id with
    | none => false
    | some s => if beyond s.nd.high key = true then foundM A key val f s.nd.right
      else if 0 < s.nd.lvl then foundM A key val f (childOf s.nd.kids s.nd.keys key)
      else leafM s.nd key val

section
variable {A : Ar} {chk : Nd → Int} {a0 a1 a2 a3 a4 level id lv : Int} {low key val : List UInt8} {c : Ch} {ls : List Ch}
theorem rise_append {l r : List (List UInt8)} (h1 : Rise l) (h2 : Rise r) (h : ∀ a ∈ l, ∀ b ∈ r, cmp a b < 0) : Rise (l ++ r) := fun j a b ha hb => by
  rcases Nat.lt_or_ge (j + 1) l.length with hj | hj
  · rw [List.getElem?_append_left (by omega)] at ha
    rw [List.getElem?_append_left hj] at hb
    exact h1 j a b ha hb
  · rw [List.getElem?_append_right hj] at hb
    rcases Nat.lt_or_ge j l.length with hj2 | hj2
    · rw [List.getElem?_append_left hj2] at ha
      exact h a (List.mem_of_getElem? ha) b (List.mem_of_getElem? hb)
    · rw [List.getElem?_append_right hj2] at ha
      exact h2 (j - l.length) a b ha (by rw [show j - l.length + 1 = j + 1 - l.length by omega]; exact hb)
theorem entsM_fst (vals : List (List UInt8)) : ∀ (i : Nat) (ks : List (List UInt8)), (entsM vals i ks).map Prod.fst = ks
  | _, [] => rfl
  | i, k :: ks => by rw [entsM, List.map_cons, entsM_fst vals (i + 1) ks]
theorem ents_fst (n : Nd) : (ents n).map Prod.fst = n.keys := entsM_fst _ _ _
theorem entsCh_rise (hmay : ∀ n, chk n = 0 → May n a0 a1 a2) (h : Chn A chk level id low c) : Rise ((entsCh A c).map Prod.fst) := by
  induction h with
  | last h1 h2 h3 h4 h5 =>
    unfold entsCh
    simp only [List.flatMap_cons, List.flatMap_nil, List.append_nil, opNd_get h1, ents_fst]
    exact (hmay _ h3).rise
  | @more id low s r h1 h2 h3 h4 h5 h6 ih =>
    have hm := hmay _ h3
    have hh : 0 < s.nd.high.length := Nat.pos_of_ne_zero (fun h => h5 (hm.high.1 h))
    have hlow := chn_low hmay h6
    have hce : entsCh A ((id, low) :: r) = ents s.nd ++ entsCh A r := by unfold entsCh; rw [List.flatMap_cons, opNd_get h1]
    rw [hce, List.map_append, ents_fst]
    refine rise_append hm.rise ih (fun a ha b hb => ?_)
    obtain ⟨e, he, rfl⟩ := List.mem_map.1 hb
    obtain ⟨x, hx, hkx⟩ := entsCh_keys he
    obtain ⟨g1, g2⟩ := hlow x hx
    have g3 := cmp_le_le g1 (g2 _ hkx)
    have g4 := (hm.key a ha).2
    have g5 : cmp a s.nd.high < 0 := by
      by_cases hc : 0 ≤ cmp a s.nd.high
      · rw [beyond_iff.2 ⟨hh, hc⟩] at g4; cases g4
      · omega
    exact cmp_lt_le g5 g3
theorem entsCh_len : ∀ (c : Ch), (entsCh A c).length = keysOf A c
  | [] => rfl
  | e :: c => by
    have h1 : entsCh A (e :: c) = ents (opNd A e.1) ++ entsCh A c := by unfold entsCh; rw [List.flatMap_cons]
    have h2 : keysOf A (e :: c) = (opNd A e.1).keys.length + keysOf A c := by unfold keysOf; rw [List.map_cons, List.sum_cons]
    have h3 : (ents (opNd A e.1)).length = (opNd A e.1).keys.length := by rw [← ents_fst (opNd A e.1), List.length_map]
    rw [h1, h2, List.length_append, h3, entsCh_len c]
theorem rise_find {l : List Ent} {k v : List UInt8} (h : Rise (l.map Prod.fst)) (hm : (k, v) ∈ l) : l.find? (fun e => e.1 == k) = some (k, v) := by
  rcases hf : l.find? (fun e => e.1 == k) with _ | x
  · rw [List.find?_eq_none] at hf
    exact absurd (show ((k, v) : Ent).1 == k by simp) (hf (k, v) hm)
  · have h1 := List.mem_of_find?_eq_some hf
    have h2 : x.1 = k := by have := List.find?_some hf; simpa using this
    obtain ⟨i, hi⟩ := List.mem_iff_getElem?.1 h1
    obtain ⟨j, hj⟩ := List.mem_iff_getElem?.1 hm
    have e1 : (l.map Prod.fst)[i]? = some k := by rw [List.getElem?_map, hi]; simp [h2]
    have e2 : (l.map Prod.fst)[j]? = some k := by rw [List.getElem?_map, hj]; rfl
    by_cases hij : i = j
    · subst hij; rw [hi] at hj; first | exact hf.trans hj | exact hj
    · exfalso
      have hs := cmp_self k
      rcases Nat.lt_or_gt_of_ne hij with hlt | hlt
      · have := rise_lt' h hlt e1 e2; omega
      · have := rise_lt' h hlt e2 e1; omega
/-- From a node of a chain on, found comes to the leaf that the key belongs to. -/
theorem found_down (hmay : ∀ n, chk n = 0 → May n a0 a1 a2) : ∀ (n : Nat) (L first : Int) (up : Option Ch) (c : Ch) (ts : List Ch) (c' : Ch) (id : Int) (low : List UInt8) (f : Nat), Trs A chk L first up (c :: ts) → Chn A chk L id low c' → (∀ e ∈ c', e ∈ c) → c'.length + ts.flatten.length ≤ n → cmp low key ≤ 0 → n ≤ f →
    ∃ M s lw ch, A.get M = some s ∧ chk s.nd = 0 ∧ s.nd.lvl = 0 ∧ beyond s.nd.high key = false ∧ (c :: ts)[L.toNat]? = some ch ∧ (M, lw) ∈ ch ∧ cmp lw key ≤ 0 ∧ foundM A key val f id = leafM s.nd key val
  | 0, L, first, up, c, ts, c', id, low, f, hT, hC, hsub, hn, hlow, hf => by
    obtain ⟨s, r, e, _⟩ := hC.at_
    subst e
    simp at hn
  | n + 1, L, first, up, c, ts, c', id, low, f, hT, hC, hsub, hn, hlow, hf => by
    obtain ⟨s, r, e, hs, hlv, hck, hlb, hr⟩ := hC.at_
    have hm := hmay _ hck
    obtain ⟨f, rfl⟩ : ∃ g, f = g + 1 := ⟨f - 1, by omega⟩
    rw [foundM, hs]
    simp only
    by_cases hb : beyond s.nd.high key = true
    · rw [if_pos hb]
      obtain ⟨hb1, hb2⟩ := beyond_iff.1 hb
      rcases hr with ⟨hr, _⟩ | ⟨hr, hC'⟩
      · have := hm.high.2 hr; omega
      subst e
      exact found_down hmay n L first up c ts r s.nd.right s.nd.high f hT hC' (fun e he => hsub e (List.mem_cons_of_mem _ he)) (by simp only [List.length_cons] at hn; omega) (by rw [cmp_swap_ key s.nd.high]; omega) (by omega)
    rw [if_neg hb]
    have hb' : beyond s.nd.high key = false := by simpa using hb
    have hmem : (id, low) ∈ c := hsub _ (by rw [e]; exact List.mem_cons_self ..)
    by_cases hl : 0 < s.nd.lvl
    · rw [if_pos hl]
      cases hT with
      | base h1 h2 => omega
      | step h0 h1 h2 h3 =>
        obtain ⟨c2, ts2, e2, hc2, hu2⟩ : ∃ c2 ts2, ts = c2 :: ts2 ∧ Chn A chk (L - 1) (firstKid A c) [] c2 ∧ UpOk A (some c) c2 := by
          generalize hL1 : L - 1 = L1 at h3
          cases h3 with
          | base g1 g2 => exact ⟨_, _, rfl, g1, g2⟩
          | step _ g1 g2 _ => exact ⟨_, _, rfl, g1, g2⟩
        subst e2
        have hnk := hu2 _ rfl _ hmem
        have hop : opNd A id = s.nd := by unfold opNd; rw [hs]
        simp only [hop] at hnk
        obtain ⟨lw, g1, g2⟩ := child_in (key := key) hm (by omega) hnk hlow
        obtain ⟨c3, k1, k2, k3⟩ := hc2.mem g1
        have hlen : c3.length + ts2.flatten.length ≤ n := by
          have hc1 : 1 ≤ c'.length := by rw [e]; simp
          simp only [List.flatten_cons, List.length_append] at hn
          omega
        obtain ⟨M, s2, lw2, ch, q1, q2, q3, q4, q5, q6, q7, q8⟩ := found_down hmay n (L - 1) (firstKid A c) (some c) c2 ts2 c3 _ lw f h3 k1 k3 hlen g2 (by omega)
        refine ⟨M, s2, lw2, ch, q1, q2, q3, q4, ?_, q6, q7, q8⟩
        rw [show L.toNat = (L - 1).toNat + 1 by omega]
        exact q5
    · rw [if_neg hl]
      have h0 := hm.lvl
      have hL : L = 0 := by omega
      exact ⟨id, s, low, c, hs, hck, by omega, hb', by rw [hL]; rfl, hmem, hlow, rfl⟩
/-- An entry of the map is come to from the root. -/
theorem found_entry (h : TreeOk A a0 a1 a2 chk lv ls) (hlen : A.sl.length ≤ 200) (he : (key, val) ∈ mapOf A) : foundM A key val 200 A.root = true := by
  obtain ⟨cl, k1, ⟨id, k2⟩, k3⟩ := map_of h
  obtain ⟨c, ts, e2, hc⟩ : ∃ c ts, ls = c :: ts ∧ Chn A chk lv A.root [] c := by
    have ht := h.trs
    cases ht with
    | base g1 g2 => exact ⟨_, _, rfl, g1⟩
    | step _ g1 g2 _ => exact ⟨_, _, rfl, g1⟩
  subst e2
  have hl := h.len
  simp only [List.flatten_cons, List.length_append] at hl
  obtain ⟨M, s, lw, ch, q1, q2, q3, q4, q5, q6, q7, q8⟩ := found_down (val := val) h.may (c.length + ts.flatten.length) lv A.root none c ts c A.root [] 200 h.trs hc (fun _ h => h) (Nat.le_refl _) (cmp_nil key) (by omega)
  rw [q5] at k1; cases k1
  rw [q8]
  rw [k3] at he
  have h1 := rise_find (entsCh_rise h.may k2) he
  have hop : opNd A M = s.nd := opNd_get q1
  have h2 := chn_find h.may q7 hop q4 k2 q6
  have hm := h.may _ q2
  rw [h1, ents_value hm.rise] at h2
  by_cases hh : has s.nd.keys key = true
  · rw [if_pos hh] at h2
    injection h2 with h2
    injection h2 with _ h2
    have hlt : below s.nd.keys key < s.nd.keys.length := (List.getElem?_eq_some_iff.1 (at_below hm.rise hh)).1
    have hlv := (hm.leaf q3).1
    unfold leafM
    rw [hh, decide_eq_true (show below s.nd.keys key < s.nd.vals.length by omega), ← h2]
    simp
  · rw [if_neg hh] at h2; cases h2
/-- What is told of a tree that is not sound. -/
def RpBad (r : Rp) : Prop := r.sound = false → r.err ≠ 0 ∧ r.levels = 0 ∧ r.nodes = 0 ∧ r.entries = 0
theorem bad_ok : RpBad .ok := fun h => by cases h
theorem bad_wrong {i e : Int} (h : e ≠ 0) : RpBad (.wrong i e) := fun _ => ⟨h, rfl, rfl, rfl⟩
theorem chainM_bad : ∀ (f : Nat) (id : Int) (low : List UInt8) (met : List Int) (acc : Ch), RpBad (chainM A chk level f id low met acc).2.2
  | 0, _, _, _, _ => bad_ok
  | f + 1, id, low, met, acc => by
    unfold chainM
    split
    · exact bad_wrong (by decide)
    split
    · exact bad_wrong (by decide)
    split
    · exact bad_wrong (by decide)
    split
    · rename_i hc; exact bad_wrong hc
    split
    · exact bad_wrong (by decide)
    split
    · exact bad_ok
    · exact chainM_bad f _ _ _ _
theorem kidsM_bad (down : Ch) : ∀ (u : Ch), RpBad (kidsM A down u)
  | [] => bad_ok
  | (id, low) :: u => by
    unfold kidsM
    split
    · exact kidsM_bad down u
    · exact bad_wrong (by decide)
theorem kidsLast_bad (out : List Ch) (l : Ch) : RpBad (kidsLast A out l) := by
  unfold kidsLast
  split
  · exact bad_ok
  · exact kidsM_bad _ _
theorem levelsFrom_bad : ∀ (f : Nat) (level first : Int) (met : List Int) (out : List Ch), RpBad (levelsFrom A chk f level first met out).2
  | 0, _, _, _, _ => bad_ok
  | f + 1, level, first, met, out => by
    unfold levelsFrom
    simp only
    split
    · exact chainM_bad _ _ _ _ _
    split
    · exact kidsLast_bad _ _
    split
    · exact bad_ok
    · exact levelsFrom_bad f _ _ _ _
theorem checkM_bad : RpBad (checkM A a0 a1 a2 a3 a4) := by
  have h : RpBad (levelsM A a0 a1 a2 a3 a4).2 := by
    unfold levelsM
    split
    · exact bad_wrong (by decide)
    split
    · exact bad_wrong (by decide)
    split
    · exact bad_wrong (by decide)
    · exact levelsFrom_bad _ _ _ _ _
  unfold checkM checkOf
  split
  · exact h
  · intro h; cases h
/-- What is told of a tree that is sound. -/
theorem checkM_good (h : (checkM A a0 a1 a2 a3 a4).sound = true) (hlen : A.sl.length ≤ 200) : (checkM A a0 a1 a2 a3 a4).node = 0 ∧ (checkM A a0 a1 a2 a3 a4).err = 0 ∧ (checkM A a0 a1 a2 a3 a4).entries = (mapOf A).length ∧ Rise ((mapOf A).map Prod.fst) ∧ (mapOf A).length ≤ 65536 * 64 ∧ ∀ e ∈ mapOf A, foundM A e.1 e.2 200 A.root = true := by
  have h0 := h
  rw [checkM_sound] at h0
  obtain ⟨ls, R, hR⟩ : ∃ ls R, levelsM A a0 a1 a2 a3 a4 = (ls, R) := ⟨_, _, rfl⟩
  rw [hR] at h0
  have hcf := (levelsM_rp (A := A) (a0 := a0) (a1 := a1) (a2 := a2) (a3 := a3) (a4 := a4) (by rw [hR]; exact h0)).2
  obtain ⟨lv, hT⟩ := levelsM_ok hR h0
  obtain ⟨c, q1, q2, q3, q4, q5⟩ := last_chain hT
  obtain ⟨c2, k1, ⟨id, k2⟩, k3⟩ := map_of hT
  have hl := hT.trs.length
  have hlv := hT.lv0
  have e : lv.toNat = ls.length - 1 := by omega
  rw [e, q1] at k1; cases k1
  have hck : checkM A a0 a1 a2 a3 a4 = ⟨true, 0, 0, ls.length, nodesOf ls, keysOf A (ls.getLastD [])⟩ := by
    unfold checkM checkOf
    rw [hR]
    simp only
    rw [if_neg (by rw [h0]; decide)]
  rw [hck]
  have ha1 : a1 ≤ 64 := by
    unfold confOk at hcf
    simp only [Bool.and_eq_true, decide_eq_true_eq] at hcf
    omega
  have hkn : keysOf A c ≤ 64 * c.length := keysOf_le c (fun x hx => by obtain ⟨s, hs, hk⟩ := q4 x hx; rw [opNd_get hs]; omega)
  refine ⟨rfl, rfl, ?_, by rw [k3]; exact entsCh_rise hT.may k2, by rw [k3, entsCh_len]; omega, fun x hx => found_entry hT hlen hx⟩
  show (keysOf A (ls.getLastD []) : Int) = _
  rw [q3, k3, entsCh_len]
end
end Go.Proofs.Ytbhohohgojcapaa

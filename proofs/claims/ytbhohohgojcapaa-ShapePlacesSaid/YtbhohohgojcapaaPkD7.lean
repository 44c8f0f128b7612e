import Derived.Test.YtbhohohgojcapaaPkC9
import Derived.Test.YtbhohohgojcapaaPkC8
namespace Go.Proofs.Ytbhohohgojcapaa
open Go.RowKit

abbrev Ent := List UInt8 × List UInt8
/-- A leaf's entries, from number i on. -/
def entsM (vals : List (List UInt8)) : Nat → List (List UInt8) → List Ent
  | _, [] => []
  | i, k :: ks => (k, vals.getD i []) :: entsM vals (i + 1) ks
def ents (n : Nd) : List Ent := entsM n.vals 0 n.keys
/-- The document's Map, from a node on. -/
def mapM (A : Ar) : Nat → Int → List Int → Bool → List Ent → List Ent
  | 0, _, _, _, out => out
  | f + 1, id, met, leaf, out => match A.get id with
    | none => out
    | some s =>
      if met.contains id = true then out
      else if 0 < s.nd.lvl then (if s.nd.kids.length = 0 ∨ (leaf || decide (s.nd.lvl ≤ 0)) = true then out else mapM A f (s.nd.kids.getD 0 0) (met ++ [id]) (leaf || decide (s.nd.lvl ≤ 0)) out)
      else mapM A f s.nd.right (met ++ [id]) (leaf || decide (s.nd.lvl ≤ 0)) (out ++ ents s.nd)
def mapOf (A : Ar) : List Ent := mapM A (A.sl.length + 1) A.root [] false []
def entsCh (A : Ar) (c : Ch) : List Ent := c.flatMap (fun e => ents (opNd A e.1))

section
variable {A : Ar} {chk : Nd → Int} {a0 a1 a2 level first id : Int} {low key : List UInt8} {c : Ch} {up : Option Ch} {ts : List Ch}
theorem opNd_get {s : Sl} (h : A.get id = some s) : opNd A id = s.nd := by unfold opNd; rw [h]
theorem map_chain : ∀ (f : Nat) (id : Int) (low : List UInt8) (c : Ch) (met : List Int) (leaf : Bool) (out : List Ent), Chn A chk 0 id low c → c.length < f → (met ++ c.map Prod.fst).Nodup → mapM A f id met leaf out = out ++ entsCh A c
  | 0, _, _, _, _, _, _, _, h, _ => by omega
  | f + 1, id, low, c, met, leaf, out, hc, hf, hnd => by
    obtain ⟨s, r, e, hs, hlv, _, _, hr⟩ := hc.at_
    subst e
    have hm : ¬ met.contains id = true := by
      intro h
      have h1 : id ∈ met := by simpa using h
      rw [List.nodup_append] at hnd
      exact hnd.2.2 id h1 id (by simp) rfl
    rw [mapM, hs]
    simp only
    rw [if_neg hm, if_neg (by omega)]
    have hce : entsCh A ((id, low) :: r) = ents s.nd ++ entsCh A r := by unfold entsCh; rw [List.flatMap_cons, opNd_get hs]
    rw [hce, ← List.append_assoc]
    rcases hr with ⟨hr, rfl⟩ | ⟨hr, hc'⟩
    · rw [hr]
      have h0 : A.get 0 = none := by unfold Ar.get; rw [if_neg (by decide)]
      have : ∀ f met leaf out, mapM A f 0 met leaf out = out := fun f met leaf out => by
        cases f with
        | zero => rfl
        | succ f => rw [mapM, h0]
      rw [this]
      unfold entsCh
      simp
    · exact map_chain f _ _ r _ _ _ hc' (by simp at hf; omega) (by simpa using hnd)
/-- The leaves' chain. -/
theorem map_tree (hmay : ∀ n, chk n = 0 → May n a0 a1 a2) : ∀ (f : Nat) (level first : Int) (up : Option Ch) (ts : List Ch) (met : List Int) (out : List Ent), Trs A chk level first up ts → 0 ≤ level → ts.flatten.length < f → (met ++ ts.flatten.map Prod.fst).Nodup →
    ∃ c, ts[level.toNat]? = some c ∧ (∃ id, Chn A chk 0 id [] c) ∧ mapM A f first met false out = out ++ entsCh A c
  | 0, _, _, _, _, _, _, _, _, h, _ => by omega
  | f + 1, level, first, up, ts, met, out, hT, h0, hf, hnd => by
    cases hT with
    | @base _ _ c h1 h2 =>
      refine ⟨_, rfl, ⟨_, h1⟩, map_chain (f + 1) _ _ _ _ _ _ h1 ?_ ?_⟩
      · simpa using hf
      · simpa using hnd
    | @step _ _ _ c ts' hl h1 h2 h3 =>
      obtain ⟨s, r, e, hs, hlv, hck, _, _⟩ := h1.at_
      subst e
      have hm : ¬ met.contains first = true := by
        intro h
        have h1 : first ∈ met := by simpa using h
        rw [List.nodup_append] at hnd
        exact hnd.2.2 first h1 first (by simp) rfl
      obtain ⟨_, _, _, hkl, _⟩ := (hmay _ hck).inner (by omega)
      rw [mapM, hs]
      simp only
      rw [if_neg hm, if_pos (by omega), if_neg (by
        rw [show decide (s.nd.lvl ≤ 0) = false by simp; omega]
        simp; intro h; rw [h] at hkl; simp at hkl), show (false || decide (s.nd.lvl ≤ 0)) = false by simp; omega]
      have hfk : firstKid A ((first, []) :: r) = s.nd.kids.getD 0 0 := by show (opNd A first).kids.getD 0 0 = _; rw [opNd_get hs]
      rw [hfk] at h3
      simp only [List.flatten_cons, List.cons_append, List.length_cons, List.length_append] at hf
      obtain ⟨c, k1, k2, k3⟩ := map_tree hmay f (level - 1) _ _ ts' (met ++ [first]) out h3 (by omega) (by omega) (by
        simp only [List.flatten_cons, List.cons_append, List.map_cons, List.map_append] at hnd
        rw [show met ++ first :: (List.map Prod.fst r ++ List.map Prod.fst ts'.flatten) = (met ++ [first]) ++ (List.map Prod.fst r ++ List.map Prod.fst ts'.flatten) by simp] at hnd
        refine hnd.sublist ?_
        exact List.Sublist.append (List.Sublist.refl _) (List.sublist_append_right _ _))
      refine ⟨c, ?_, k2, k3⟩
      rw [show level.toNat = (level - 1).toNat + 1 by omega]
      exact k1
theorem map_of {lv : Int} {ls : List Ch} (h : TreeOk A a0 a1 a2 chk lv ls) : ∃ c, ls[lv.toNat]? = some c ∧ (∃ id, Chn A chk 0 id [] c) ∧ mapOf A = entsCh A c := by
  have hl := h.len
  obtain ⟨c, h1, h2, h3⟩ := map_tree h.may (A.sl.length + 1) lv A.root none ls [] [] h.trs h.lv0 (by omega) (by simpa using h.met.1)
  exact ⟨c, h1, h2, by unfold mapOf; simpa using h3⟩

theorem ents_keys (vals : List (List UInt8)) : ∀ (i : Nat) (ks : List (List UInt8)) (e : Ent), e ∈ entsM vals i ks → e.1 ∈ ks
  | _, [], e, h => by simp [entsM] at h
  | i, k :: ks, e, h => by
    rcases List.mem_cons.1 h with h | h
    · subst h; exact List.mem_cons_self ..
    · exact List.mem_cons_of_mem _ (ents_keys vals (i + 1) ks e h)
theorem ents_find (vals : List (List UInt8)) : ∀ (i : Nat) (ks : List (List UInt8)) (j : Nat), (∀ i', i' < j → ks[i']? ≠ some key) → ks[j]? = some key → (entsM vals i ks).find? (fun e => e.1 == key) = some (key, vals.getD (i + j) [])
  | _, [], j, _, h => by simp at h
  | i, k :: ks, 0, _, h => by
    simp at h; subst h
    simp [entsM]
  | i, k :: ks, j + 1, h1, h => by
    have hk : (k == key) = false := by
      have := h1 0 (by omega)
      simpa using this
    rw [entsM, List.find?_cons]
    simp only [hk]
    rw [ents_find vals (i + 1) ks j (fun i' hi => by have := h1 (i' + 1) (by omega); simpa using this) (by simpa using h)]
    congr 3; omega
theorem has_iff {ks : List (List UInt8)} : has ks key = true ↔ key ∈ ks := by
  constructor
  · intro h
    obtain ⟨j, hj⟩ := has_at h
    exact List.mem_of_getElem? hj
  · intro h
    unfold has
    rw [List.any_eq_true]
    exact ⟨key, h, by rw [cmp_self]; rfl⟩
/-- A node's own entries. -/
theorem ents_value {n : Nd} (hr : Rise n.keys) : (ents n).find? (fun e => e.1 == key) = if has n.keys key = true then some (key, n.vals.getD (below n.keys key) []) else none := by
  by_cases hh : has n.keys key = true
  · rw [if_pos hh]
    have h1 := at_below hr hh
    have := ents_find (key := key) n.vals 0 n.keys (below n.keys key) (fun i' hi h => by have := below_at hr h; omega) h1
    rw [Nat.zero_add] at this
    exact this
  · rw [if_neg hh]
    rw [List.find?_eq_none]
    intro e he h
    have h1 := ents_keys n.vals 0 n.keys e he
    have h2 : e.1 = key := by simpa using h
    rw [h2] at h1
    exact hh (has_iff.2 h1)
theorem rise_ge {x y : List UInt8} {l : List (List UInt8)} (h : Rise (x :: l)) (hy : y ∈ x :: l) : cmp x y ≤ 0 := by
  rcases List.mem_cons.1 hy with e | hy
  · subst e; rw [cmp_self]; exact Int.le_refl _
  · obtain ⟨i, hi⟩ := List.mem_iff_getElem?.1 hy
    exact Int.le_of_lt (rise_lt' h (i := 0) (j := i + 1) (by omega) rfl (by simpa using hi))
theorem low_keys {n : Nd} (hr : Rise n.keys) (hl : lowBad low n = false) : ∀ k ∈ n.keys, cmp low k ≤ 0 := fun k hk => by
  cases low with
  | nil => exact cmp_nil k
  | cons a low =>
    unfold lowBad at hl
    rw [show decide (0 < (a :: low).length) = true by simp, Bool.true_and, Bool.or_eq_false_iff] at hl
    have h1 := hl.1
    cases hks : n.keys with
    | nil => rw [hks] at hk; simp at hk
    | cons x l =>
      rw [hks] at hk hr h1
      have h2 : ¬ cmp x (a :: low) < 0 := by simpa [keyBelow] using h1
      have h3 := cmp_swap_ x (a :: low)
      exact cmp_le_le (b := x) (by omega) (rise_ge hr hk)
theorem low_high {n : Nd} (hh : 0 < n.high.length) (hl : lowBad low n = false) : cmp low n.high ≤ 0 := by
  cases low with
  | nil => exact cmp_nil _
  | cons a low =>
    unfold lowBad at hl
    rw [show decide (0 < (a :: low).length) = true by simp, Bool.true_and, Bool.or_eq_false_iff, show decide (0 < n.high.length) = true by simpa using hh, Bool.true_and] at hl
    have h2 : ¬ cmp n.high (a :: low) ≤ 0 := by simpa using hl.2
    have h3 := cmp_swap_ (a :: low) n.high
    omega
/-- In a chain the lows rise, and a node's keys are not below its low. -/
theorem chn_low (hmay : ∀ n, chk n = 0 → May n a0 a1 a2) (h : Chn A chk level id low c) : ∀ e ∈ c, cmp low e.2 ≤ 0 ∧ ∀ k ∈ (opNd A e.1).keys, cmp e.2 k ≤ 0 := by
  induction h with
  | last h1 h2 h3 h4 h5 =>
    intro e he
    simp at he; subst he
    simp only [opNd_get h1]
    exact ⟨by rw [cmp_self]; exact Int.le_refl _, low_keys (hmay _ h3).rise h4⟩
  | more h1 h2 h3 h4 h5 h6 ih =>
    intro e he
    have hm := hmay _ h3
    rcases List.mem_cons.1 he with he | he
    · subst he
      simp only [opNd_get h1]
      exact ⟨by rw [cmp_self]; exact Int.le_refl _, low_keys hm.rise h4⟩
    · obtain ⟨g1, g2⟩ := ih e he
      have hh : 0 < _ := Nat.pos_of_ne_zero (fun h => h5 (hm.high.1 h))
      exact ⟨cmp_le_le (low_high hh h4) g1, g2⟩
theorem entsCh_keys {c : Ch} {e : Ent} (h : e ∈ entsCh A c) : ∃ x ∈ c, e.1 ∈ (opNd A x.1).keys := by
  unfold entsCh at h
  obtain ⟨x, hx, h⟩ := List.mem_flatMap.1 h
  exact ⟨x, hx, ents_keys _ _ _ _ h⟩
theorem find_none {l : List Ent} (h : ∀ e ∈ l, e.1 ≠ key) : l.find? (fun e => e.1 == key) = none := by
  rw [List.find?_eq_none]
  intro e he hk
  exact h e he (by simpa using hk)
/-- What a chain has of a key is what the node has that the key belongs to. -/
theorem chn_find (hmay : ∀ n, chk n = 0 → May n a0 a1 a2) {M : Int} {nd : Nd} {lw : List UInt8} (hle : cmp lw key ≤ 0) (hnd : opNd A M = nd) (hb : beyond nd.high key = false) (h : Chn A chk level id low c) : (M, lw) ∈ c →
    (entsCh A c).find? (fun e => e.1 == key) = (ents nd).find? (fun e => e.1 == key) := by
  induction h with
  | @last id low s h1 h2 h3 h4 h5 =>
    intro he
    simp at he
    obtain ⟨rfl, rfl⟩ := he
    unfold entsCh
    simp [hnd]
  | @more id low s r h1 h2 h3 h4 h5 h6 ih =>
    intro he
    have hm := hmay _ h3
    have hh : 0 < s.nd.high.length := Nat.pos_of_ne_zero (fun h => h5 (hm.high.1 h))
    have hlow := chn_low hmay h6
    have hce : entsCh A ((id, low) :: r) = ents s.nd ++ entsCh A r := by unfold entsCh; rw [List.flatMap_cons, opNd_get h1]
    rw [hce, List.find?_append]
    rcases List.mem_cons.1 he with he | he
    · cases he
      rw [opNd_get h1] at hnd
      subst hnd
      have h7 : (entsCh A r).find? (fun e => e.1 == key) = none := find_none (fun e he hk => by
        obtain ⟨x, hx, hkx⟩ := entsCh_keys he
        obtain ⟨g1, g2⟩ := hlow x hx
        have g3 := cmp_le_le g1 (g2 _ hkx)
        rw [hk] at g3
        have g4 := cmp_swap_ key s.nd.high
        have : beyond s.nd.high key = true := beyond_iff.2 ⟨hh, by omega⟩
        rw [this] at hb; cases hb)
      rw [h7, Option.or_none]
    · have h7 : (ents s.nd).find? (fun e => e.1 == key) = none := find_none (fun e he2 hk => by
        have g1 := (hm.key _ (ents_keys _ _ _ _ he2)).2
        rw [hk] at g1
        have g2 := cmp_le_le (hlow _ he).1 hle
        have g4 := cmp_swap_ key s.nd.high
        have : beyond s.nd.high key = true := beyond_iff.2 ⟨hh, by omega⟩
        rw [this] at g1; cases g1)
      rw [h7, Option.none_or]
      exact ih he
end
end Go.Proofs.Ytbhohohgojcapaa

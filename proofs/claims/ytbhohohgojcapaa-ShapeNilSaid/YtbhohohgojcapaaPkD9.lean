import Derived.Test.YtbhohohgojcapaaPkD1
import Derived.Test.YtbhohohgojcapaaPkD0
namespace Go.Proofs.Ytbhohohgojcapaa
open Go.RowKit

abbrev Ent := List UInt8 × List UInt8
/-- A leaf's entries, from number i on. -/
def entsM (vals : List (List UInt8)) : Nat → List (List UInt8) → List Ent
  | _, [] => []
  | i, k :: ks => (k, vals.getD i []) :: entsM vals (i + 1) ks
def ents (n : Nd) : List Ent := entsM n.vals 0 n.keys
/-- The document's Map, from a node on. -/
def mapM (A : Ar) : Nat → Int → List Int → Bool → List Ent → List Ent
  | 0, _, _, _, out => out
  | f + 1, id, met, leaf, out => match A.get id with
    | none => out
    | some s =>
      if met.contains id = true then out
      else if 0 < s.nd.lvl then (if s.nd.kids.length = 0 ∨ (leaf || decide (s.nd.lvl ≤ 0)) = true then out else mapM A f (s.nd.kids.getD 0 0) (met ++ [id]) (leaf || decide (s.nd.lvl ≤ 0)) out)
      else mapM A f s.nd.right (met ++ [id]) (leaf || decide (s.nd.lvl ≤ 0)) (out ++ ents s.nd)
def mapOf (A : Ar) : List Ent := mapM A (A.sl.length + 1) A.root [] false []
def entsCh (A : Ar) (c : Ch) : List Ent := c.flatMap (fun e => ents (opNd A e.1))

section
variable {A : Ar} {chk : Nd → Int} {a0 a1 a2 level first id : Int} {low key : List UInt8} {c : Ch} {up : Option Ch} {ts : List Ch}
theorem opNd_get {s : Sl} (h : A.get id = some s) : opNd A id = s.nd := by unfold opNd; rw [h]
theorem map_chain : ∀ (f : Nat) (id : Int) (low : List UInt8) (c : Ch) (met : List Int) (leaf : Bool) (out : List Ent), Chn A chk 0 id low c → c.length < f → (met ++ c.map Prod.fst).Nodup → mapM A f id met leaf out = out ++ entsCh A c
  | 0, _, _, _, _, _, _, _, h, _ => by omega
  | f + 1, id, low, c, met, leaf, out, hc, hf, hnd => by
    obtain ⟨s, r, e, hs, hlv, _, _, hr⟩ := hc.at_
    subst e
    have hm : ¬ met.contains id = true := by
      intro h
      have h1 : id ∈ met := by simpa using h
      rw [List.nodup_append] at hnd
      exact hnd.2.2 id h1 id (by simp) rfl
    rw [mapM, hs]
    simp only
    rw [if_neg hm, if_neg (by omega)]
    have hce : entsCh A ((id, low) :: r) = ents s.nd ++ entsCh A r := by unfold entsCh; rw [List.flatMap_cons, opNd_get hs]
    rw [hce, ← List.append_assoc]
    rcases hr with ⟨hr, rfl⟩ | ⟨hr, hc'⟩
    · rw [hr]
      have h0 : A.get 0 = none := by unfold Ar.get; rw [if_neg (by decide)]
      have : ∀ f met leaf out, mapM A f 0 met leaf out = out := fun f met leaf out => by
        cases f with
        | zero => rfl
        | succ f => rw [mapM, h0]
      rw [this]
      unfold entsCh
      simp
    · exact map_chain f _ _ r _ _ _ hc' (by simp at hf; omega) (by simpa using hnd)
/-- The leaves' chain. -/
theorem map_tree (hmay : ∀ n, chk n = 0 → May n a0 a1 a2) : ∀ (f : Nat) (level first : Int) (up : Option Ch) (ts : List Ch) (met : List Int) (out : List Ent), Trs A chk level first up ts → 0 ≤ level → ts.flatten.length < f → (met ++ ts.flatten.map Prod.fst).Nodup →
    ∃ c, ts[level.toNat]? = some c ∧ (∃ id, Chn A chk 0 id [] c) ∧ mapM A f first met false out = out ++ entsCh A c
  | 0, _, _, _, _, _, _, _, _, h, _ => by omega
  | f + 1, level, first, up, ts, met, out, hT, h0, hf, hnd => by
    cases hT with
    | @base _ _ c h1 h2 =>
      refine ⟨_, rfl, ⟨_, h1⟩, map_chain (f + 1) _ _ _ _ _ _ h1 ?_ ?_⟩
      · simpa using hf
      · simpa using hnd
    | @step _ _ _ c ts' hl h1 h2 h3 =>
      obtain ⟨s, r, e, hs, hlv, hck, _, _⟩ := h1.at_
      subst e
      have hm : ¬ met.contains first = true := by
        intro h
        have h1 : first ∈ met := by simpa using h
        rw [List.nodup_append] at hnd
        exact hnd.2.2 first h1 first (by simp) rfl
      obtain ⟨_, _, _, hkl, _⟩ := (hmay _ hck).inner (by omega)
      rw [mapM, hs]
      simp only
      rw [if_neg hm, if_pos (by omega), if_neg (by
        rw [show decide (s.nd.lvl ≤ 0) = false by simp; omega]
        simp; intro h; rw [h] at hkl; simp at hkl), show (false || decide (s.nd.lvl ≤ 0)) = false by simp; omega]
      have hfk : firstKid A ((first, []) :: r) = s.nd.kids.getD 0 0 := by show (opNd A first).kids.getD 0 0 = _; rw [opNd_get hs]
      rw [hfk] at h3
      simp only [List.flatten_cons, List.cons_append, List.length_cons, List.length_append] at hf
      obtain ⟨c, k1, k2, k3⟩ := map_tree hmay f (level - 1) _ _ ts' (met ++ [first]) out h3 (by omega) (by omega) (by
        simp only [List.flatten_cons, List.cons_append, List.map_cons, List.map_append] at hnd
        rw [show met ++ first :: (List.map Prod.fst r ++ List.map Prod.fst ts'.flatten) = (met ++ [first]) ++ (List.map Prod.fst r ++ List.map Prod.fst ts'.flatten) by simp] at hnd
        refine hnd.sublist ?_
        exact List.Sublist.append (List.Sublist.refl _) (List.sublist_append_right _ _))
      refine ⟨c, ?_, k2, k3⟩
      rw [show level.toNat = (level - 1).toNat + 1 by omega]
      exact k1
theorem map_of {lv : Int} {ls : List Ch} (h : TreeOk A a0 a1 a2 chk lv ls) : ∃ c, ls[lv.toNat]? = some c ∧ (∃ id, Chn A chk 0 id [] c) ∧ mapOf A = entsCh A c := by
  have hl := h.len
  obtain ⟨c, h1, h2, h3⟩ := map_tree h.may (A.sl.length + 1) lv A.root none ls [] [] h.trs h.lv0 (by omega) (by simpa using h.met.1)
  exact ⟨c, h1, h2, by unfold mapOf; simpa using h3⟩

end
end Go.Proofs.Ytbhohohgojcapaa

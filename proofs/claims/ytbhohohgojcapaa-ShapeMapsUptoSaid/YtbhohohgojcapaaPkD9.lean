import Derived.Test.YtbhohohgojcapaaPkD1
import Derived.Test.YtbhohohgojcapaaPkD0
namespace Go.Proofs.Ytbhohohgojcapaa
open Go.RowKit

abbrev Ent := List UInt8 × List UInt8
/-- A leaf's entries, from number i on. -/
def entsM (vals : List (List UInt8)) : Nat → List (List UInt8) → List Ent
  | _, [] => []
  | i, k :: ks => (k, vals.getD i []) :: entsM vals (i + 1) ks
def ents (n : Nd) : List Ent := entsM n.vals 0 n.keys
/-- The document's Map, from a node on. -/
def mapM (A : Ar) : Nat → Int → List Int → Bool → List Ent → List Ent
  | 0, _, _, _, out => out
  | f + 1, id, met, leaf, out => match A.get id with
    | none => out
    | some s =>
      if met.contains id = true then out
      else if 0 < s.nd.lvl then (if s.nd.kids.length = 0 ∨ (leaf || decide (s.nd.lvl ≤ 0)) = true then out else mapM A f (s.nd.kids.getD 0 0) (met ++ [id]) (leaf || decide (s.nd.lvl ≤ 0)) out)
      else mapM A f s.nd.right (met ++ [id]) (leaf || decide (s.nd.lvl ≤ 0)) (out ++ ents s.nd)
def mapOf (A : Ar) : List Ent := mapM A (A.sl.length + 1) A.root [] false []
def entsCh (A : Ar) (c : Ch) : List Ent := c.flatMap (fun e => ents (opNd A e.1))

section
variable {A : Ar} {chk : Nd → Int} {a0 a1 a2 level first id : Int} {low key : List UInt8} {c : Ch} {up : Option Ch} {ts : List Ch}
theorem opNd_get {s : Sl} (h : A.get id = some s) : opNd A id = s.nd := by unfold opNd; rw [h]
theorem map_chain : ∀ (f : Nat) (id : Int) (low : List UInt8) (c : Ch) (met : List Int) (leaf : Bool) (out : List Ent), Chn A chk 0 id low c → c.length < f → (met ++ c.map Prod.fst).Nodup → mapM A f id met leaf out = out ++ entsCh A c
  | 0, _, _, _, _, _, _, _, h, _ => by omega
  | f + 1, id, low, c, met, leaf, out, hc, hf, hnd => by
    obtain ⟨s, r, e, hs, hlv, _, _, hr⟩ := hc.at_
    subst e
    have hm : ¬ met.contains id = true := by
      intro h
      have h1 : id ∈ met := by simpa using h
      rw [List.nodup_append] at hnd
      exact hnd.2.2 id h1 id (by simp) rfl
    rw [mapM, hs]
    simp only
    rw [if_neg hm, if_neg (by omega)]
    have hce : entsCh A ((id, low) :: r) = ents s.nd ++ entsCh A r := by unfold entsCh; rw [List.flatMap_cons, opNd_get hs]
    rw [hce, ← List.append_assoc]
    rcases hr with ⟨hr, rfl⟩ | ⟨hr, hc'⟩
    · rw [hr]
      have h0 : A.get 0 = none := by unfold Ar.get; rw [if_neg (by decide)]
      have : ∀ f met leaf out, mapM A f 0 met leaf out = out := fun f met leaf out => by
        cases f with
        | zero => rfl
        | succ f => rw [mapM, h0]
      rw [this]
      unfold entsCh
      simp
    · exact map_chain f _ _ r _ _ _ hc' (by simp at hf; omega) (by simpa using hnd)
/-- The leaves' chain. -/
theorem map_tree (hmay : ∀ n, chk n = 0 → May n a0 a1 a2) : ∀ (f : Nat) (level first : Int) (up : Option Ch) (ts : List Ch) (met : List Int) (out : List Ent), Trs A chk level first up ts → 0 ≤ level → ts.flatten.length < f → (met ++ ts.flatten.map Prod.fst).Nodup →
    ∃ c, ts[level.toNat]? = some c ∧ (∃ id, Chn A chk 0 id [] c) ∧ mapM A f first met false out = out ++ entsCh A c
  | 0, _, _, _, _, _, _, _, _, h, _ => by omega
  | f + 1, level, first, up, ts, met, out, hT, h0, hf, hnd => by
    cases hT with
    | @base _ _ c h1 h2 =>
      refine ⟨_, rfl, ⟨_, h1⟩, map_chain (f + 1) _ _ _ _ _ _ h1 ?_ ?_⟩
      · simpa using hf
      · simpa using hnd
    | @step _ _ _ c ts' hl h1 h2 h3 =>
      obtain ⟨s, r, e, hs, hlv, hck, _, _⟩ := h1.at_
      subst e
      have hm : ¬ met.contains first = true := by
        intro h
        have h1 : first ∈ met := by simpa using h
        rw [List.nodup_append] at hnd
        exact hnd.2.2 first h1 first (by simp) rfl
      obtain ⟨_, _, _, hkl, _⟩ := (hmay _ hck).inner (by omega)
      rw [mapM, hs]
      simp only
      rw [if_neg hm, if_pos (by omega), if_neg (by
        rw [show decide (s.nd.lvl ≤ 0) = false by simp; omega]
        simp; intro h; rw [h] at hkl; simp at hkl), show (false || decide (s.nd.lvl ≤ 0)) = false by simp; omega]
      have hfk : firstKid A ((first, []) :: r) = s.nd.kids.getD 0 0 := by show (opNd A first).kids.getD 0 0 = _; rw [opNd_get hs]
      rw [hfk] at h3
      simp only [List.flatten_cons, List.cons_append, List.length_cons, List.length_append] at hf
      obtain ⟨c, k1, k2, k3⟩ := map_tree hmay f (level - 1) _ _ ts' (met ++ [first]) out h3 (by omega) (by omega) (by
        simp only [List.flatten_cons, List.cons_append, List.map_cons, List.map_append] at hnd
        rw [show met ++ first :: (List.map Prod.fst r ++ List.map Prod.fst ts'.flatten) = (met ++ [first]) ++ (List.map Prod.fst r ++ List.map Prod.fst ts'.flatten) by simp] at hnd
        refine hnd.sublist ?_
        exact List.Sublist.append (List.Sublist.refl _) (List.sublist_append_right _ _))
      refine ⟨c, ?_, k2, k3⟩
      rw [show level.toNat = (level - 1).toNat + 1 by omega]
      exact k1
theorem map_of {lv : Int} {ls : List Ch} (h : TreeOk A a0 a1 a2 chk lv ls) : ∃ c, ls[lv.toNat]? = some c ∧ (∃ id, Chn A chk 0 id [] c) ∧ mapOf A = entsCh A c := by
  have hl := h.len
  obtain ⟨c, h1, h2, h3⟩ := map_tree h.may (A.sl.length + 1) lv A.root none ls [] [] h.trs h.lv0 (by omega) (by simpa using h.met.1)
  exact ⟨c, h1, h2, by unfold mapOf; simpa using h3⟩

end
end Go.Proofs.Ytbhohohgojcapaa

namespace Go.Proofs.Ytbhohohgojcapaa
open Go.RowKit

/-- How many keys a chain's nodes have. -/
def keysOf (A : Ar) (c : Ch) : Nat := (c.map (fun e => (opNd A e.1).keys.length)).sum
def nodesOf (ls : List Ch) : Nat := (ls.map List.length).sum
def checkOf (A : Ar) (ls : List Ch) (r : Rp) : Rp := if r.sound = false then r else ⟨true, 0, 0, ls.length, nodesOf ls, keysOf A (ls.getLastD [])⟩
def checkM (A : Ar) (a0 a1 a2 a3 a4 : Int) : Rp := checkOf A (levelsM A a0 a1 a2 a3 a4).1 (levelsM A a0 a1 a2 a3 a4).2
theorem levelsFrom_rp (A : Ar) (chk : Nd → Int) : ∀ (f : Nat) (level first : Int) (met : List Int) (out : List Ch), (levelsFrom A chk f level first met out).2.sound = true → (levelsFrom A chk f level first met out).2 = .ok
  | 0, _, _, _, _, _ => rfl
  | f + 1, level, first, met, out, h => by
    unfold levelsFrom at h ⊢
    simp only at h ⊢
    split
    · rename_i hc
      rw [if_pos hc] at h
      simp only at h
      rw [hc] at h; cases h
    · rename_i hc
      rw [if_neg hc] at h
      split
      · rename_i hk
        rw [if_pos hk] at h
        simp only at h
        rw [hk] at h; cases h
      · rename_i hk
        rw [if_neg hk] at h
        split
        · rfl
        · rename_i hl
          rw [if_neg hl] at h
          exact levelsFrom_rp A chk f _ _ _ _ h
theorem levelsM_rp {A : Ar} {a0 a1 a2 a3 a4 : Int} (h : (levelsM A a0 a1 a2 a3 a4).2.sound = true) : (levelsM A a0 a1 a2 a3 a4).2 = .ok ∧ confOk a0 a1 a2 a3 a4 = true := by
  unfold levelsM at h ⊢
  split
  · rename_i hc
    rw [if_pos hc] at h; cases h
  rename_i hc
  rw [if_neg hc] at h
  refine ⟨?_, by simpa using hc⟩
  cases hh : heldFrom 1 A.sl with
  | cons x l => simp only [hh] at h; cases h
  | nil =>
    simp only [hh] at h ⊢
    cases hg : A.get A.root with
    | none => simp only [hg] at h; cases h
    | some s =>
      simp only [hg] at h ⊢
      exact levelsFrom_rp _ _ _ _ _ _ _ h
theorem nodesOf_flat (ls : List Ch) : nodesOf ls = ls.flatten.length := by
  unfold nodesOf
  rw [List.length_flatten]
theorem nodesOf_take {ls : List Ch} {k : Nat} {c : Ch} (h : ls[k]? = some c) : nodesOf (ls.take (k + 1)) = nodesOf (ls.take k) + c.length := by
  unfold nodesOf
  rw [List.take_add_one, h]
  simp
theorem nodesOf_le (ls : List Ch) (k : Nat) : nodesOf (ls.take k) ≤ nodesOf ls := by
  have : nodesOf ls = nodesOf (ls.take k) + nodesOf (ls.drop k) := by
    unfold nodesOf
    rw [← List.sum_append, ← List.map_append, List.take_append_drop]
  omega
theorem keysOf_take {A : Ar} {c : Ch} {k : Nat} {e : Int × List UInt8} (h : c[k]? = some e) : keysOf A (c.take (k + 1)) = keysOf A (c.take k) + (opNd A e.1).keys.length := by
  unfold keysOf
  rw [List.take_add_one, h]
  simp
theorem keysOf_le {A : Ar} {n : Nat} : ∀ (c : Ch), (∀ e ∈ c, (opNd A e.1).keys.length ≤ n) → keysOf A c ≤ n * c.length
  | [], _ => by simp [keysOf]
  | e :: c, h => by
    have h1 := h e (List.mem_cons_self ..)
    have h2 := keysOf_le c (fun x hx => h x (List.mem_cons_of_mem _ hx))
    have h3 : keysOf A (e :: c) = (opNd A e.1).keys.length + keysOf A c := by unfold keysOf; simp
    rw [h3, List.length_cons, Nat.mul_add]
    omega
/-- The leaves' chain stands last; its nodes have few keys. -/
theorem trs_ne {A : Ar} {chk : Nd → Int} {level first : Int} {up : Option Ch} {ts : List Ch} (h : Trs A chk level first up ts) : ∀ c ∈ ts, c ≠ [] := by
  induction h with
  | base h1 _ =>
    intro c hc
    simp at hc; subst hc
    obtain ⟨_, _, e, _⟩ := h1.at_
    rw [e]; simp
  | step _ h1 _ _ ih =>
    intro c hc
    rcases List.mem_cons.1 hc with hc | hc
    · subst hc
      obtain ⟨_, _, e, _⟩ := h1.at_
      rw [e]; simp
    · exact ih c hc
theorem last_chain {A : Ar} {chk : Nd → Int} {a0 a1 a2 lv : Int} {ls : List Ch} (h : TreeOk A a0 a1 a2 chk lv ls) : ∃ c, ls[ls.length - 1]? = some c ∧ 0 < ls.length ∧ ls.getLastD [] = c ∧ (∀ e ∈ c, ∃ s, A.get e.1 = some s ∧ (s.nd.keys.length : Int) ≤ a1) ∧ c.length ≤ A.sl.length := by
  obtain ⟨c, h1, ⟨id, h2⟩, _⟩ := map_of h
  have hl := h.trs.length
  have h0 := h.lv0
  have hlt := (List.getElem?_eq_some_iff.1 h1).1
  have e : lv.toNat = ls.length - 1 := by omega
  rw [e] at h1
  refine ⟨c, h1, by omega, ?_, fun x hx => ?_, ?_⟩
  · rw [List.getLastD_eq_getLast?, List.getLast?_eq_getElem?, h1]; rfl
  · obtain ⟨c', g1, _, _⟩ := h2.mem hx
    obtain ⟨s, _, _, hs, hlv, hck, _⟩ := g1.at_
    exact ⟨s, hs, ((h.may _ hck).leaf hlv).2.1⟩
  · have := h.len
    have h3 := (List.sublist_flatten_of_mem (List.mem_of_getElem? h1)).length_le
    omega
end Go.Proofs.Ytbhohohgojcapaa

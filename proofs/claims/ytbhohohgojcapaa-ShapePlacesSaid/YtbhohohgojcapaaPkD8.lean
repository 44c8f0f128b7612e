import Derived.Test.YtbhohohgojcapaaPkD7
namespace Go.Proofs.Ytbhohohgojcapaa
open Go.RowKit

/-- How many keys a chain's nodes have. -/
def keysOf (A : Ar) (c : Ch) : Nat := (c.map (fun e => (opNd A e.1).keys.length)).sum
def nodesOf (ls : List Ch) : Nat := (ls.map List.length).sum
def checkOf (A : Ar) (ls : List Ch) (r : Rp) : Rp := if r.sound = false then r else ⟨true, 0, 0, ls.length, nodesOf ls, keysOf A (ls.getLastD [])⟩
def checkM (A : Ar) (a0 a1 a2 a3 a4 : Int) : Rp := checkOf A (levelsM A a0 a1 a2 a3 a4).1 (levelsM A a0 a1 a2 a3 a4).2
theorem checkM_sound (A : Ar) (a0 a1 a2 a3 a4 : Int) : (checkM A a0 a1 a2 a3 a4).sound = (levelsM A a0 a1 a2 a3 a4).2.sound := by
  unfold checkM checkOf
  split
  · rename_i h; rw [h]
  · rename_i h
    simp only [Bool.not_eq_false] at h
    rw [h]
theorem levelsFrom_rp (A : Ar) (chk : Nd → Int) : ∀ (f : Nat) (level first : Int) (met : List Int) (out : List Ch), (levelsFrom A chk f level first met out).2.sound = true → (levelsFrom A chk f level first met out).2 = .ok
  | 0, _, _, _, _, _ => rfl
  | f + 1, level, first, met, out, h => by
    unfold levelsFrom at h ⊢
    simp only at h ⊢
    split
    · rename_i hc
      rw [if_pos hc] at h
      simp only at h
      rw [hc] at h; cases h
    · rename_i hc
      rw [if_neg hc] at h
      split
      · rename_i hk
        rw [if_pos hk] at h
        simp only at h
        rw [hk] at h; cases h
      · rename_i hk
        rw [if_neg hk] at h
        split
        · rfl
        · rename_i hl
          rw [if_neg hl] at h
          exact levelsFrom_rp A chk f _ _ _ _ h
theorem levelsM_rp {A : Ar} {a0 a1 a2 a3 a4 : Int} (h : (levelsM A a0 a1 a2 a3 a4).2.sound = true) : (levelsM A a0 a1 a2 a3 a4).2 = .ok ∧ confOk a0 a1 a2 a3 a4 = true := by
  unfold levelsM at h ⊢
  split
  · rename_i hc
    rw [if_pos hc] at h; cases h
  rename_i hc
  rw [if_neg hc] at h
  refine ⟨?_, by simpa using hc⟩
  cases hh : heldFrom 1 A.sl with
  | cons x l => simp only [hh] at h; cases h
  | nil =>
    simp only [hh] at h ⊢
    cases hg : A.get A.root with
    | none => simp only [hg] at h; cases h
    | some s =>
      simp only [hg] at h ⊢
      exact levelsFrom_rp _ _ _ _ _ _ _ h
theorem nodesOf_flat (ls : List Ch) : nodesOf ls = ls.flatten.length := by
  unfold nodesOf
  rw [List.length_flatten]
theorem nodesOf_take {ls : List Ch} {k : Nat} {c : Ch} (h : ls[k]? = some c) : nodesOf (ls.take (k + 1)) = nodesOf (ls.take k) + c.length := by
  unfold nodesOf
  rw [List.take_add_one, h]
  simp
theorem nodesOf_le (ls : List Ch) (k : Nat) : nodesOf (ls.take k) ≤ nodesOf ls := by
  have : nodesOf ls = nodesOf (ls.take k) + nodesOf (ls.drop k) := by
    unfold nodesOf
    rw [← List.sum_append, ← List.map_append, List.take_append_drop]
  omega
theorem keysOf_take {A : Ar} {c : Ch} {k : Nat} {e : Int × List UInt8} (h : c[k]? = some e) : keysOf A (c.take (k + 1)) = keysOf A (c.take k) + (opNd A e.1).keys.length := by
  unfold keysOf
  rw [List.take_add_one, h]
  simp
theorem keysOf_le {A : Ar} {n : Nat} : ∀ (c : Ch), (∀ e ∈ c, (opNd A e.1).keys.length ≤ n) → keysOf A c ≤ n * c.length
  | [], _ => by simp [keysOf]
  | e :: c, h => by
    have h1 := h e (List.mem_cons_self ..)
    have h2 := keysOf_le c (fun x hx => h x (List.mem_cons_of_mem _ hx))
    have h3 : keysOf A (e :: c) = (opNd A e.1).keys.length + keysOf A c := by unfold keysOf; simp
    rw [h3, List.length_cons, Nat.mul_add]
    omega
/-- The leaves' chain stands last; its nodes have few keys. -/
theorem trs_ne {A : Ar} {chk : Nd → Int} {level first : Int} {up : Option Ch} {ts : List Ch} (h : Trs A chk level first up ts) : ∀ c ∈ ts, c ≠ [] := by
  induction h with
  | base h1 _ =>
    intro c hc
    simp at hc; subst hc
    obtain ⟨_, _, e, _⟩ := h1.at_
    rw [e]; simp
  | step _ h1 _ _ ih =>
    intro c hc
    rcases List.mem_cons.1 hc with hc | hc
    · subst hc
      obtain ⟨_, _, e, _⟩ := h1.at_
      rw [e]; simp
    · exact ih c hc
theorem last_chain {A : Ar} {chk : Nd → Int} {a0 a1 a2 lv : Int} {ls : List Ch} (h : TreeOk A a0 a1 a2 chk lv ls) : ∃ c, ls[ls.length - 1]? = some c ∧ 0 < ls.length ∧ ls.getLastD [] = c ∧ (∀ e ∈ c, ∃ s, A.get e.1 = some s ∧ (s.nd.keys.length : Int) ≤ a1) ∧ c.length ≤ A.sl.length := by
  obtain ⟨c, h1, ⟨id, h2⟩, _⟩ := map_of h
  have hl := h.trs.length
  have h0 := h.lv0
  have hlt := (List.getElem?_eq_some_iff.1 h1).1
  have e : lv.toNat = ls.length - 1 := by omega
  rw [e] at h1
  refine ⟨c, h1, by omega, ?_, fun x hx => ?_, ?_⟩
  · rw [List.getLastD_eq_getLast?, List.getLast?_eq_getElem?, h1]; rfl
  · obtain ⟨c', g1, _, _⟩ := h2.mem hx
    obtain ⟨s, _, _, hs, hlv, hck, _⟩ := g1.at_
    exact ⟨s, hs, ((h.may _ hck).leaf hlv).2.1⟩
  · have := h.len
    have h3 := (List.sublist_flatten_of_mem (List.mem_of_getElem? h1)).length_le
    omega
end Go.Proofs.Ytbhohohgojcapaa

import Derived.Test.YtbhohohgojcapaaGreatPkD3
import Derived.Test.YtbhohohgojcapaaGreatPkC6
namespace Go.Proofs.YtbhohohgojcapaaGreat
open Go.RowKit
structure Kn (A : Ar) (M : Mc) : Prop where
 there : M.there = true -> 1 <= M.id /\ M.nx = .done
 read : M.nx = .head \/ M.nx = .body \/ M.nx = .valid -> M.word % 2 = 0 /\ ∃ s, A.get M.id = some s /\ M.word <= s.word /\ (s.word = M.word -> (M.nx ≠ .head -> M.nd.lvl = s.nd.lvl /\ M.nd.high = s.nd.high /\ M.nd.right = s.nd.right) /\ (M.nx = .valid -> M.nd.keys = s.nd.keys /\ M.nd.vals = s.nd.vals /\ M.nd.kids = s.nd.kids))
section
variable {A A' : Ar} {M : Mc}
theorem Kn.new (A : Ar) (k : List UInt8) (l : Int) : Kn A (Mc.new k l) := ⟨λ h => by simp [Mc.new] at h, λ h => by rcases h with h | h | h <;> simp [Mc.new] at h⟩
theorem Kn.rel (h : Kn A M) (r : Rel A A') : Kn A' M := ⟨h.there, λ hx => by
 obtain ⟨h1, s, h2, h3, h4⟩ := h.read hx
 obtain ⟨s', r1, r2, r3⟩ := r _ s h2
 refine ⟨h1, s', r1, by omega, λ e => ?_⟩
 have e1 : s.word = M.word := by omega
 have e2 := r3 (by omega) (by omega)
 rw [e2]; exact h4 e1⟩
theorem opErr_zero {ix : Int} (h : opErr A ix = 0) : ∃ s, A.get ix = some s := by
 unfold opErr at h
 split at h
 ·cases h
 ·rename_i s hs; exact ⟨s, hs⟩
theorem Kn.not (h : Kn A M) (hn : M.nx ≠ .done) : M.there = false := by
 cases ht : M.there with
 | false => rfl
 | true => exact absurd (h.there ht).2 hn
theorem valid_cases (h : Kn A M) (hnx : M.nx = .valid) : (stepM A M).nx = .done /\ (stepM A M).there = false \/ (stepM A M).nx = .root /\ (stepM A M).there = false \/ (stepM A M).nx = .latch /\ (stepM A M).there = false \/
  ∃ s, A.get M.id = some s /\ s.word = M.word /\ M.nd = s.nd /\ M.word % 2 = 0 /\ beyond M.nd.high M.key = false /\ M.nd.lvl = M.level /\ stepM A M = { M with there := true, nx := .done } := by
 have hth := h.not (by rw [hnx]; exact λ e => by cases e)
 obtain ⟨g1, s, g2, g3, g4⟩ := h.read (by rw [hnx]; exact .inr (.inr rfl))
 unfold stepM
 rw [hnx]
 simp only
 rw [opErr_some g2, opWord_some g2, if_pos rfl]
 unfold decideM
 split
 ·exact .inr (.inl ⟨rfl, hth⟩)
 rename_i hw
 have hw' : s.word = M.word := by simpa using hw
 split
 ·exact .inl ⟨rfl, hth⟩
 split
 ·exact .inr (.inr (.inl ⟨rfl, hth⟩))
 rename_i hb
 split
 ·rename_i hl
  refine .inr (.inr (.inr ⟨s, g2, hw', ?_, g1, by simpa using hb, hl, rfl⟩))
  obtain ⟨k1, k2⟩ := g4 hw'
  obtain ⟨a1, a2, a3⟩ := k1 (by rw [hnx]; exact λ e => by cases e)
  obtain ⟨b1, b2, b3⟩ := k2 hnx
  cases hM : M.nd; cases hS : s.nd
  rw [hM, hS] at a1 a2 a3 b1 b2 b3
  simp only at a1 a2 a3 b1 b2 b3
  subst a1 a2 a3 b1 b2 b3
  rfl
 ·exact .inr (.inr (.inl ⟨rfl, hth⟩))
theorem Kn.step (h : Kn A M) : Kn A (stepM A M) := by
 rcases hnx : M.nx with _ | _ | _ | _ | _ | _
 ·have hth := h.not (by rw [hnx]; exact λ e => by cases e)
  unfold stepM; rw [hnx]
  exact ⟨λ ht => by simp [rootM, hth] at ht, λ hx => by simp [rootM] at hx⟩
 ·have hth := h.not (by rw [hnx]; exact λ e => by cases e)
  unfold stepM; rw [hnx]; simp only
  split
  ·rename_i he
   obtain ⟨s, hs⟩ := opErr_zero he
   refine ⟨λ ht => by simp [latchM, hth] at ht, λ hx => ?_⟩
   unfold latchM at hx ⊢
   rw [opWord_some hs] at hx ⊢
   simp only at hx ⊢
   split at hx
   ·rename_i hev
    exact ⟨hev, s, hs, Nat.le_refl _, λ _ => ⟨λ hn => absurd (by rw [if_pos hev]) hn, λ hv => by rw [if_pos hev] at hv; cases hv⟩⟩
   ·rw [hnx] at hx; rcases hx with hx | hx | hx <;> cases hx
  ·exact ⟨λ ht => by simp [latchM, hth] at ht, λ hx => by simp at hx⟩
 ·have hth := h.not (by rw [hnx]; exact λ e => by cases e)
  obtain ⟨g1, s, g2, g3, g4⟩ := h.read (by rw [hnx]; exact .inl rfl)
  unfold stepM; rw [hnx]; simp only
  rw [opErr_some g2, if_pos rfl]
  refine ⟨λ ht => by simp [headM, hth] at ht, λ hx => ?_⟩
  unfold headM
  rw [opNd_some g2]
  exact ⟨g1, s, g2, g3, λ _ => ⟨λ _ => ⟨rfl, rfl, rfl⟩, λ hv => by cases hv⟩⟩
 ·have hth := h.not (by rw [hnx]; exact λ e => by cases e)
  obtain ⟨g1, s, g2, g3, g4⟩ := h.read (by rw [hnx]; exact .inr (.inl rfl))
  unfold stepM; rw [hnx]; simp only
  rw [opErr_some g2, if_pos rfl]
  refine ⟨λ ht => by simp [bodyM, hth] at ht, λ hx => ?_⟩
  unfold bodyM
  rw [opNd_some g2]
  exact ⟨g1, s, g2, g3, λ e => ⟨λ _ => (g4 e).1 (by rw [hnx]; exact λ e => by cases e), λ _ => ⟨rfl, rfl, rfl⟩⟩⟩
 ·rcases valid_cases h hnx with ⟨e1, e2⟩ | ⟨e1, e2⟩ | ⟨e1, e2⟩ | ⟨s, hs, _, _, _, _, _, e⟩
  ·exact ⟨λ ht => (by rw [e2] at ht; cases ht), λ hx => (by rw [e1] at hx; rcases hx with hx | hx | hx <;> cases hx)⟩
  ·exact ⟨λ ht => (by rw [e2] at ht; cases ht), λ hx => (by rw [e1] at hx; rcases hx with hx | hx | hx <;> cases hx)⟩
  ·exact ⟨λ ht => (by rw [e2] at ht; cases ht), λ hx => (by rw [e1] at hx; rcases hx with hx | hx | hx <;> cases hx)⟩
  ·rw [e]
   exact ⟨λ _ => ⟨(get_le hs).1, rfl⟩, λ hx => by rcases hx with hx | hx | hx <;> cases hx⟩
 ·unfold stepM; rw [hnx]; exact h
theorem Kn.tells (h : Kn A M) (ho : ¬ 0 < M.outId) (ht : (stepM A M).nx = .done) (hi : (stepM A M).outId ≠ 0) :
  ∃ s, A.get (stepM A M).outId = some s /\ s.word = (stepM A M).outWord /\ s.nd = (stepM A M).outNd /\ (stepM A M).outWord % 2 = 0 /\ beyond (stepM A M).outNd.high M.key = false /\ (stepM A M).outNd.lvl = M.level := by
 have hth : (stepM A M).there = true := by
  cases hc : (stepM A M).there with
  | true => rfl
  | false => unfold Mc.outId at hi; rw [hc] at hi; exact absurd rfl hi
 rcases hnx : M.nx with _ | _ | _ | _ | _ | _
 ·unfold stepM at ht; rw [hnx] at ht; cases ht
 ·have h0 := h.not (by rw [hnx]; exact λ e => by cases e)
  unfold stepM at hth; rw [hnx] at hth; simp only at hth
  split at hth <;> (unfold latchM at hth; rw [h0] at hth; cases hth)
 ·have h0 := h.not (by rw [hnx]; exact λ e => by cases e)
  unfold stepM at hth; rw [hnx] at hth; simp only at hth
  split at hth <;> (unfold headM at hth; rw [h0] at hth; cases hth)
 ·have h0 := h.not (by rw [hnx]; exact λ e => by cases e)
  unfold stepM at hth; rw [hnx] at hth; simp only at hth
  split at hth <;> (unfold bodyM at hth; rw [h0] at hth; cases hth)
 ·rcases valid_cases h hnx with ⟨e1, e2⟩ | ⟨e1, e2⟩ | ⟨e1, e2⟩ | ⟨s, hs, hw, hn, hev, hb, hl, e⟩
  ·rw [e2] at hth; cases hth
  ·rw [e2] at hth; cases hth
  ·rw [e2] at hth; cases hth
  ·have e1 : (stepM A M).outId = M.id := by rw [e]; rfl
   have e2 : (stepM A M).outWord = M.word := by rw [e]; rfl
   have e3 : (stepM A M).outNd = M.nd := by rw [e]; rfl
   rw [e1, e2, e3]
   exact ⟨s, hs, hw, hn.symm, hev, hb, hl⟩
 ·unfold stepM at hth; rw [hnx] at hth
  exact absurd (by unfold Mc.outId; rw [hth]; exact Int.lt_of_lt_of_le (by decide) (h.there hth).1) ho
end
structure Mu where
 x : Nat
 S : Nat -> Prop
 M : Mc
 kv : Value
section
variable {w0 w w' : World} {b p q : Nat} {A B : Ar} {l : List Ob} {i : Nat} {d : Mu}
end
end Go.Proofs.YtbhohohgojcapaaGreat

namespace Go.Proofs.YtbhohohgojcapaaGreat
open Go.RowKit
def keysOf (A : Ar) (c : Ch) : Nat := (c.map (λ e => (opNd A e.1).keys.length)).sum
def nodesOf (ls : List Ch) : Nat := (ls.map List.length).sum
def checkOf (A : Ar) (ls : List Ch) (r : Rp) : Rp := if r.sound = false then r else ⟨true, 0, 0, ls.length, nodesOf ls, keysOf A (ls.getLastD [])⟩
def checkM (A : Ar) (a0 a1 a2 a3 a4 : Int) : Rp := checkOf A (levelsM A a0 a1 a2 a3 a4).1 (levelsM A a0 a1 a2 a3 a4).2
theorem checkM_sound (A : Ar) (a0 a1 a2 a3 a4 : Int) : (checkM A a0 a1 a2 a3 a4).sound = (levelsM A a0 a1 a2 a3 a4).2.sound := by
 unfold checkM checkOf
 split
 ·rename_i h; rw [h]
 ·rename_i h
  simp only [Bool.not_eq_false] at h
  rw [h]
theorem levelsFrom_rp (A : Ar) (chk : Nd -> Int) : ∀ (f : Nat) (level first : Int) (met : List Int) (out : List Ch), (levelsFrom A chk f level first met out).2.sound = true -> (levelsFrom A chk f level first met out).2 = .ok
 | 0, _, _, _, _, _ => rfl
 | f + 1, level, first, met, out, h => by
  unfold levelsFrom at h ⊢
  simp only at h ⊢
  split
  ·rename_i hc
   rw [if_pos hc] at h
   simp only at h
   rw [hc] at h; cases h
  ·rename_i hc
   rw [if_neg hc] at h
   split
   ·rename_i hk
    rw [if_pos hk] at h
    simp only at h
    rw [hk] at h; cases h
   ·rename_i hk
    rw [if_neg hk] at h
    split
    ·rfl
    ·rename_i hl
     rw [if_neg hl] at h
     exact levelsFrom_rp A chk f _ _ _ _ h
theorem levelsM_rp {A : Ar} {a0 a1 a2 a3 a4 : Int} (h : (levelsM A a0 a1 a2 a3 a4).2.sound = true) : (levelsM A a0 a1 a2 a3 a4).2 = .ok /\ confOk a0 a1 a2 a3 a4 = true := by
 unfold levelsM at h ⊢
 split
 ·rename_i hc
  rw [if_pos hc] at h; cases h
 rename_i hc
 rw [if_neg hc] at h
 refine ⟨?_, by simpa using hc⟩
 cases hh : heldFrom 1 A.sl with
 | cons x l => simp only [hh] at h; cases h
 | nil =>
  simp only [hh] at h ⊢
  cases hg : A.get A.root with
  | none => simp only [hg] at h; cases h
  | some s =>
   simp only [hg] at h ⊢
   exact levelsFrom_rp _ _ _ _ _ _ _ h
theorem nodesOf_flat (ls : List Ch) : nodesOf ls = ls.flatten.length := by
 unfold nodesOf
 rw [List.length_flatten]
theorem nodesOf_take {ls : List Ch} {k : Nat} {c : Ch} (h : ls[k]? = some c) : nodesOf (ls.take (k + 1)) = nodesOf (ls.take k) + c.length := by
 unfold nodesOf
 rw [List.take_add_one, h]
 simp
theorem nodesOf_le (ls : List Ch) (k : Nat) : nodesOf (ls.take k) <= nodesOf ls := by
 have : nodesOf ls = nodesOf (ls.take k) + nodesOf (ls.drop k) := by
  unfold nodesOf
  rw [<- List.sum_append, <- List.map_append, List.take_append_drop]
 omega
theorem keysOf_take {A : Ar} {c : Ch} {k : Nat} {e : Int × List UInt8} (h : c[k]? = some e) : keysOf A (c.take (k + 1)) = keysOf A (c.take k) + (opNd A e.1).keys.length := by
 unfold keysOf
 rw [List.take_add_one, h]
 simp
theorem keysOf_le {A : Ar} {n : Nat} : ∀ (c : Ch), (∀ e ∈ c, (opNd A e.1).keys.length <= n) -> keysOf A c <= n * c.length
 | [], _ => by simp [keysOf]
 | e :: c, h => by
  have h1 := h e (List.mem_cons_self ..)
  have h2 := keysOf_le c (λ x hx => h x (List.mem_cons_of_mem _ hx))
  have h3 : keysOf A (e :: c) = (opNd A e.1).keys.length + keysOf A c := by unfold keysOf; simp
  rw [h3, List.length_cons, Nat.mul_add]
  omega
theorem trs_ne {A : Ar} {chk : Nd -> Int} {level first : Int} {up : Option Ch} {ts : List Ch} (h : Trs A chk level first up ts) : ∀ c ∈ ts, c ≠ [] := by
 induction h with
 | base h1 _ =>
  intro c hc
  simp at hc; subst hc
  obtain ⟨_, _, e, _⟩ := h1.at_
  rw [e]; simp
 | step _ h1 _ _ ih =>
  intro c hc
  rcases List.mem_cons.1 hc with hc | hc
  ·subst hc
   obtain ⟨_, _, e, _⟩ := h1.at_
   rw [e]; simp
  ·exact ih c hc
theorem last_chain {A : Ar} {chk : Nd -> Int} {a0 a1 a2 lv : Int} {ls : List Ch} (h : TreeOk A a0 a1 a2 chk lv ls) : ∃ c, ls[ls.length - 1]? = some c /\ 0 < ls.length /\ ls.getLastD [] = c /\ (∀ e ∈ c, ∃ s, A.get e.1 = some s /\ (s.nd.keys.length : Int) <= a1) /\ c.length <= A.sl.length := by
 obtain ⟨c, h1, ⟨id, h2⟩, _⟩ := map_of h
 have hl := h.trs.length
 have h0 := h.lv0
 have hlt := (List.getElem?_eq_some_iff.1 h1).1
 have e : lv.toNat = ls.length - 1 := by omega
 rw [e] at h1
 refine ⟨c, h1, by omega, ?_, λ x hx => ?_, ?_⟩
 ·rw [List.getLastD_eq_getLast?, List.getLast?_eq_getElem?, h1]; rfl
 ·obtain ⟨c', g1, _, _⟩ := h2.mem hx
  obtain ⟨s, _, _, hs, hlv, hck, _⟩ := g1.at_
  exact ⟨s, hs, ((h.may _ hck).leaf hlv).2.1⟩
 ·have := h.len
  have h3 := (List.sublist_flatten_of_mem (List.mem_of_getElem? h1)).length_le
  omega
end Go.Proofs.YtbhohohgojcapaaGreat

/- DescentTrue's plain law: what a machine tells at the step at which it is through stands there at that step. And machines of the program as objects. -/
import Derived.Test.YtbhohohgojcapaaSeenM
import Derived.Test.YtbhohohgojcapaaFams
namespace Go.Proofs.Ytbhohohgojcapaa
open Go.RowKit

/-- What is so of a machine while words only rise. -/
structure Kn (A : Ar) (M : Mc) : Prop where
  there : M.there = true → 1 ≤ M.id ∧ M.nx = .done
  read : M.nx = .head ∨ M.nx = .body ∨ M.nx = .valid → M.word % 2 = 0 ∧ ∃ s, A.get M.id = some s ∧ M.word ≤ s.word ∧ (s.word = M.word → (M.nx ≠ .head → M.nd.lvl = s.nd.lvl ∧ M.nd.high = s.nd.high ∧ M.nd.right = s.nd.right) ∧ (M.nx = .valid → M.nd.keys = s.nd.keys ∧ M.nd.vals = s.nd.vals ∧ M.nd.kids = s.nd.kids))

section
variable {A A' : Ar} {M : Mc}
theorem Kn.new (A : Ar) (k : List UInt8) (l : Int) : Kn A (Mc.new k l) := ⟨fun h => by simp [Mc.new] at h, fun h => by rcases h with h | h | h <;> simp [Mc.new] at h⟩
theorem Kn.rel (h : Kn A M) (r : Rel A A') : Kn A' M := ⟨h.there, fun hx => by
  obtain ⟨h1, s, h2, h3, h4⟩ := h.read hx
  obtain ⟨s', r1, r2, r3⟩ := r _ s h2
  refine ⟨h1, s', r1, by omega, fun e => ?_⟩
  have e1 : s.word = M.word := by omega
  have e2 := r3 (by omega) (by omega)
  rw [e2]; exact h4 e1⟩
theorem opErr_zero {ix : Int} (h : opErr A ix = 0) : ∃ s, A.get ix = some s := by
  unfold opErr at h
  split at h
  · cases h
  · rename_i s hs; exact ⟨s, hs⟩
/-- A machine that is there has no step to do. -/
theorem Kn.not (h : Kn A M) (hn : M.nx ≠ .done) : M.there = false := by
  cases ht : M.there with
  | false => rfl
  | true => exact absurd (h.there ht).2 hn
/-- VALID: all that may come of it. -/
theorem valid_cases (h : Kn A M) (hnx : M.nx = .valid) : (stepM A M).nx = .done ∧ (stepM A M).there = false ∨ (stepM A M).nx = .root ∧ (stepM A M).there = false ∨ (stepM A M).nx = .latch ∧ (stepM A M).there = false ∨
    ∃ s, A.get M.id = some s ∧ s.word = M.word ∧ M.nd = s.nd ∧ M.word % 2 = 0 ∧ beyond M.nd.high M.key = false ∧ M.nd.lvl = M.level ∧ stepM A M = { M with there := true, nx := .done } := by
  have hth := h.not (by rw [hnx]; exact fun e => by cases e)
  obtain ⟨g1, s, g2, g3, g4⟩ := h.read (by rw [hnx]; exact .inr (.inr rfl))
  unfold stepM
  rw [hnx]
  simp only
  rw [opErr_some g2, opWord_some g2, if_pos rfl]
  unfold decideM
  split
  · exact .inr (.inl ⟨rfl, hth⟩)
  rename_i hw
  have hw' : s.word = M.word := by simpa using hw
  split
  · exact .inl ⟨rfl, hth⟩
  split
  · exact .inr (.inr (.inl ⟨rfl, hth⟩))
  rename_i hb
  split
  · rename_i hl
    refine .inr (.inr (.inr ⟨s, g2, hw', ?_, g1, by simpa using hb, hl, rfl⟩))
    obtain ⟨k1, k2⟩ := g4 hw'
    obtain ⟨a1, a2, a3⟩ := k1 (by rw [hnx]; exact fun e => by cases e)
    obtain ⟨b1, b2, b3⟩ := k2 hnx
    cases hM : M.nd; cases hS : s.nd
    rw [hM, hS] at a1 a2 a3 b1 b2 b3
    simp only at a1 a2 a3 b1 b2 b3
    subst a1 a2 a3 b1 b2 b3
    rfl
  · exact .inr (.inr (.inl ⟨rfl, hth⟩))
theorem Kn.step (h : Kn A M) : Kn A (stepM A M) := by
  rcases hnx : M.nx with _ | _ | _ | _ | _ | _
  · have hth := h.not (by rw [hnx]; exact fun e => by cases e)
    unfold stepM; rw [hnx]
    exact ⟨fun ht => by simp [rootM, hth] at ht, fun hx => by simp [rootM] at hx⟩
  · have hth := h.not (by rw [hnx]; exact fun e => by cases e)
    unfold stepM; rw [hnx]; simp only
    split
    · rename_i he
      obtain ⟨s, hs⟩ := opErr_zero he
      refine ⟨fun ht => by simp [latchM, hth] at ht, fun hx => ?_⟩
      unfold latchM at hx ⊢
      rw [opWord_some hs] at hx ⊢
      simp only at hx ⊢
      split at hx
      · rename_i hev
        exact ⟨hev, s, hs, Nat.le_refl _, fun _ => ⟨fun hn => absurd (by rw [if_pos hev]) hn, fun hv => by rw [if_pos hev] at hv; cases hv⟩⟩
      · rw [hnx] at hx; rcases hx with hx | hx | hx <;> cases hx
    · exact ⟨fun ht => by simp [latchM, hth] at ht, fun hx => by simp at hx⟩
  · have hth := h.not (by rw [hnx]; exact fun e => by cases e)
    obtain ⟨g1, s, g2, g3, g4⟩ := h.read (by rw [hnx]; exact .inl rfl)
    unfold stepM; rw [hnx]; simp only
    rw [opErr_some g2, if_pos rfl]
    refine ⟨fun ht => by simp [headM, hth] at ht, fun hx => ?_⟩
    unfold headM
    rw [opNd_some g2]
    exact ⟨g1, s, g2, g3, fun _ => ⟨fun _ => ⟨rfl, rfl, rfl⟩, fun hv => by cases hv⟩⟩
  · have hth := h.not (by rw [hnx]; exact fun e => by cases e)
    obtain ⟨g1, s, g2, g3, g4⟩ := h.read (by rw [hnx]; exact .inr (.inl rfl))
    unfold stepM; rw [hnx]; simp only
    rw [opErr_some g2, if_pos rfl]
    refine ⟨fun ht => by simp [bodyM, hth] at ht, fun hx => ?_⟩
    unfold bodyM
    rw [opNd_some g2]
    exact ⟨g1, s, g2, g3, fun e => ⟨fun _ => (g4 e).1 (by rw [hnx]; exact fun e => by cases e), fun _ => ⟨rfl, rfl, rfl⟩⟩⟩
  · rcases valid_cases h hnx with ⟨e1, e2⟩ | ⟨e1, e2⟩ | ⟨e1, e2⟩ | ⟨s, hs, _, _, _, _, _, e⟩
    · exact ⟨fun ht => (by rw [e2] at ht; cases ht), fun hx => (by rw [e1] at hx; rcases hx with hx | hx | hx <;> cases hx)⟩
    · exact ⟨fun ht => (by rw [e2] at ht; cases ht), fun hx => (by rw [e1] at hx; rcases hx with hx | hx | hx <;> cases hx)⟩
    · exact ⟨fun ht => (by rw [e2] at ht; cases ht), fun hx => (by rw [e1] at hx; rcases hx with hx | hx | hx <;> cases hx)⟩
    · rw [e]
      exact ⟨fun _ => ⟨(get_le hs).1, rfl⟩, fun hx => by rcases hx with hx | hx | hx <;> cases hx⟩
  · unfold stepM; rw [hnx]; exact h
/-- What a machine tells at the step at which it is through stands there. -/
theorem Kn.tells (h : Kn A M) (ho : ¬ 0 < M.outId) (ht : (stepM A M).nx = .done) (hi : (stepM A M).outId ≠ 0) :
    ∃ s, A.get (stepM A M).outId = some s ∧ s.word = (stepM A M).outWord ∧ s.nd = (stepM A M).outNd ∧ (stepM A M).outWord % 2 = 0 ∧ beyond (stepM A M).outNd.high M.key = false ∧ (stepM A M).outNd.lvl = M.level := by
  have hth : (stepM A M).there = true := by
    cases hc : (stepM A M).there with
    | true => rfl
    | false => unfold Mc.outId at hi; rw [hc] at hi; exact absurd rfl hi
  rcases hnx : M.nx with _ | _ | _ | _ | _ | _
  · unfold stepM at ht; rw [hnx] at ht; cases ht
  · have h0 := h.not (by rw [hnx]; exact fun e => by cases e)
    unfold stepM at hth; rw [hnx] at hth; simp only at hth
    split at hth <;> (unfold latchM at hth; rw [h0] at hth; cases hth)
  · have h0 := h.not (by rw [hnx]; exact fun e => by cases e)
    unfold stepM at hth; rw [hnx] at hth; simp only at hth
    split at hth <;> (unfold headM at hth; rw [h0] at hth; cases hth)
  · have h0 := h.not (by rw [hnx]; exact fun e => by cases e)
    unfold stepM at hth; rw [hnx] at hth; simp only at hth
    split at hth <;> (unfold bodyM at hth; rw [h0] at hth; cases hth)
  · rcases valid_cases h hnx with ⟨e1, e2⟩ | ⟨e1, e2⟩ | ⟨e1, e2⟩ | ⟨s, hs, hw, hn, hev, hb, hl, e⟩
    · rw [e2] at hth; cases hth
    · rw [e2] at hth; cases hth
    · rw [e2] at hth; cases hth
    · have e1 : (stepM A M).outId = M.id := by rw [e]; rfl
      have e2 : (stepM A M).outWord = M.word := by rw [e]; rfl
      have e3 : (stepM A M).outNd = M.nd := by rw [e]; rfl
      rw [e1, e2, e3]
      exact ⟨s, hs, hw, hn.symm, hev, hb, hl⟩
  · unfold stepM at hth; rw [hnx] at hth
    exact absurd (by unfold Mc.outId; rw [hth]; exact Int.lt_of_lt_of_le (by decide) (h.there hth).1) ho
theorem stepM_key (A : Ar) (M : Mc) : (stepM A M).key = M.key ∧ (stepM A M).level = M.level := by
  unfold stepM
  split
  · exact ⟨rfl, rfl⟩
  · exact ⟨rfl, rfl⟩
  · split <;> exact ⟨rfl, rfl⟩
  · split <;> exact ⟨rfl, rfl⟩
  · split <;> exact ⟨rfl, rfl⟩
  · split
    · unfold decideM
      split
      · exact ⟨rfl, rfl⟩
      split
      · exact ⟨rfl, rfl⟩
      split
      · exact ⟨rfl, rfl⟩
      split <;> exact ⟨rfl, rfl⟩
    · exact ⟨rfl, rfl⟩
end

/-- A machine of the program; the key that the law remembers. -/
structure Mu where
  x : Nat
  S : Nat → Prop
  M : Mc
  kv : Value
def muOb (p : Nat) (d : Mu) : Ob where
  P := fun w => MX w d.x p d.S d.M ∧ ¬ d.S d.x
  F := fun b => b = d.x ∨ d.S b
  W := fun b => b = d.x
  fr := fun _ _ _ h k hd => ⟨h.1.keeps k (hd _ h.1.next.2.2 (.inl rfl)) (fun x hx hs => hd x hx (.inr hs)), h.2⟩
/-- A block that is written. -/
def muBlk (b : Nat) (t : TypeId) (cs : Array Value) : Ob where
  P := fun w => Blk w b t cs
  F := fun x => x = b
  W := fun x => x = b
  fr := fun _ _ _ h k hd => h.keeps k (hd b h.lt rfl)

section
variable {w0 w w' : World} {b p q : Nat} {A B : Ar} {l : List Ob} {i : Nat} {d : Mu}
theorem Su.stepMu (h : Su w0 w b p q A B l) (hi : l[i]? = some (muOb p d)) (hlow : d.M.low) : Calls Try.prog 15 #[pV d.x] w fun e w' => e = .returned (.bool (decide ((stepM A d.M).nx = .done))) ∧ Keeps (fun x => x = d.x) w w' ∧ ∃ S, Su w0 w' b p q A B (l.set i (muOb p { d with M := stepM A d.M, S := S })) := by
  have hd := h.get hi
  obtain ⟨hx, n1⟩ := hd
  have h0 := h
  obtain ⟨G, hJ, hF, _⟩ := h
  have hoff : ¬ G d.x := hF.off i _ hi _ (.inl rfl)
  refine (stepX_ hJ hoff hx n1 hlow).mono ?_
  rintro e w' ⟨rfl, ⟨S', hX, hsub⟩, hk⟩
  have l1 := hx.next.2.2
  refine ⟨rfl, hk, S', h0.set hi hk (fun x _ e => e) ⟨hX, fun hs => ?_⟩ (fun x hx => ?_) (fun x hx => .inl hx) (fun x hx => .inl hx)⟩
  · rcases hsub _ hs with h1 | h1
    · exact n1 h1
    · have := h1.1; simp only at this; omega
  · rcases hx with h1 | h1
    · exact .inl (.inl h1)
    · rcases hsub _ h1 with h2 | h2
      · exact .inl (.inr h2)
      · exact .inr h2
theorem Su.muPut {g : Nat} {t : TypeId} {cs : Array Value} {o : Ob} (h : Su w0 w b p q A B l) (hi : l[i]? = some o) (k : Keeps Nob w w') (hb : Blk w' g t cs) (hg : w.heap.size ≤ g) : Su w0 w' b p q A B (l.set i (muBlk g t cs)) :=
  h.put hi k hb (fun x hx => by rw [show x = g from hx]; exact ⟨hg, hb.lt⟩) (fun x hx => hx)
theorem Su.muSet {g : Nat} {t : TypeId} {cs : Array Value} (h : Su w0 w b p q A B l) (hi : l[i]? = some (muBlk g t cs)) (j : Nat) (u : Value) : Su w0 (w.setCell ⟨g, j, none⟩ u) b p q A B (l.set i (muBlk g t (cs.setIfInBounds j u))) :=
  h.set (N := fun x => x = g) hi (Keeps.setCell w (p := ⟨g, j, none⟩) (M := fun x => x = g) rfl _) (fun x _ e => e) ((h.get hi : Blk w g t cs).set_ j u) (fun x hx => .inl hx) (fun x hx => .inl hx) (fun x hx => hx)
end
end Go.Proofs.Ytbhohohgojcapaa

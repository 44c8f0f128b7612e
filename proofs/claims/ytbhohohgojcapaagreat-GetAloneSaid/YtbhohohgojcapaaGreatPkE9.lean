import Derived.Test.YtbhohohgojcapaaGreatPkE0
namespace Go.Proofs.YtbhohohgojcapaaGreat
open Go.RowKit
structure Alone (A : Ar) (key : List UInt8) (S : Nat) (g : Nat -> Gc) (r : Gr) : Prop where
 start : g 0 = Gc.new key
 most : 1 <= S /\ S <= 1 + 4 * A.sl.length
 step : ∀ n, n < S -> (g n).res = none /\ stepG A (g n) = ((decide (n + 1 = S), decide (n + 1 = S)), g (n + 1)) /\ (g n).D.le n
 fin : (g S).res = some r /\ (g S).D.le S
 good : keyFit key = true -> r.err = 0 /\ (r.value, r.there) = valueM (mapOf A) key
 bad : keyFit key = false -> S = 1 /\ r = ⟨[], false, 3⟩
section
variable {A : Ar} {chk : Nd -> Int} {a0 a1 a2 lv : Int} {ls : List Ch} {key : List UInt8}
theorem stepM_key2 (A : Ar) : ∀ (n : Nat) (M : Mc), (runM A n M).key = M.key
 | 0, _ => rfl
 | n + 1, M => by rw [runM_snoc, stepM_key, stepM_key2 A n M]
theorem runM_le2 (A : Ar) {M : Mc} (h : M.le 0) : ∀ n, (runM A n M).le n
 | 0 => h
 | n + 1 => by rw [runM_snoc]; exact (runM_le2 A h n).step A
theorem get_alone (h : TreeOk A a0 a1 a2 chk lv ls) : ∃ S g r, Alone A key S g r := by
 rcases hk : keyFit key with _ | _
 ·refine ⟨1, λ n => if n = 0 then Gc.new key else { Gc.new key with res := some ⟨[], false, 3⟩ }, ⟨[], false, 3⟩, rfl, ⟨Nat.le_refl _, by omega⟩, λ n hn => ?_, ⟨rfl, Mc.le.new _ _ _⟩, λ h => by rw [hk] at h; (cases h), λ _ => ⟨rfl, rfl⟩⟩
  obtain rfl : n = 0 := by omega
  refine ⟨rfl, ?_, Mc.le.new _ _ _⟩
  show (if keyFit key = false then ((true, true), ({ Gc.new key with res := some ⟨[], false, 3⟩ } : Gc)) else _) = _
  rw [if_pos hk]; rfl
 ·have hv := h.lv0
  obtain ⟨S, hS, hdone, ⟨hag, hth, hin⟩, hbef⟩ := (alone_ (key := key) (level := 0) h (Int.le_refl _) (by omega)).fin
  have hin := hin hv
  obtain ⟨ch, hch, hE⟩ := hin
  have hS1 : 1 <= S := by
   rcases Nat.eq_zero_or_pos S with h0 | h0
   ·subst h0; exact absurd hdone (λ h => nomatch h)
   ·exact h0
  have hkey : ∀ n, (runM A n (Mc.new key 0)).key = key := λ n => by rw [stepM_key2]; rfl
  have hid : 1 <= (runM A S (Mc.new key 0)).id := (get_le hE.slot).1
  have hout : (runM A S (Mc.new key 0)).outId ≠ 0 := by unfold Mc.outId; rw [hE.there, if_pos rfl]; omega
  refine ⟨S, λ n => if n < S then ⟨runM A n (Mc.new key 0), none⟩ else ⟨runM A S (Mc.new key 0), some (endG (runM A S (Mc.new key 0)))⟩, endG (runM A S (Mc.new key 0)), ?_, ⟨hS1, hS⟩, λ n hn => ?_, ⟨?_, ?_⟩, λ _ => ?_, λ h => by rw [hk] at h; (cases h)⟩
  ·show (if 0 < S then _ else _) = _
   rw [if_pos (by omega)]; rfl
  ·simp only [if_pos hn]
   refine ⟨by first | rfl | trivial, ?_, runM_le2 A (Mc.le.new _ _ _) n⟩
   unfold stepG
   simp only
   rw [if_neg (by rw [hkey, hk]; decide), <- runM_snoc]
   by_cases he : n + 1 = S
   ·rw [if_neg (by omega : ¬ n + 1 < S), he, if_pos hdone]
    simp [hout]
   ·have hlt : n + 1 < S := by omega
    rw [if_pos hlt, if_neg (hbef (n + 1) hlt).1]
    simp [he]
  ·simp
  ·simp only [Nat.lt_irrefl, if_false]
   exact runM_le2 A (Mc.le.new _ _ _) S
  ·have hm := map_value h ⟨ch, hch, hE⟩
   unfold endG
   rw [if_neg hout]
   refine ⟨rfl, ?_⟩
   rw [hm, hkey]
   unfold Mc.outNd
   rw [hE.there, if_pos rfl]
theorem map_few (h : TreeOk A a0 a1 a2 chk lv ls) (ha : a1 <= 64) (hl : A.sl.length <= 65536) : (mapOf A).length <= 4000000000000 := by
 obtain ⟨c, h1, ⟨id, h2⟩, h3⟩ := map_of h
 rw [h3]
 have hlen : ∀ (n : Nat) (c : Ch), (∀ e ∈ c, (opNd A e.1).keys.length <= n) -> (entsCh A c).length <= n * c.length := λ n c => by
  induction c with
  | nil => intro _; simp [entsCh]
  | cons e c ih =>
   intro hh
   have g1 := hh e (List.mem_cons_self ..)
   have g2 := ih (λ x hx => hh x (List.mem_cons_of_mem _ hx))
   have g3 : (entsCh A (e :: c)).length = (ents (opNd A e.1)).length + (entsCh A c).length := by unfold entsCh; simp
   have g4 : ∀ (vals : List (List UInt8)) (i : Nat) (ks : List (List UInt8)), (entsM vals i ks).length = ks.length := λ vals i ks => by
    induction ks generalizing i with
    | nil => rfl
    | cons k ks ih => simp only [entsM, List.length_cons, ih]
   have g5 : (ents (opNd A e.1)).length = (opNd A e.1).keys.length := g4 _ _ _
   rw [g3, g5, List.length_cons, Nat.mul_add]
   omega
 have g := hlen 64 c (λ e he => by
  obtain ⟨c', k1, _, _⟩ := h2.mem he
  obtain ⟨s, _, _, hs, hlv, hck, _⟩ := k1.at_
  have := ((h.may _ hck).leaf hlv).2.1
  rw [opNd_get hs]; omega)
 have hcl : c.length <= A.sl.length := by
  have := h.len
  have h3 := (List.sublist_flatten_of_mem (List.mem_of_getElem? h1)).length_le
  omega
 have : 64 * c.length <= 64 * 65536 := Nat.mul_le_mul_left _ (by omega)
 omega
end
end Go.Proofs.YtbhohohgojcapaaGreat

import Derived.Test.YtbhohohgojcapaaGreatPkD4
import Derived.Test.YtbhohohgojcapaaGreatPkA6
namespace Go.Proofs.YtbhohohgojcapaaGreat
open Go.RowKit Go.Maps
def headOk (n : Nd) (nodes : Int) : Bool := decide (0 <= n.lvl /\ n.lvl <= 32) && (decide (0 <= n.right /\ n.right <= nodes) && ((((n.high.length : Int) == 0) == (n.right == 0)) && decide ((n.high.length : Int) <= 64)))
def keysOk (n : Nd) : Bool := rises n.keys && !(n.keys.any (keyBad n.high))
def formOk (n : Nd) (a0 a1 a2 : Int) : Bool := if n.lvl = 0 then leafOk n a1 else innerOk n a0 a2
def mayE (n : Nd) (a0 a1 a2 a3 a4 : Int) : Int := if confOk a0 a1 a2 a3 a4 then (if headOk n a0 && (keysOk n && formOk n a0 a1 a2) then 0 else 91) else 1
section
variable {S T : Nat -> Prop} {w : World} {c0 c1 c2 c3 c4 c5 : Value} {n : Nd}
end
end Go.Proofs.YtbhohohgojcapaaGreat

namespace Go.Proofs.YtbhohohgojcapaaGreat
open Go.RowKit
structure Rp where
 sound : Bool
 node : Int
 err : Int
 levels : Int
 nodes : Int
 entries : Int
 deriving DecidableEq
def Rp.wrong (id e : Int) : Rp := ⟨false, id, e, 0, 0, 0⟩
def Rp.ok : Rp := ⟨true, 0, 0, 0, 0, 0⟩
abbrev Ch := List (Int × List UInt8)
def keyBelow (low : List UInt8) : List (List UInt8) -> Bool
 | [] => false
 | k :: _ => decide (cmp k low < 0)
def lowBad (low : List UInt8) (n : Nd) : Bool :=
 decide (0 < low.length) && (keyBelow low n.keys || (decide (0 < n.high.length) && decide (cmp n.high low <= 0)))
def chainM (A : Ar) (chk : Nd -> Int) (level : Int) : Nat -> Int -> List UInt8 -> List Int -> Ch -> Ch × List Int × Rp
 | 0, _, _, met, acc => (acc, met, .ok)
 | f + 1, id, low, met, acc => match A.get id with
  | none => (acc, met, .wrong id 101)
  | some s =>
   if met.contains id = true then (acc, met, .wrong id 112)
   else if s.nd.lvl ≠ level then (acc, met, .wrong id 111)
   else if chk s.nd ≠ 0 then (acc, met, .wrong id (chk s.nd))
   else if lowBad low s.nd = true then (acc, met, .wrong id 112)
   else if s.nd.right = 0 then (acc ++ [(id, low)], met ++ [id], .ok)
   else chainM A chk level f s.nd.right s.nd.high (met ++ [id]) (acc ++ [(id, low)])
def kidOk (down : Ch) (kid : Int) (want : List UInt8) : Bool := down.any (λ d => d.1 == kid && d.2 == want)
def wantLow (low : List UInt8) (n : Nd) (k : Nat) : List UInt8 := if k = 0 then low else n.keys.getD (k - 1) []
def nodeKids (down : Ch) (low : List UInt8) (n : Nd) : Bool := (List.range n.kids.length).all (λ k => kidOk down (n.kids.getD k 0) (wantLow low n k))
def kidsM (A : Ar) (down : Ch) : Ch -> Rp
 | [] => .ok
 | (id, low) :: r => if nodeKids down low (opNd A id) = true then kidsM A down r else .wrong id 113
def firstKid (A : Ar) (l : Ch) : Int := match l with
 | [] => 0
 | e :: _ => (opNd A e.1).kids.getD 0 0
def kidsLast (A : Ar) (out : List Ch) (l : Ch) : Rp := match out.getLast? with
 | none => .ok
 | some up => kidsM A l up
def levelsFrom (A : Ar) (chk : Nd -> Int) : Nat -> Int -> Int -> List Int -> List Ch -> List Ch × Rp
 | 0, _, _, _, out => (out, .ok)
 | f + 1, level, first, met, out =>
  let c := chainM A chk level (A.sl.length + 1 - met.length) first [] met []
  if c.2.2.sound = false then ([], c.2.2)
  else if (kidsLast A out c.1).sound = false then ([], kidsLast A out c.1)
  else if level = 0 then (out ++ [c.1], .ok)
  else levelsFrom A chk f (level - 1) (firstKid A c.1) c.2.1 (out ++ [c.1])
def chkM (a0 a1 a2 a3 a4 : Int) (n : Nd) : Int := mayE n a0 a1 a2 a3 a4
def levelsM (A : Ar) (a0 a1 a2 a3 a4 : Int) : List Ch × Rp :=
 if confOk a0 a1 a2 a3 a4 = false then ([], .wrong 0 1)
 else match heldFrom 1 A.sl with
 | h :: _ => ([], .wrong h 102)
 | [] => match A.get A.root with
  | none => ([], .wrong A.root 101)
  | some s => levelsFrom A (chkM a0 a1 a2 a3 a4) (s.nd.lvl.toNat + 1) s.nd.lvl A.root [] []
def MetA (A : Ar) (met : List Int) : Prop := met.Nodup /\ ∀ x ∈ met, 1 <= x /\ x <= A.sl.length
section
variable {A : Ar} {chk : Nd -> Int} {level id : Int} {low : List UInt8} {met : List Int} {acc l : Ch} {s : Sl}
theorem nodup_le {α : Type} [BEq α] [LawfulBEq α] : ∀ (l m : List α), l.Nodup -> (∀ x ∈ l, x ∈ m) -> l.length <= m.length
 | [], _, _, _ => Nat.zero_le _
 | x :: l, m, hn, hs => by
  have hx := hs x (List.mem_cons_self ..)
  rw [List.nodup_cons] at hn
  have ih := nodup_le l (m.erase x) hn.2 (λ y hy => (List.mem_erase_of_ne (λ e : y = x => hn.1 (e ▸ hy))).2 (hs y (List.mem_cons_of_mem _ hy)))
  have h1 := List.length_erase_of_mem hx
  have h2 := List.length_pos_of_mem hx
  simp only [List.length_cons]
  omega
theorem MetA.len (h : MetA A met) : met.length <= A.sl.length := by
 obtain ⟨h1, h2⟩ := h
 have hsub : (met.map (λ x => x.toNat - 1)) ⊆ List.range A.sl.length := λ y hy => by
  obtain ⟨x, hx, rfl⟩ := List.mem_map.1 hy
  have := h2 x hx
  exact List.mem_range.2 (by omega)
 have hnd : (met.map (λ x => x.toNat - 1)).Nodup := by
  rw [List.nodup_iff_pairwise_ne, List.pairwise_map]
  refine List.Pairwise.imp_of_mem ?_ h1
  intro a b ha hb hab e
  have := h2 a ha; have := h2 b hb
  exact hab (by omega)
 have := nodup_le _ _ hnd (λ x hx => hsub hx)
 simpa using this
theorem MetA.snoc (h : MetA A met) (hs : A.get id = some s) (hm : met.contains id = false) : MetA A (met ++ [id]) := by
 obtain ⟨h1, h2⟩ := h
 refine ⟨?_, λ x hx => ?_⟩
 ·rw [List.nodup_append]
  refine ⟨h1, by simp, λ a ha b hb e => ?_⟩
  simp at hb
  subst hb e
  have : met.contains a = true := by simpa using ha
  rw [hm] at this; cases this
 ·rcases List.mem_append.1 hx with hx | hx
  ·exact h2 x hx
  ·simp at hx; subst hx; exact get_le hs
theorem chainM_round (hmet : MetA A met) : chainM A chk level (A.sl.length + 1 - met.length) id low met acc = match A.get id with
  | none => (acc, met, .wrong id 101)
  | some s =>
   if met.contains id = true then (acc, met, .wrong id 112)
   else if s.nd.lvl ≠ level then (acc, met, .wrong id 111)
   else if chk s.nd ≠ 0 then (acc, met, .wrong id (chk s.nd))
   else if lowBad low s.nd = true then (acc, met, .wrong id 112)
   else if s.nd.right = 0 then (acc ++ [(id, low)], met ++ [id], .ok)
   else chainM A chk level (A.sl.length + 1 - (met ++ [id]).length) s.nd.right s.nd.high (met ++ [id]) (acc ++ [(id, low)]) := by
 have hl := hmet.len
 obtain ⟨f, hf⟩ : ∃ f, A.sl.length + 1 - met.length = f + 1 := ⟨A.sl.length - met.length, by omega⟩
 have hf2 : A.sl.length + 1 - (met ++ [id]).length = f := by simp; omega
 rw [hf, hf2]
 rfl
end
end Go.Proofs.YtbhohohgojcapaaGreat

namespace Go.Proofs.YtbhohohgojcapaaGreat
open Go.RowKit
structure May (n : Nd) (a0 a1 a2 : Int) : Prop where
 lvl : 0 <= n.lvl /\ n.lvl <= 32
 right : 0 <= n.right /\ n.right <= a0
 high : n.high.length = 0 ↔ n.right = 0
 high64 : n.high.length <= 64
 rise : Rise n.keys
 key : ∀ k ∈ n.keys, (1 <= k.length /\ k.length <= 64) /\ beyond n.high k = false
 leaf : n.lvl = 0 -> n.vals.length = n.keys.length /\ (n.keys.length : Int) <= a1 /\ n.kids = [] /\ ∀ v ∈ n.vals, v.length <= 256
 inner : n.lvl ≠ 0 -> n.kids.Nodup /\ (∀ k ∈ n.kids, 1 <= k /\ k <= a0) /\ n.vals = [] /\ n.kids.length = n.keys.length + 1 /\ (n.kids.length : Int) <= a2
theorem keyBad_iff (high x : List UInt8) : keyBad high x = false ↔ (1 <= x.length /\ x.length <= 64) /\ beyond high x = false := by
 unfold keyBad
 rw [Bool.or_eq_false_iff]
 simp only [Bool.not_eq_false', decide_eq_true_eq]
 constructor
 ·rintro ⟨h1, h2⟩; exact ⟨by omega, h2⟩
 ·rintro ⟨h1, h2⟩; exact ⟨by omega, h2⟩
theorem may_iff {n : Nd} {a0 a1 a2 a3 a4 : Int} (hc : confOk a0 a1 a2 a3 a4 = true) : mayE n a0 a1 a2 a3 a4 = 0 ↔ May n a0 a1 a2 := by
 unfold mayE
 rw [if_pos hc]
 have hh : headOk n a0 = true ↔ (0 <= n.lvl /\ n.lvl <= 32) /\ (0 <= n.right /\ n.right <= a0) /\ (n.high.length = 0 ↔ n.right = 0) /\ n.high.length <= 64 := by
  unfold headOk
  simp only [Bool.and_eq_true, decide_eq_true_eq, beq_iff_eq]
  have e : (((n.high.length : Int) == 0) = (n.right == 0)) ↔ (n.high.length = 0 ↔ n.right = 0) := by
   rw [Bool.eq_iff_iff]; simp
  rw [e]
  constructor
  ·rintro ⟨h1, h2, h3, h4⟩; exact ⟨h1, h2, h3, by omega⟩
  ·rintro ⟨h1, h2, h3, h4⟩; exact ⟨h1, h2, h3, by omega⟩
 have hk : keysOk n = true ↔ Rise n.keys /\ ∀ k ∈ n.keys, (1 <= k.length /\ k.length <= 64) /\ beyond n.high k = false := by
  unfold keysOk
  rw [Bool.and_eq_true, rises_iff, Bool.not_eq_true', List.any_eq_false]
  constructor
  ·rintro ⟨h1, h2⟩
   exact ⟨h1, λ k hk => (keyBad_iff _ _).1 (by simpa using h2 k hk)⟩
  ·rintro ⟨h1, h2⟩
   exact ⟨h1, λ k hk => by rw [(keyBad_iff _ _).2 (h2 k hk)]; simp⟩
 have hf : formOk n a0 a1 a2 = true ↔ (n.lvl = 0 -> n.vals.length = n.keys.length /\ (n.keys.length : Int) <= a1 /\ n.kids = [] /\ ∀ v ∈ n.vals, v.length <= 256) /\ (n.lvl ≠ 0 -> n.kids.Nodup /\ (∀ k ∈ n.kids, 1 <= k /\ k <= a0) /\ n.vals = [] /\ n.kids.length = n.keys.length + 1 /\ (n.kids.length : Int) <= a2) := by
  unfold formOk
  by_cases hl : n.lvl = 0
  ·rw [if_pos hl]
   unfold leafOk
   simp only [Bool.and_eq_true, decide_eq_true_eq, Bool.not_eq_true', List.any_eq_false, List.length_eq_zero_iff]
   constructor
   ·rintro ⟨h1, h2, h3, h4⟩
    refine ⟨λ _ => ⟨h1, h2, h3, λ v hv => ?_⟩, λ h => absurd hl h⟩
    have := h4 v hv
    unfold valBad at this
    simp at this
    omega
   ·rintro ⟨h1, _⟩
    obtain ⟨h1, h2, h3, h4⟩ := h1 hl
    refine ⟨h1, h2, h3, λ v hv => ?_⟩
    have := h4 v hv
    unfold valBad
    simp
    omega
  ·rw [if_neg hl]
   unfold innerOk kidsFine
   simp only [Bool.and_eq_true, decide_eq_true_eq, List.all_eq_true, List.length_eq_zero_iff]
   constructor
   ·rintro ⟨⟨h1, h2⟩, h3, h4, h5⟩
    exact ⟨λ h => absurd h hl, λ _ => ⟨h1, h2, h3, h4, h5⟩⟩
   ·rintro ⟨_, h1⟩
    obtain ⟨h1, h2, h3, h4, h5⟩ := h1 hl
    exact ⟨⟨h1, h2⟩, h3, h4, h5⟩
 constructor
 ·intro h
  by_cases hb : (headOk n a0 && (keysOk n && formOk n a0 a1 a2)) = true
  ·simp only [Bool.and_eq_true] at hb
   obtain ⟨b1, b2, b3⟩ := hb
   obtain ⟨g1, g2, g3, g4⟩ := hh.1 b1
   obtain ⟨g5, g6⟩ := hk.1 b2
   obtain ⟨g7, g8⟩ := hf.1 b3
   exact ⟨g1, g2, g3, g4, g5, g6, g7, g8⟩
  ·rw [if_neg hb] at h
   exact absurd h (by decide)
 ·intro h
  rw [hh.2 ⟨h.lvl, h.right, h.high, h.high64⟩, hk.2 ⟨h.rise, h.key⟩, hf.2 ⟨h.leaf, h.inner⟩]
  rfl
end Go.Proofs.YtbhohohgojcapaaGreat

import Derived.Test.YtbhohohgojcapaaGreatPkB4
import Derived.Test.YtbhohohgojcapaaGreatPkA3
set_option maxHeartbeats 64000000
namespace Go.Proofs.YtbhohohgojcapaaGreat
open Go.RowKit
section
variable {S T : Nat -> Prop} {w : World} {c0 c1 c2 c3 c4 c5 b : Value} {ls : List (List UInt8)} {key : List UInt8}
set_option maxRecDepth 100000 in
theorem findP (h1 : Txts w S c3 ls) (h2 : Byts w T b key) : Calls Tryz.prog 49 #[.agg #[c0, c1, c2, c3, c4, c5], b] w λ e w' => e = .returned (.tuple #[.int .i64 (below ls key), .bool (has ls key)]) /\ Keeps Nob w w' := by
 obtain ⟨A, c, rfl, hn1, hm1⟩ := h1.form
 have hz1 : ls.length <= 9223372036854775807 := Nat.le_trans hn1 hm1
 have H1 := Hd h1
 have H2 := Hd h2
 clear h1 h2 hn1 hm1
 go_enter Tryz.func49, Tryz.ntmps49
 go_wp2
 go_loopw [6, 7, 14] (λ b t i wr => ∃ k : Nat, k <= ls.length /\ i = .int .i64 k /\ b = .int .i64 (below (ls.take k) key) /\ t = .bool (has (ls.take k) key) /\ Keeps Nob w wr) (λ _ _ i _ => ls.length - (intOf i).toNat)
 case atStart => exact ⟨0, Nat.zero_le _, rfl, rfl, rfl, Keeps.alloc _ _ _⟩
 case round =>
  obtain ⟨k, hk, rfl, rfl, rfl, hK⟩ := hrel
  have HK := Hd hK
  clear hK
  have hbl := below_take ls key k
  by_cases hlt : k < ls.length
  ·obtain ⟨x, hx⟩ : ∃ x, ls[k]? = some x := ⟨_, List.getElem?_eq_getElem hlt⟩
   obtain ⟨ad, rfl, _, hc⟩ := H1.out.cells hlt
   obtain ⟨u, hu, hbu⟩ := hc k x hx
   have hu' : wr.cell? (ad.add k) = some u := HK.out.cell hu id
   have HX := Hd hx
   have HB := Hd (below_succ (k := key) hx)
   have HH := Hd (has_succ (k := key) hx)
   have HC := Hd (cmpP (hbu.keeps HK.out (λ _ _ _ => id)) (H2.out.keeps HK.out (λ _ _ _ => id)))
   clear hc hu hbu hx
   generalize below (ls.take k) key = bl at hbl HB ⊢
   generalize has (ls.take k) key = hs at HH ⊢
   rcases cmp_cases x key with hcm | hcm | hcm
   all_goals
    have HCM := Hd hcm
    clear hcm
    go_wp2_with (go_at_call 98; refine HC.out.mono ?_; rintro e w1 ⟨rfl, rfl⟩; rw [HCM.out])
    go_roundw
    case rel =>
     refine ⟨k + 1, by omega, by go_num, ?_, ?_, HK.out⟩
     ·rw [HB.out, HCM.out]; simp
     ·rw [HH.out, HCM.out]; simp
    case measure => simp [intOf]; omega
  ·have hkk : k = ls.length := by omega
   subst hkk
   rw [List.take_of_length_le (Nat.le_refl _)] at hbl ⊢
   go_wp2
   go_ret2
   exact ⟨rfl, HK.out⟩
set_option maxRecDepth 100000 in
theorem findR (h1 : Txts w S c3 ls) (h2 : Byts w T b key) : Calls Tryz.prog 55 #[.agg #[c0, c1, c2, c3, c4, c5], b] w λ e w' => e = .returned (.tuple #[.int .i64 (below ls key), .bool (has ls key)]) /\ Keeps Nob w w' := by
 obtain ⟨A, c, rfl, hn1, hm1⟩ := h1.form
 have hz1 : ls.length <= 9223372036854775807 := Nat.le_trans hn1 hm1
 have H1 := Hd h1
 have H2 := Hd h2
 clear h1 h2 hn1 hm1
 go_enter Tryz.func55, Tryz.ntmps55
 go_wp2
 go_loopw [6, 7, 8] (λ b t i wr => ∃ k : Nat, k <= ls.length /\ i = .int .i64 k /\ b = .int .i64 (below (ls.take k) key) /\ t = .bool (has (ls.take k) key) /\ Blk wr w.heap.size 35 #[c0, c1, c2, .slice A ls.length c, c4, c5] /\ Keeps Nob w wr) (λ _ _ i _ => ls.length - (intOf i).toNat)
 case atStart => exact ⟨0, Nat.zero_le _, rfl, rfl, rfl, Blk.new _ _ _, Keeps.alloc _ _ _⟩
 case round =>
  obtain ⟨k, hk, rfl, rfl, rfl, hB, hK⟩ := hrel
  have HK := Hd hK
  have HBK := Hd hB
  have hb3 : wr.cell? ⟨w.heap.size, 3, none⟩ = some (.slice A ls.length c) := hB.cell 3
  clear hK hB
  have hbl := below_take ls key k
  by_cases hlt : k < ls.length
  ·obtain ⟨x, hx⟩ : ∃ x, ls[k]? = some x := ⟨_, List.getElem?_eq_getElem hlt⟩
   obtain ⟨ad, rfl, _, hc⟩ := H1.out.cells hlt
   obtain ⟨u, hu, hbu⟩ := hc k x hx
   have hu' : wr.cell? (ad.add k) = some u := HK.out.cell hu id
   have HX := Hd hx
   have HB := Hd (below_succ (k := key) hx)
   have HH := Hd (has_succ (k := key) hx)
   have HC := Hd (cmpR (hbu.keeps HK.out (λ _ _ _ => id)) (H2.out.keeps HK.out (λ _ _ _ => id)))
   clear hc hu hbu hx
   generalize below (ls.take k) key = bl at hbl HB ⊢
   generalize has (ls.take k) key = hs at HH ⊢
   rcases cmp_cases x key with hcm | hcm | hcm
   all_goals
    have HCM := Hd hcm
    clear hcm
    cases hs
    all_goals
     go_wp2_with (go_at_call 102; refine HC.out.mono ?_; rintro e w1 ⟨rfl, hk1⟩; have HK1 := Hd hk1; clear hk1; rw [HCM.out])
     go_roundw
     case rel =>
      refine ⟨k + 1, by omega, by go_num, ?_, ?_, HBK.out.keeps HK1.out id, HK.out.trans HK1.out (λ _ _ => id)⟩
      ·rw [HB.out, HCM.out]; simp
      ·rw [HH.out, HCM.out]; simp
     case measure => simp [intOf]; omega
  ·have hkk : k = ls.length := by omega
   subst hkk
   rw [List.take_of_length_le (Nat.le_refl _)] at hbl ⊢
   go_wp2
   go_ret2
   exact ⟨rfl, HK.out⟩
end
end Go.Proofs.YtbhohohgojcapaaGreat

namespace Go.Proofs.YtbhohohgojcapaaGreat
open Go.RowKit
def ins {α : Type} (l : List α) (i : Nat) (x : α) : List α := l.take i ++ x :: l.drop i
theorem ins_get {α : Type} (l : List α) (i : Nat) (x : α) (hi : i <= l.length) (j : Nat) : (ins l i x)[j]? = if j < i then l[j]? else if j = i then some x else l[j - 1]? := by
 unfold ins
 have hl : (l.take i).length = i := by rw [List.length_take]; omega
 rw [List.getElem?_append, hl]
 by_cases h1 : j < i
 ·rw [if_pos h1, if_pos h1, List.getElem?_take, if_pos h1]
 ·rw [if_neg h1, if_neg h1]
  by_cases h2 : j = i
  ·subst h2; rw [if_pos rfl, Nat.sub_self]; rfl
  ·rw [if_neg h2]
   obtain ⟨m, rfl⟩ : ∃ m, j = i + 1 + m := ⟨j - i - 1, by omega⟩
   rw [show i + 1 + m - i = m + 1 by omega, List.getElem?_cons_succ, List.getElem?_drop]
   congr 1
   omega
theorem ins_len {α : Type} (l : List α) (i : Nat) (x : α) (hi : i <= l.length) : (ins l i x).length = l.length + 1 := by
 unfold ins
 rw [List.length_append, List.length_take, List.length_cons, List.length_drop]; omega
section
variable {S S' T M : Nat -> Prop} {w w' : World} {v v' u : Value} {l l' : List (List UInt8)} {x : List UInt8} {i : Nat}
theorem OBy.keepsR (h : OBy w S u x) (h' : OTx w S' v' l') (k : Keeps (λ b => v'.ownBlock = some b) w w') : OBy w' S u x := by
 obtain ⟨vs, h1, _⟩ := h'; exact Own.keepsO h h1 (by decide) k
theorem OIn.keepsR {li : List Int} (h : OIn w S u li) (h' : OTx w S' v' l') (k : Keeps (λ b => v'.ownBlock = some b) w w') : OIn w' S u li := by
 obtain ⟨vs, h1, _⟩ := h'; exact Own.keepsO h h1 (by decide) k
theorem OTx.keepsR (h : OTx w S v l) (h' : OTx w S' v' l') (hp : Prt v v') (k : Keeps (λ b => v'.ownBlock = some b) w w') : OTx w' S v l := by
 obtain ⟨vs, h1, h2, h3⟩ := h
 have h4 := h1.self.keeps k (λ b _ hb hb' => hp b hb hb')
 refine ⟨vs, h4.mono λ b _ hb => (h1.blk hb).1, h2, λ i u x hu hx => (h3 i u x hu hx).keepsR h' k⟩
theorem OTx.set_ {A : Option Addr} {c : Nat} (h : OTx w S (.slice A l.length c) l) (hi : i < l.length) (hu : OBy w S u x) : ∃ g o cs, A = some ⟨g, o, none⟩ /\ Blk w g 23 cs /\ (∃ a, w.cell? ⟨g, o + i, none⟩ = some a) /\ OTx (w.setCell ⟨g, o + i, none⟩ u) S (.slice A l.length c) (l.set i x) := by
 obtain ⟨vs, h1, h2, h3⟩ := h
 obtain ⟨hn1, hn2, hat⟩ := h1.at_
 rcases hat with ⟨_, hc0⟩ | ⟨g, o, cur, rfl, hSg, hb, hoc, hcur⟩
 ·omega
 have hk : Keeps (λ b => b = g) w (w.setCell ⟨g, o + i, none⟩ u) := Keeps.setCell w (M := λ b => b = g) rfl u
 refine ⟨g, o, cur, rfl, hb, ⟨vs[i]'(by omega), by rw [hb.cell]; exact hcur i _ (List.getElem?_eq_getElem _)⟩, vs.set i u, ?_, by simp [h2], λ j a y ha hy => ?_⟩
 ·rw [List.length_set]
  refine ⟨by rw [List.length_set]; omega, _, _, rfl, hn1, hn2, .inr ⟨g, o, _, rfl, hSg, hb.set_ _ _, by rw [Array.size_setIfInBounds]; exact hoc, λ j a ha => ?_⟩⟩
  rw [List.getElem?_set] at ha
  rw [Array.getElem?_setIfInBounds]
  by_cases hij : i = j
  ·subst hij
   rw [if_pos rfl] at ha ⊢
   rw [if_pos (by omega)] at ha
   rw [if_pos (by omega)]
   exact ha
  ·rw [if_neg hij] at ha
   rw [if_neg (by omega)]
   exact hcur j a ha
 ·have hne : (5 : TypeId) ≠ 23 := by decide
  rw [List.getElem?_set] at ha hy
  by_cases hij : i = j
  ·subst hij
   rw [if_pos rfl, if_pos (by omega)] at ha hy
   cases ha; cases hy
   exact Own.keepsB hu hb hne hk
  ·rw [if_neg hij] at ha hy
   exact Own.keepsB (h3 j a y ha hy) hb hne hk
end
theorem ONd.keepsB {S : Nat -> Prop} {w w' : World} {a b c d e f : Value} {n : Nd} {g : Nat} {t : TypeId} {cs : Array Value} (h : ONd w S a b c d e f n) (hg : Blk w g t cs) (ht : Apart t) (k : Keeps (λ b => b = g) w w') : ONd w' S a b c d e f n :=
 ⟨⟨h.1.lvl, h.1.high.keepsB hg ht k, h.1.right⟩, h.2.keys.keepsB hg ht k, h.2.vals.keepsB hg ht k, h.2.kids.keepsB hg ht k⟩
theorem Blk.keepsR {w w' : World} {g : Nat} {t : TypeId} {cs : Array Value} {S' : Nat -> Prop} {v' : Value} {l'} (h : Blk w g t cs) (h' : OTx w S' v' l') (ht : t ≠ 23) (k : Keeps (λ b => v'.ownBlock = some b) w w') : Blk w' g t cs := by
 obtain ⟨vs, h1, _⟩ := h'
 refine h.keeps k (λ hb => ?_)
 obtain ⟨cs', hb'⟩ := h1.ownBlk hb
 exact Blk.ne_ h hb' ht rfl
def wth (n : Nd) (key val : List UInt8) : Nd := if has n.keys key then { n with vals := n.vals.set (below n.keys key) val } else { n with keys := ins n.keys (below n.keys key) key, vals := ins n.vals (min (below n.keys key) n.vals.length) val }
end Go.Proofs.YtbhohohgojcapaaGreat

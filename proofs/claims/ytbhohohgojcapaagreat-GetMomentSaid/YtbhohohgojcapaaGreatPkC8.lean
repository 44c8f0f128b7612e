import Derived.Test.YtbhohohgojcapaaGreatPkB4
import Derived.Test.YtbhohohgojcapaaGreatPkC7
import Derived.Test.YtbhohohgojcapaaGreatPkC6
import Derived.Test.YtbhohohgojcapaaGreatPkB5
namespace Go.Proofs.YtbhohohgojcapaaGreat
open Go.ChangeShapes Go.WideShapes Go.ChangeAt Go.RowKit
set_option maxRecDepth 100000
section
variable {H : Type} {enc : TypeId × Value -> H} {w : World} {base : Nat} {spare : Nat -> Bool} {held : Bool} {fuel : Nat} {cs : List Value} {x : DataW H × List MemPlace}
theorem open_o13 (h : DataW.trod enc Tryz.prog w base spare held fuel 37 cs = some x) (hsz : Sz 37 x.1) : ∃ o, IsO13 w w.heap.size cs.toArray o /\ cs.length = 13 := by
 obtain ⟨xs, m, _, rfl, hl, hlen, hf⟩ := DataW.trod_struct Tryz.underlying37 h
 have hcl : Tryz.prog.cellsOf 37 = 13 := by kernel_rfl
 have k_bool : Tryz.prog.cellsOf 4 = 1 := by kernel_rfl
 have k_int : Tryz.prog.cellsOf 3 = 1 := by kernel_rfl
 have k_nd : Tryz.prog.cellsOf 35 = 6 := by kernel_rfl
 have k_txt : Tryz.prog.cellsOf 23 = 1 := by kernel_rfl
 rw [hcl] at hl
 match cs, hl with
 | [d0, d1, d2, d3, d4, d5, d6, d7, d8, d9, d10, d11, d12], _ =>
  have hs : xs.length = 8 := hlen
  have e0 : DataW.trod enc Tryz.prog w base spare held m 3 (([d0, d1, d2, d3, d4, d5, d6, d7, d8, d9, d10, d11, d12].drop 0).take (Tryz.prog.cellsOf 3)) = xs[0]? := hf 0 _ rfl
  rw [k_int] at e0
  replace e0 := e0.trans (List.getElem?_eq_getElem (by omega))
  have e1 : DataW.trod enc Tryz.prog w base spare held m 3 (([d0, d1, d2, d3, d4, d5, d6, d7, d8, d9, d10, d11, d12].drop 1).take (Tryz.prog.cellsOf 3)) = xs[1]? := hf 1 _ rfl
  rw [k_int] at e1
  replace e1 := e1.trans (List.getElem?_eq_getElem (by omega))
  have e2 : DataW.trod enc Tryz.prog w base spare held m 3 (([d0, d1, d2, d3, d4, d5, d6, d7, d8, d9, d10, d11, d12].drop 2).take (Tryz.prog.cellsOf 3)) = xs[2]? := hf 2 _ rfl
  rw [k_int] at e2
  replace e2 := e2.trans (List.getElem?_eq_getElem (by omega))
  have e3 : DataW.trod enc Tryz.prog w base spare held m 23 (([d0, d1, d2, d3, d4, d5, d6, d7, d8, d9, d10, d11, d12].drop 3).take (Tryz.prog.cellsOf 23)) = xs[3]? := hf 3 _ rfl
  rw [k_txt] at e3
  replace e3 := e3.trans (List.getElem?_eq_getElem (by omega))
  have e4 : DataW.trod enc Tryz.prog w base spare held m 23 (([d0, d1, d2, d3, d4, d5, d6, d7, d8, d9, d10, d11, d12].drop 4).take (Tryz.prog.cellsOf 23)) = xs[4]? := hf 4 _ rfl
  rw [k_txt] at e4
  replace e4 := e4.trans (List.getElem?_eq_getElem (by omega))
  have e5 : DataW.trod enc Tryz.prog w base spare held m 23 (([d0, d1, d2, d3, d4, d5, d6, d7, d8, d9, d10, d11, d12].drop 5).take (Tryz.prog.cellsOf 23)) = xs[5]? := hf 5 _ rfl
  rw [k_txt] at e5
  replace e5 := e5.trans (List.getElem?_eq_getElem (by omega))
  have e6 : DataW.trod enc Tryz.prog w base spare held m 4 (([d0, d1, d2, d3, d4, d5, d6, d7, d8, d9, d10, d11, d12].drop 6).take (Tryz.prog.cellsOf 4)) = xs[6]? := hf 6 _ rfl
  rw [k_bool] at e6
  replace e6 := e6.trans (List.getElem?_eq_getElem (by omega))
  have e7 : DataW.trod enc Tryz.prog w base spare held m 35 (([d0, d1, d2, d3, d4, d5, d6, d7, d8, d9, d10, d11, d12].drop 7).take (Tryz.prog.cellsOf 35)) = xs[7]? := hf 7 _ rfl
  rw [k_nd] at e7
  replace e7 := e7.trans (List.getElem?_eq_getElem (by omega))
  obtain ⟨n0, rfl, w0⟩ := open_i1 e0
  obtain ⟨n1, rfl, w1⟩ := open_i1 e1
  obtain ⟨n2, rfl, w2⟩ := open_i1 e2
  obtain ⟨n3, w3, s3⟩ := open_txt e3
  obtain ⟨n4, w4, s4⟩ := open_txt e4
  obtain ⟨n5, w5, s5⟩ := open_txt e5
  obtain ⟨n6, rfl⟩ := open_b1 e6
  obtain ⟨a0, a1, a2, a3, a4, a5, n7, he, w7, u7, x7, y7, s7⟩ := open_nd e7
  injection he with he0 he
  injection he with he1 he
  injection he with he2 he
  injection he with he3 he
  injection he with he4 he
  injection he with he5 he
  subst he0 he1 he2 he3 he4 he5
  refine ⟨⟨n0, n1, n2, n3, n4, n5, n6, n7⟩, ⟨_, _, _, _, _, _, _, _, _, rfl, ⟨w3, w4, w5, w7⟩, ⟨i64_of w0, i64_of w1, i64_of w2⟩, ?_, ?_, ?_, ?_⟩, rfl⟩
  ·exact s3 (sz_struct hsz Tryz.underlying37 (j := 3) rfl (by rw [List.getElem?_map, List.getElem?_eq_getElem (by omega)]; rfl))
  ·exact s4 (sz_struct hsz Tryz.underlying37 (j := 4) rfl (by rw [List.getElem?_map, List.getElem?_eq_getElem (by omega)]; rfl))
  ·exact s5 (sz_struct hsz Tryz.underlying37 (j := 5) rfl (by rw [List.getElem?_map, List.getElem?_eq_getElem (by omega)]; rfl))
  ·exact s7 (sz_struct hsz Tryz.underlying37 (j := 7) rfl (by rw [List.getElem?_map, List.getElem?_eq_getElem (by omega)]; rfl))
theorem open_o13s {v : Value} (h : DataW.trod enc Tryz.prog w base spare held fuel 22 [v] = some x) (hsz : Sz 22 x.1) : ∃ os, O13At w w.heap.size v os :=
 open_row Tryz.underlying22 (by kernel_rfl) (by kernel_rfl) (by decide) (by decide) (λ _ _ _ h hz => open_o13 h hz) h hsz
end
end Go.Proofs.YtbhohohgojcapaaGreat

namespace Go.Proofs.YtbhohohgojcapaaGreat
open Go.RowKit
def grpOb (l : List Ob) : Ob where
 P := λ w => Fam w Nob l
 F := λ x => ∃ (i : Nat) (o : Ob), l[i]? = some o /\ o.F x
 W := λ x => ∃ (i : Nat) (o : Ob), l[i]? = some o /\ o.W x
 fr := λ _ _ _ h k hd => h.keeps k (λ i o hi x hx hn => hd x (h.old i o hi x hx) ⟨i, o, hi, hx⟩ hn) (λ _ h => h.elim)
structure Turns (w w' : World) (G' : Nat -> Prop) (u u' : Ob) : Prop where
 ok : u'.P w'
 F : ∀ x, u'.F x -> u.F x \/ Fresh w w' x
 off : ∀ x, u'.F x -> ¬ G' x
 W : ∀ x, u'.W x -> u.W x \/ Fresh w w' x
 wf : ∀ x, u'.W x -> u'.F x
section
variable {w0 w w' : World} {b p q : Nat} {A B A' B' : Ar} {l ls : List Ob} {o o' u u' : Ob} {i n : Nat} {N G G' : Nat -> Prop}
theorem grp_turn (h : Fam w Nob ls) (hn : ls[n]? = some u) (k : Keeps (λ x => G x \/ u.W x) w w') (hoff : ∀ (j : Nat) v, ls[j]? = some v -> ∀ x, v.F x -> ¬ G x) (hsub : ∀ x, G' x -> G x) (t : Turns w w' G' u u') : Turns w w' G' (grpOb ls) (grpOb (ls.set n u')) := by
 have hcase : ∀ (j : Nat) v, (ls.set n u')[j]? = some v -> (j = n /\ v = u') \/ (j ≠ n /\ ls[j]? = some v) := λ j v hj => by
  rw [List.getElem?_set] at hj
  by_cases e : n = j
  ·subst e
   rw [if_pos rfl] at hj
   split at hj
   ·cases hj; exact .inl ⟨rfl, rfl⟩
   ·cases hj
  ·rw [if_neg e] at hj
   exact .inr ⟨λ h => e h.symm, hj⟩
 refine ⟨⟨λ j v hj => ?_, λ j v hj x hx => ?_, λ j v hj x hx => ?_, λ j v hj x hx => id, λ j j' v v' hj hj' hne x hx hx' => ?_⟩, ?_, ?_, ?_, ?_⟩
 ·rcases hcase j v hj with ⟨rfl, rfl⟩ | ⟨hne, hj⟩
  ·exact t.ok
  ·refine v.fr _ _ _ (h.ok j v hj) k (λ x _ hx hN => ?_)
   rcases hN with hN | hN
   ·exact hoff j v hj x hx hN
   ·exact h.apart n j u v hn hj (λ e => hne e.symm) x hN hx
 ·rcases hcase j v hj with ⟨rfl, rfl⟩ | ⟨hne, hj⟩
  ·rcases t.F x hx with h1 | h1
   ·exact Nat.lt_of_lt_of_le (h.old _ u hn x h1) k.size
   ·exact h1.2
  ·exact Nat.lt_of_lt_of_le (h.old j v hj x hx) k.size
 ·rcases hcase j v hj with ⟨rfl, rfl⟩ | ⟨hne, hj⟩
  ·exact t.wf x hx
  ·exact h.wf j v hj x hx
 ·rcases hcase j v hj with ⟨rfl, rfl⟩ | ⟨hn1, hj1⟩
  ·rcases hcase j' v' hj' with ⟨rfl, rfl⟩ | ⟨hn2, hj2⟩
   ·exact hne rfl
   ·rcases t.W x hx with h1 | h1
    ·exact h.apart _ j' u v' hn hj2 hne x h1 hx'
    ·have := h.old j' v' hj2 x hx'; have := h1.1; omega
  ·rcases hcase j' v' hj' with ⟨rfl, rfl⟩ | ⟨hn2, hj2⟩
   ·rcases t.F x hx' with h1 | h1
    ·exact h.apart j _ v u hj1 hn hne x hx h1
    ·have := h.old j v hj1 x (h.wf j v hj1 x hx); have := h1.1; omega
   ·exact h.apart j j' v v' hj1 hj2 hne x hx hx'
 ·rintro x ⟨j, v, hj, hx⟩
  rcases hcase j v hj with ⟨rfl, rfl⟩ | ⟨hne, hj⟩
  ·exact (t.F x hx).imp (λ h => ⟨_, u, hn, h⟩) id
  ·exact .inl ⟨j, v, hj, hx⟩
 ·rintro x ⟨j, v, hj, hx⟩
  rcases hcase j v hj with ⟨rfl, rfl⟩ | ⟨hne, hj⟩
  ·exact t.off x hx
  ·exact λ hg => hoff j v hj x hx (hsub x hg)
 ·rintro x ⟨j, v, hj, hx⟩
  rcases hcase j v hj with ⟨rfl, rfl⟩ | ⟨hne, hj⟩
  ·exact (t.W x hx).imp (λ h => ⟨_, u, hn, h⟩) id
  ·exact .inl ⟨j, v, hj, hx⟩
 ·rintro x ⟨j, v, hj, hx⟩
  rcases hcase j v hj with ⟨rfl, rfl⟩ | ⟨hne, hj'⟩
  ·exact ⟨j, v, hj, t.wf x hx⟩
  ·exact ⟨j, v, hj, h.wf j v hj' x hx⟩
theorem Su.turn (h : Su w0 w b p q A B l) (hi : l[i]? = some o) : ∃ G, J w G b p q A B /\ (∀ x, o.F x -> ¬ G x) /\ (∀ x, G x -> w0.heap.size <= x) /\ (∀ x, o.F x -> x < w.heap.size) /\ (∀ x, o.W x -> w0.heap.size <= x /\ o.F x) /\ o.P w /\
  ∀ w' A' B' o' G', J w' G' b p q A' B' -> (∀ x, G' x -> G x) -> Keeps (λ x => G x \/ o.W x) w w' -> Turns w w' G' o o' -> Su w0 w' b p q A' B' (l.set i o') := by
 have hsz := h.size
 obtain ⟨G, hJ, hF, hg, hw, hk⟩ := h
 refine ⟨G, hJ, hF.off i o hi, hg, hF.old i o hi, λ x hx => ⟨hw i o hi x hx, hF.wf i o hi x hx⟩, hF.ok i o hi, λ w' A' B' o' G' hJ' hsub k t => ⟨G', hJ', ?_, λ x hx => hg x (hsub x hx), λ j v hj x hx => ?_, hk.trans k (λ x _ hx => hx.elim (hg x) (hw i o hi x))⟩⟩
 ·have t0 := grp_turn (hF.sub (λ _ h => h.elim)) hi k hF.off hsub t
  have f0 : Fam w' Nob (l.set i o') := t0.ok
  exact ⟨f0.ok, f0.old, f0.wf, λ j v hj x hx => t0.off x ⟨j, v, hj, hx⟩, f0.apart⟩
 ·rw [List.getElem?_set] at hj
  by_cases e : i = j
  ·subst e
   rw [if_pos rfl] at hj
   split at hj
   ·cases hj
    rcases t.W x hx with h1 | h1
    ·exact hw _ o hi x h1
    ·exact Nat.le_trans hsz h1.1
   ·cases hj
  ·rw [if_neg e] at hj
   exact hw j v hj x hx
theorem Su.turnG (h : Su w0 w b p q A B l) (hi : l[i]? = some (grpOb ls)) (hn : ls[n]? = some u) : ∃ G, J w G b p q A B /\ (∀ x, u.F x -> ¬ G x) /\ (∀ x, G x -> w0.heap.size <= x) /\ (∀ x, u.F x -> x < w.heap.size) /\ (∀ x, u.W x -> w0.heap.size <= x /\ u.F x) /\ u.P w /\
  ∀ w' A' B' u' G', J w' G' b p q A' B' -> (∀ x, G' x -> G x) -> Keeps (λ x => G x \/ u.W x) w w' -> Turns w w' G' u u' -> Su w0 w' b p q A' B' (l.set i (grpOb (ls.set n u'))) := by
 obtain ⟨G, hJ, hoff, hg, hold, hW, hP, back⟩ := h.turn hi
 have hf : Fam w Nob ls := hP
 refine ⟨G, hJ, λ x hx => hoff x ⟨n, u, hn, hx⟩, hg, λ x hx => hf.old n u hn x hx, λ x hx => ⟨(hW x ⟨n, u, hn, hx⟩).1, hf.wf n u hn x hx⟩, hf.ok n u hn, λ w' A' B' u' G' hJ' hsub k t => back w' A' B' _ G' hJ' hsub (k.mono (λ x _ hx => hx.imp id (λ h => ⟨n, u, hn, h⟩))) (grp_turn hf hn k (λ j v hj x hx => hoff x ⟨j, v, hj, hx⟩) hsub t)⟩
theorem Su.pushG (h : Su w0 w b p q A B l) (hi : l[i]? = some (grpOb ls)) (k : Keeps Nob w w') (hP : o.P w') (hF : ∀ x, o.F x -> Fresh w w' x) (hWF : ∀ x, o.W x -> o.F x) : Su w0 w' b p q A B (l.set i (grpOb (ls ++ [o]))) := by
 have hf : Fam w Nob ls := h.get hi
 have hcase : ∀ (j : Nat) v, (ls ++ [o])[j]? = some v -> ls[j]? = some v \/ v = o := λ j v hj => by
  by_cases e : j < ls.length
  ·rw [List.getElem?_append_left e] at hj; exact .inl hj
  ·rw [List.getElem?_append_right (by omega)] at hj
   rcases hh : j - ls.length with _ | m
   ·rw [hh] at hj; simp at hj; exact .inr hj.symm
   ·rw [hh] at hj; simp at hj
 refine h.set (N := Nob) hi k (λ _ _ h => h.elim) (hf.add k hP hF hWF) ?_ ?_ ?_
 ·rintro x ⟨j, v, hj, hx⟩
  rcases hcase j v hj with h1 | rfl
  ·exact .inl ⟨j, v, h1, hx⟩
  ·exact .inr (hF x hx)
 ·rintro x ⟨j, v, hj, hx⟩
  rcases hcase j v hj with h1 | rfl
  ·exact .inl ⟨j, v, h1, hx⟩
  ·exact .inr (hF x (hWF x hx))
 ·rintro x ⟨j, v, hj, hx⟩
  rcases hcase j v hj with h1 | rfl
  ·exact ⟨j, v, hj, hf.wf j v h1 x hx⟩
  ·exact ⟨j, v, hj, hWF x hx⟩
end
end Go.Proofs.YtbhohohgojcapaaGreat

namespace Go.Proofs.YtbhohohgojcapaaGreat
open Go.RowKit
structure Gr where
 value : List UInt8
 there : Bool
 err : Int
structure Gc where
 D : Mc
 res : Option Gr
def Gc.new (key : List UInt8) : Gc := ⟨Mc.new key 0, none⟩
def keyFit (k : List UInt8) : Bool := decide (1 <= k.length) && decide (k.length <= 64)
def valOf (n : Nd) (key : List UInt8) : List UInt8 := if has n.keys key = true /\ below n.keys key < n.vals.length then n.vals.getD (below n.keys key) [] else []
def endG (D : Mc) : Gr := if D.outId = 0 then ⟨[], false, 101⟩ else ⟨valOf D.outNd D.key, has D.outNd.keys D.key, 0⟩
def Gc.out (g : Gc) : Gr := g.res.getD ⟨[], false, 0⟩
def stepG (A : Ar) (g : Gc) : (Bool × Bool) × Gc :=
 match g.res with
 | some _ => ((true, false), g)
 | none =>
  if keyFit g.D.key = false then ((true, true), { g with res := some ⟨[], false, 3⟩ })
  else if (stepM A g.D).nx = .done then ((true, !decide ((stepM A g.D).outId = 0)), ⟨stepM A g.D, some (endG (stepM A g.D))⟩)
  else ((false, false), { g with D := stepM A g.D })
theorem decideM_key (n : Nat) (M : Mc) : (decideM n M).key = M.key := by
 unfold decideM
 repeat' split
 all_goals rfl
theorem stepM_key (A : Ar) (M : Mc) : (stepM A M).key = M.key := by
 unfold stepM
 split
 ·rfl
 ·rfl
 ·split <;> rfl
 ·split <;> rfl
 ·split <;> rfl
 ·split
  ·exact decideM_key _ _
  ·rfl
theorem decideM_level (n : Nat) (M : Mc) : (decideM n M).level = M.level := by
 unfold decideM
 repeat' split
 all_goals rfl
theorem stepM_level (A : Ar) (M : Mc) : (stepM A M).level = M.level := by
 unfold stepM
 split
 ·rfl
 ·rfl
 ·split <;> rfl
 ·split <;> rfl
 ·split <;> rfl
 ·split
  ·exact decideM_level _ _
  ·rfl
theorem stepG_key (A : Ar) (g : Gc) : (stepG A g).2.D.key = g.D.key := by
 unfold stepG
 repeat' split
 all_goals first | rfl | exact stepM_key A g.D
theorem stepG_le {A : Ar} {g : Gc} {c : Nat} (h : g.D.le c) : (stepG A g).2.D.le (c + 1) := by
 unfold stepG
 repeat' split
 ·exact h.mono (by omega)
 ·exact h.mono (by omega)
 ·exact h.step A
 ·exact h.step A
structure GW (w : World) (t : TypeId) (m d : Nat) (S : Nat -> Prop) (g : Gc) : Prop where
 cells : ∃ kv vv, Blk w m t #[pV d, kv, .bool g.res.isSome, vv, .bool g.out.there, iV g.out.err] /\ Byts w S kv g.D.key /\ Byts w S vv g.out.value
 sm : Sm 0 1 g.out.value.length
 ks : Sm 0 1 g.D.key.length
section
variable {w w' : World} {t t' : TypeId} {m d a : Nat} {nv : Nx -> Value} {S T N : Nat -> Prop} {g : Gc} {M : Mc}
theorem GW.keeps (h : GW w t m d S g) (k : Keeps N w w') (hm : ¬ N m) (hd : ∀ x, x < w.heap.size -> S x -> ¬ N x) : GW w' t m d S g := by
 obtain ⟨⟨kv, vv, hb, h1, h2⟩, h3, h4⟩ := h
 exact ⟨⟨kv, vv, hb.keeps k hm, h1.keeps k hd, h2.keeps k hd⟩, h3, h4⟩
theorem GW.mono (h : GW w t m d S g) (hd : ∀ x, x < w.heap.size -> S x -> T x) : GW w t m d T g := by
 obtain ⟨⟨kv, vv, hb, h1, h2⟩, h3, h4⟩ := h
 exact ⟨⟨kv, vv, hb, h1.mono hd, h2.mono hd⟩, h3, h4⟩
theorem GW.lt (h : GW w t m d S g) : m < w.heap.size := by obtain ⟨⟨_, _, hb, _⟩, _⟩ := h; exact hb.lt
structure GM (w : World) (t t' : TypeId) (m d a : Nat) (nv : Nx -> Value) (S : Nat -> Prop) (g : Gc) : Prop where
 gw : GW w t m d S g
 mw : MW w t' d a nv S g.D
 nm : ¬ S m
 nd : ¬ S d
 ne : m ≠ d
theorem GM.keeps (h : GM w t t' m d a nv S g) (k : Keeps N w w') (hm : ¬ N m) (hn : ¬ N d) (hd : ∀ x, x < w.heap.size -> S x -> ¬ N x) : GM w' t t' m d a nv S g :=
 ⟨h.1.keeps k hm hd, h.2.keeps k hn hd, h.3, h.4, h.5⟩
theorem MW.lt (h : MW w t d a nv S M) : d < w.heap.size := by obtain ⟨⟨_, _, _, _, _, _, _, hb, _⟩, _⟩ := h; exact hb.lt
def gmOb (t t' : TypeId) (m d a : Nat) (nv : Nx -> Value) (S : Nat -> Prop) (g : Gc) : Ob where
 P := λ w => GM w t t' m d a nv S g
 F := λ x => x = m \/ x = d \/ S x
 W := λ x => x = m \/ x = d
 fr := λ _ _ _ h k hd => h.keeps k (hd _ h.gw.lt (.inl rfl)) (hd _ h.mw.lt (.inr (.inl rfl))) (λ x hx hs => hd x hx (.inr (.inr hs)))
end
abbrev GX (w : World) (m d p : Nat) (S : Nat -> Prop) (g : Gc) : Prop := GM w 112 178 m d p (nvX d) S g
abbrev GR (w : World) (m d q : Nat) (S : Nat -> Prop) (g : Gc) : Prop := GM w 125 181 m d q nvR S g
abbrev gxOb (p m d : Nat) (S : Nat -> Prop) (g : Gc) : Ob := gmOb 112 178 m d p (nvX d) S g
end Go.Proofs.YtbhohohgojcapaaGreat
namespace Go.Proofs.YtbhohohgojcapaaGreat
open Go.RowKit
section
variable {S : Nat -> Prop} {w : World} {a : Value} {x : List UInt8}
theorem keyFitR (h : Byts w S a x) : Calls Tryz.prog 11 #[a] w λ e w' => e = .returned (.bool (keyFit x)) /\ w = w' := by
 obtain ⟨A, c, rfl, hn, hm⟩ := h.form
 have hz : x.length <= 9223372036854775807 := Nat.le_trans hn hm
 clear h hn hm
 unfold keyFit
 by_cases h1 : (1 : Int) <= x.length
 ·by_cases h2 : (x.length : Int) <= 64
  ·go_enter Tryz.func11, Tryz.ntmps11
   go_wp2
   go_ret
   have h3 : 1 <= x.length := by omega
   have h4 : x.length <= 64 := by omega
   exact ⟨by simp [h3, h4], rfl⟩
  ·go_enter Tryz.func11, Tryz.ntmps11
   go_wp2
   go_ret
   have h4 : ¬ x.length <= 64 := by omega
   exact ⟨by simp [h4], rfl⟩
 ·go_enter Tryz.func11, Tryz.ntmps11
  go_wp2
  go_ret
  have h3 : ¬ 1 <= x.length := by omega
  exact ⟨by simp [h3], rfl⟩
end
end Go.Proofs.YtbhohohgojcapaaGreat

import Derived.Test.YtbhohohgojcapaaGreatPkA0
import Derived.BigQuiet
import Derived.Test.YtbhohohgojcapaaGreatPkB4
import Derived.Test.YtbhohohgojcapaaGreatPkA8
import Derived.Maps.OwnOps
import Derived.Maps.Views
import Derived.Test.YtbhohohgojcapaaGreatPkA6
import Derived.Test.YtbhohohgojcapaaGreatPkC6
set_option maxHeartbeats 64000000
namespace Go.Proofs.YtbhohohgojcapaaGreat
open Go.RowKit
def confOk (c0 c1 c2 c3 c4 : Int) : Bool := decide (1 <= c0 /\ c0 <= 65536) && (decide (2 <= c1 /\ c1 <= 64) && (decide (3 <= c2 /\ c2 <= 64) && (decide (1 <= c3 /\ c3 <= c1) && decide (1 <= c4 /\ c4 <= 64))))
def confE (c0 c1 c2 c3 c4 : Int) : Int := if confOk c0 c1 c2 c3 c4 then 0 else 1
theorem betweenP (n lo hi : Int) (w : World) : Calls Tryz.prog 133 #[.int .i64 n, .int .i64 lo, .int .i64 hi] w λ e w' => e = .returned (.bool (decide (lo <= n /\ n <= hi))) /\ w' = w := by
 by_cases h1 : lo <= n
 ·by_cases h2 : n <= hi
  ·go_enter Tryz.func133, Tryz.ntmps133
   go_wp2
   go_ret
   exact ⟨by simp [h1, h2], rfl⟩
  ·go_enter Tryz.func133, Tryz.ntmps133
   go_wp2
   go_ret
   exact ⟨by simp [h1, h2], rfl⟩
 ·go_enter Tryz.func133, Tryz.ntmps133
  go_wp2
  go_ret
  exact ⟨by simp; intro _; omega, rfl⟩
set_option maxRecDepth 100000 in
theorem confR (c0 c1 c2 c3 c4 : Int) (w : World) : Calls Tryz.prog 93 #[.agg #[.int .i64 c0, .int .i64 c1, .int .i64 c2, .int .i64 c3, .int .i64 c4]] w λ e w' => e = .returned (.int .i64 (confE c0 c1 c2 c3 c4)) /\ Keeps Nob w w' := by
 generalize hE : confE c0 c1 c2 c3 c4 = E
 have HE := Hd hE
 clear hE
 go_enter Tryz.func93, Tryz.ntmps93
 go_wp2
 all_goals
  go_ret
  refine ⟨?_, Keeps.alloc _ _ _⟩
  rw [<- HE.out]
  unfold confE confOk
  clear HE
  simp
  omega
end Go.Proofs.YtbhohohgojcapaaGreat

namespace Go.Proofs.YtbhohohgojcapaaGreat
open Go.RowKit
section
variable {S T : Nat -> Prop} {w : World} {a : Value} {ls : List (List UInt8)}
end
end Go.Proofs.YtbhohohgojcapaaGreat

namespace Go.Proofs.YtbhohohgojcapaaGreat
open Go.RowKit
section
variable {S T : Nat -> Prop} {w : World} {a : Value} {ls : List (List UInt8)}
def keyBad (high x : List UInt8) : Bool := !(decide ((1 : Int) <= (x.length : Int) /\ (x.length : Int) <= 64)) || beyond high x
def valBad (x : List UInt8) : Bool := decide ((256 : Int) < (x.length : Int))
end
end Go.Proofs.YtbhohohgojcapaaGreat

namespace Go.Proofs.YtbhohohgojcapaaGreat
open Go.RowKit Go.Maps
def leafOk (n : Nd) (leaf : Int) : Bool := decide (n.vals.length = n.keys.length) && (decide ((n.keys.length : Int) <= leaf) && (decide (n.kids.length = 0) && !(n.vals.any valBad)))
def kidsFine (l : List Int) (nodes : Int) : Bool := decide (l.Nodup) && l.all (λ k => decide (1 <= k /\ k <= nodes))
def innerOk (n : Nd) (nodes inner : Int) : Bool := kidsFine n.kids nodes && (decide (n.vals.length = 0) && (decide (n.kids.length = n.keys.length + 1) && decide ((n.kids.length : Int) <= inner)))
section
variable {S T : Nat -> Prop} {w : World} {c0 c1 c2 c3 c4 c5 : Value} {n : Nd}
end
end Go.Proofs.YtbhohohgojcapaaGreat

namespace Go.Proofs.YtbhohohgojcapaaGreat
open Go.RowKit Go.Maps
theorem take_snocC {α : Type} (l : List α) (k : Nat) (x : α) (h : l[k]? = some x) : l.take (k + 1) = l.take k ++ [x] := by
 rw [List.take_add_one, h]; rfl
theorem nodup_snoc {l : List Int} {x : Int} (h : l.Nodup) (hx : x ∉ l) : (l ++ [x]).Nodup := by
 rw [List.nodup_append]
 refine ⟨h, by simp, λ a ha b hb => ?_⟩
 simp at hb; subst hb
 intro e; subst e; exact hx ha
theorem kidsFine_false {l : List Int} {nodes : Int} (h : ¬ (l.Nodup /\ ∀ k ∈ l, 1 <= k /\ k <= nodes)) : kidsFine l nodes = false := by
 cases hb : kidsFine l nodes with
 | false => rfl
 | true =>
  unfold kidsFine at hb
  simp only [Bool.and_eq_true, decide_eq_true_eq, List.all_eq_true] at hb
  exact absurd hb h
theorem kidsFine_true {l : List Int} {nodes : Int} (h1 : l.Nodup) (h2 : ∀ k ∈ l, 1 <= k /\ k <= nodes) : kidsFine l nodes = true := by
 unfold kidsFine
 simp only [Bool.and_eq_true, decide_eq_true_eq, List.all_eq_true]
 exact ⟨h1, h2⟩
section
variable {S T : Nat -> Prop} {w : World} {c0 c1 c2 c3 c4 c5 : Value} {n : Nd}
end
end Go.Proofs.YtbhohohgojcapaaGreat

namespace Go.Proofs.YtbhohohgojcapaaGreat
open Go.RowKit Go.Maps
def headOk (n : Nd) (nodes : Int) : Bool := decide (0 <= n.lvl /\ n.lvl <= 32) && (decide (0 <= n.right /\ n.right <= nodes) && ((((n.high.length : Int) == 0) == (n.right == 0)) && decide ((n.high.length : Int) <= 64)))
def keysOk (n : Nd) : Bool := rises n.keys && !(n.keys.any (keyBad n.high))
def formOk (n : Nd) (a0 a1 a2 : Int) : Bool := if n.lvl = 0 then leafOk n a1 else innerOk n a0 a2
def mayE (n : Nd) (a0 a1 a2 a3 a4 : Int) : Int := if confOk a0 a1 a2 a3 a4 then (if headOk n a0 && (keysOk n && formOk n a0 a1 a2) then 0 else 91) else 1
section
variable {S T : Nat -> Prop} {w : World} {c0 c1 c2 c3 c4 c5 : Value} {n : Nd}
end
end Go.Proofs.YtbhohohgojcapaaGreat

namespace Go.Proofs.YtbhohohgojcapaaGreat
open Go.RowKit
structure Rp where
 sound : Bool
 node : Int
 err : Int
 levels : Int
 nodes : Int
 entries : Int
 deriving DecidableEq
def Rp.wrong (id e : Int) : Rp := ⟨false, id, e, 0, 0, 0⟩
def Rp.ok : Rp := ⟨true, 0, 0, 0, 0, 0⟩
abbrev Ch := List (Int × List UInt8)
def keyBelow (low : List UInt8) : List (List UInt8) -> Bool
 | [] => false
 | k :: _ => decide (cmp k low < 0)
def lowBad (low : List UInt8) (n : Nd) : Bool :=
 decide (0 < low.length) && (keyBelow low n.keys || (decide (0 < n.high.length) && decide (cmp n.high low <= 0)))
def chainM (A : Ar) (chk : Nd -> Int) (level : Int) : Nat -> Int -> List UInt8 -> List Int -> Ch -> Ch × List Int × Rp
 | 0, _, _, met, acc => (acc, met, .ok)
 | f + 1, id, low, met, acc => match A.get id with
  | none => (acc, met, .wrong id 101)
  | some s =>
   if met.contains id = true then (acc, met, .wrong id 112)
   else if s.nd.lvl ≠ level then (acc, met, .wrong id 111)
   else if chk s.nd ≠ 0 then (acc, met, .wrong id (chk s.nd))
   else if lowBad low s.nd = true then (acc, met, .wrong id 112)
   else if s.nd.right = 0 then (acc ++ [(id, low)], met ++ [id], .ok)
   else chainM A chk level f s.nd.right s.nd.high (met ++ [id]) (acc ++ [(id, low)])
def kidOk (down : Ch) (kid : Int) (want : List UInt8) : Bool := down.any (λ d => d.1 == kid && d.2 == want)
def wantLow (low : List UInt8) (n : Nd) (k : Nat) : List UInt8 := if k = 0 then low else n.keys.getD (k - 1) []
def nodeKids (down : Ch) (low : List UInt8) (n : Nd) : Bool := (List.range n.kids.length).all (λ k => kidOk down (n.kids.getD k 0) (wantLow low n k))
def kidsM (A : Ar) (down : Ch) : Ch -> Rp
 | [] => .ok
 | (id, low) :: r => if nodeKids down low (opNd A id) = true then kidsM A down r else .wrong id 113
def firstKid (A : Ar) (l : Ch) : Int := match l with
 | [] => 0
 | e :: _ => (opNd A e.1).kids.getD 0 0
def kidsLast (A : Ar) (out : List Ch) (l : Ch) : Rp := match out.getLast? with
 | none => .ok
 | some up => kidsM A l up
def levelsFrom (A : Ar) (chk : Nd -> Int) : Nat -> Int -> Int -> List Int -> List Ch -> List Ch × Rp
 | 0, _, _, _, out => (out, .ok)
 | f + 1, level, first, met, out =>
  let c := chainM A chk level (A.sl.length + 1 - met.length) first [] met []
  if c.2.2.sound = false then ([], c.2.2)
  else if (kidsLast A out c.1).sound = false then ([], kidsLast A out c.1)
  else if level = 0 then (out ++ [c.1], .ok)
  else levelsFrom A chk f (level - 1) (firstKid A c.1) c.2.1 (out ++ [c.1])
def chkM (a0 a1 a2 a3 a4 : Int) (n : Nd) : Int := mayE n a0 a1 a2 a3 a4
def levelsM (A : Ar) (a0 a1 a2 a3 a4 : Int) : List Ch × Rp :=
 if confOk a0 a1 a2 a3 a4 = false then ([], .wrong 0 1)
 else match heldFrom 1 A.sl with
 | h :: _ => ([], .wrong h 102)
 | [] => match A.get A.root with
  | none => ([], .wrong A.root 101)
  | some s => levelsFrom A (chkM a0 a1 a2 a3 a4) (s.nd.lvl.toNat + 1) s.nd.lvl A.root [] []
def MetA (A : Ar) (met : List Int) : Prop := met.Nodup /\ ∀ x ∈ met, 1 <= x /\ x <= A.sl.length
section
variable {A : Ar} {chk : Nd -> Int} {level id : Int} {low : List UInt8} {met : List Int} {acc l : Ch} {s : Sl}
theorem nodup_le {α : Type} [BEq α] [LawfulBEq α] : ∀ (l m : List α), l.Nodup -> (∀ x ∈ l, x ∈ m) -> l.length <= m.length
 | [], _, _, _ => Nat.zero_le _
 | x :: l, m, hn, hs => by
  have hx := hs x (List.mem_cons_self ..)
  rw [List.nodup_cons] at hn
  have ih := nodup_le l (m.erase x) hn.2 (λ y hy => (List.mem_erase_of_ne (λ e : y = x => hn.1 (e ▸ hy))).2 (hs y (List.mem_cons_of_mem _ hy)))
  have h1 := List.length_erase_of_mem hx
  have h2 := List.length_pos_of_mem hx
  simp only [List.length_cons]
  omega
theorem MetA.len (h : MetA A met) : met.length <= A.sl.length := by
 obtain ⟨h1, h2⟩ := h
 have hsub : (met.map (λ x => x.toNat - 1)) ⊆ List.range A.sl.length := λ y hy => by
  obtain ⟨x, hx, rfl⟩ := List.mem_map.1 hy
  have := h2 x hx
  exact List.mem_range.2 (by omega)
 have hnd : (met.map (λ x => x.toNat - 1)).Nodup := by
  rw [List.nodup_iff_pairwise_ne, List.pairwise_map]
  refine List.Pairwise.imp_of_mem ?_ h1
  intro a b ha hb hab e
  have := h2 a ha; have := h2 b hb
  exact hab (by omega)
 have := nodup_le _ _ hnd (λ x hx => hsub hx)
 simpa using this
theorem MetA.snoc (h : MetA A met) (hs : A.get id = some s) (hm : met.contains id = false) : MetA A (met ++ [id]) := by
 obtain ⟨h1, h2⟩ := h
 refine ⟨?_, λ x hx => ?_⟩
 ·rw [List.nodup_append]
  refine ⟨h1, by simp, λ a ha b hb e => ?_⟩
  simp at hb
  subst hb e
  have : met.contains a = true := by simpa using ha
  rw [hm] at this; cases this
 ·rcases List.mem_append.1 hx with hx | hx
  ·exact h2 x hx
  ·simp at hx; subst hx; exact get_le hs
theorem chainM_round (hmet : MetA A met) : chainM A chk level (A.sl.length + 1 - met.length) id low met acc = match A.get id with
  | none => (acc, met, .wrong id 101)
  | some s =>
   if met.contains id = true then (acc, met, .wrong id 112)
   else if s.nd.lvl ≠ level then (acc, met, .wrong id 111)
   else if chk s.nd ≠ 0 then (acc, met, .wrong id (chk s.nd))
   else if lowBad low s.nd = true then (acc, met, .wrong id 112)
   else if s.nd.right = 0 then (acc ++ [(id, low)], met ++ [id], .ok)
   else chainM A chk level (A.sl.length + 1 - (met ++ [id]).length) s.nd.right s.nd.high (met ++ [id]) (acc ++ [(id, low)]) := by
 have hl := hmet.len
 obtain ⟨f, hf⟩ : ∃ f, A.sl.length + 1 - met.length = f + 1 := ⟨A.sl.length - met.length, by omega⟩
 have hf2 : A.sl.length + 1 - (met ++ [id]).length = f := by simp; omega
 rw [hf, hf2]
 rfl
end
end Go.Proofs.YtbhohohgojcapaaGreat

set_option maxHeartbeats 64000000
namespace Go.Proofs.YtbhohohgojcapaaGreat
open Go.RowKit
def rpV (r : Rp) : Array Value := #[.bool r.sound, .int .i64 r.node, .int .i64 r.err, .int .i64 r.levels, .int .i64 r.nodes, .int .i64 r.entries]
section
variable {w : World} {S : Nat -> Prop} {v : Value} {l : List Int} {x : Int}
theorem take_no {k : Nat} {y : Int} (h : (l.take k).contains x = false) (hy : l[k]? = some y) (hne : y ≠ x) : (l.take (k + 1)).contains x = false := by
 rw [List.take_add_one, hy]
 simp at h ⊢
 exact ⟨h, λ e => hne e.symm⟩
set_option maxRecDepth 100000 in
theorem hasR (h : Ints w S v l) : Calls Tryz.prog 51 #[v, .int .i64 x] w λ e w' => e = .returned (.bool (l.contains x)) /\ Keeps Nob w w' := by
 obtain ⟨A, c, rfl, hn, hm⟩ := h.form
 have hz : l.length <= 9223372036854775807 := Nat.le_trans hn hm
 have H := Hd h
 clear h hn hm
 go_enter Tryz.func51, Tryz.ntmps51
 go_wp2
 go_loopw [5] (λ i wr => ∃ k : Nat, k <= l.length /\ i = .int .i64 k /\ (l.take k).contains x = false /\ Keeps Nob w wr) (λ i _ => l.length - (intOf i).toNat)
 case atStart => exact ⟨0, Nat.zero_le _, rfl, by simp, Keeps.refl _ _⟩
 obtain ⟨k, hk, rfl, hno, hkr⟩ := hrel
 have HNO := Hd hno
 have K := Hd hkr
 clear hno hkr
 rcases Nat.lt_or_ge k l.length with hlt | hlt
 ·obtain ⟨y, hy⟩ : ∃ y, l[k]? = some y := ⟨_, List.getElem?_eq_getElem hlt⟩
  obtain ⟨ad, ea, _, hc⟩ := SlR.cells H.out (i := k) (by rw [List.length_map]; exact hlt)
  have q0 : wr.cell? (ad.add k) = some (.int .i64 y) := K.out.cell (hc k _ (by rw [List.getElem?_map, hy]; rfl)) id
  subst ea
  have HY := Hd hy
  clear hc hy
  by_cases e : y = x
  ·subst e
   go_wp2
   go_ret
   refine ⟨?_, K.out⟩
   rw [show l.contains y = true by simpa using List.mem_of_getElem? HY.out]; rfl
  ·have e2 : (y == x) = false := by simpa using e
   have HE := Hd e
   clear e
   go_wp2
   go_roundw
   case rel => exact ⟨k + 1, by omega, by go_num, take_no HNO.out HY.out HE.out, K.out⟩
   case measure => simp [intOf]; omega
 obtain rfl : k = l.length := by omega
 go_wp2
 go_ret
 refine ⟨?_, K.out⟩
 have h := HNO.out
 rw [List.take_length] at h
 rw [h]; rfl
theorem wrongR (id e : Int) (w : World) : Calls Tryz.prog 94 #[.int .i64 id, .int .i64 e] w λ r w' => r = .returned (.agg #[.bool false, .int .i64 id, .int .i64 e, .int .i64 0, .int .i64 0, .int .i64 0]) /\ Keeps Nob w w' := by
 go_enter Tryz.func94, Tryz.ntmps94
 go_wp2
 refine post_at (λ wb hw => ?_)
 have hk : Keeps Nob w wb := by rw [hw]; exact Keeps.alloc _ _ _
 have hb : Blk wb w.heap.size 42 #[.bool false, .int .i64 id, .int .i64 e, .int .i64 0, .int .i64 0, .int .i64 0] := by rw [hw]; exact Blk.new _ _ _
 clear hw
 have r0 := hb.cell 0
 have r1 := hb.cell 1
 have r2 := hb.cell 2
 have r3 := hb.cell 3
 have r4 := hb.cell 4
 have r5 := hb.cell 5
 refine bodyPost_ret (v := .agg #[.bool false, .int .i64 id, .int .i64 e, .int .i64 0, .int .i64 0, .int .i64 0]) (by simp [results, Tryz.results94, go_sem, r0, r1, r2, r3, r4, r5]) rfl ⟨rfl, hk⟩
end
end Go.Proofs.YtbhohohgojcapaaGreat

namespace Go.Proofs.YtbhohohgojcapaaGreat
open Go.RowKit
def arOb (M D : Nat -> Prop) (q : Nat) (L : Value) (xs : List Value) (A : Ar) : Ob where
 P := λ w => DocW w M D q L xs A
 F := λ x => M x \/ D x
 W := λ _ => False
 fr := λ _ _ _ h k hd => h.keeps k (λ x hx hm => hd x hx (.inl hm)) (λ x hx hm => hd x hx (.inr hm))
def txOb (D : Nat -> Prop) (v : Value) (l : List UInt8) : Ob where
 P := λ w => Byts w D v l
 F := D
 W := λ _ => False
 fr := λ _ _ _ h k hd => h.keeps k hd
def txsOb (D : Nat -> Prop) (vs : List Value) (ls : List (List UInt8)) : Ob where
 P := λ w => vs.length = ls.length /\ ∀ (i : Nat) u x, vs[i]? = some u -> ls[i]? = some x -> Byts w D u x
 F := D
 W := λ _ => False
 fr := λ _ _ _ h k hd => ⟨h.1, λ i u x hu hx => (h.2 i u x hu hx).keeps k hd⟩
def lvOb (F D : Nat -> Prop) (Lv Lw : Value) (c : Ch) : Ob where
 P := λ w => Ints w F Lv (c.map Prod.fst) /\ Txts w (λ x => F x \/ D x) Lw (c.map Prod.snd)
 F := λ x => F x \/ D x
 W := λ _ => False
 fr := λ _ _ _ h k hd => ⟨h.1.keeps k (λ x hx hf => hd x hx (.inl hf)), h.2.keeps k hd⟩
section
variable {w w' : World} {l : List Ob} {i n m size : Nat} {o : Ob} {e t : TypeId} {v v' : Value} {xs ys : List Value} {g : Nat} {cs : Array Value}
theorem Fam.nob0 (h : Fam w Nob l) (k : Keeps Nob w w') : Fam w' Nob l := h.nob k
theorem Fam.alloc' (h : Fam w Nob l) (hg : g = w.heap.size) : Fam (w.alloc (.cells cs t)) Nob (l ++ [muBlk g t cs]) := by
 subst hg
 exact h.add (Keeps.alloc _ _ _) (Blk.new _ _ _) (λ x hx => by rw [show x = w.heap.size from hx]; exact ⟨Nat.le_refl _, by simp⟩) (λ _ h => h)
theorem Fam.allocAt (h : Fam w Nob l) (hi : l[i]? = some o) (k : Keeps Nob w w') (hb : Blk w' g t cs) (hg : w.heap.size <= g) : Fam w' Nob (l.set i (muBlk g t cs)) :=
 h.wr hi k (λ _ _ h => h.elim) hb (λ x hx => .inr (by rw [show x = g from hx]; exact ⟨hg, hb.lt⟩)) (λ x hx => .inr (by rw [show x = g from hx]; exact ⟨hg, hb.lt⟩)) (λ _ h => h)
theorem Fam.nilRow (h : Fam w Nob l) (e : TypeId) (size : Nat) : Fam w Nob (l ++ [rowOb e size (.slice none 0 0) 0 []]) :=
 h.add (Keeps.refl _ _) (Own.nil _ _ _ _) (λ x hx => by cases hx) (λ _ h => h)
theorem Fam.addNo (h : Fam w Nob l) : Fam w Nob (l ++ [noOb]) := h.add (Keeps.refl _ _) trivial (λ x h => h.elim) (λ x h => h.elim)
theorem Fam.app0 (h : Fam w Nob l) (hi : l[i]? = some (rowOb e size v n xs)) (k : Keeps (λ b => v.ownBlock = some b) w w') (ho : Own w' (λ b => v.ownBlock = some b \/ Fresh w w' b) e size v' m ys) : Fam w' Nob (l.set i (rowOb e size v' m ys)) :=
 h.wr hi k (λ _ _ h => h) ho.self (λ x hx => (ho.blk hx).1) (λ x hx => (ho.blk hx).1) (λ _ h => h)
theorem Fam.setBlk {cs' : Array Value} (h : Fam w Nob l) (hi : l[i]? = some (muBlk g t cs)) (k : Keeps (λ x => x = g) w w') (hb : Blk w' g t cs') : Fam w' Nob (l.set i (muBlk g t cs')) :=
 h.wr hi k (λ x _ e => e) hb (λ x hx => .inl hx) (λ x hx => .inl hx) (λ _ h => h)
theorem Fam.swap {o' : Ob} (h : Fam w Nob l) (hi : l[i]? = some o) (hP : o'.P w) (hF : ∀ x, o'.F x -> o.F x) (hw : ∀ x, ¬ o'.W x) : Fam w Nob (l.set i o') :=
 h.wr hi (Keeps.refl Nob w) (λ _ _ h => h.elim) hP (λ x hx => .inl (hF x hx)) (λ x hx => absurd hx (hw x)) (λ x hx => absurd hx (hw x))
end
theorem DocW.mono_ {w : World} {M D : Nat -> Prop} {q : Nat} {L : Value} {xs : List Value} {A : Ar} (h : DocW w M D q L xs A) {ix : Int} {s : Sl} (hg : A.get ix = some s) : ∃ i g o c : Nat, ix = (i : Int) + 1 /\ i < A.sl.length /\ A.sl.length <= 65536 /\ L = .slice (some ⟨g, o, none⟩) A.sl.length c /\ ∃ X1 k1 X3 k3 X4 k4 X5 k5,
  w.cell? ⟨g, o + i * 7 + 1, none⟩ = some (.int .i64 s.nd.lvl) /\ w.cell? ⟨g, o + i * 7 + 2, none⟩ = some (.slice X1 s.nd.high.length k1) /\ w.cell? ⟨g, o + i * 7 + 3, none⟩ = some (.int .i64 s.nd.right) /\ w.cell? ⟨g, o + i * 7 + 4, none⟩ = some (.slice X3 s.nd.keys.length k3) /\ w.cell? ⟨g, o + i * 7 + 5, none⟩ = some (.slice X4 s.nd.vals.length k4) /\ w.cell? ⟨g, o + i * 7 + 6, none⟩ = some (.slice X5 s.nd.kids.length k5) /\
  IsNd w D (.int .i64 s.nd.lvl) (.slice X1 s.nd.high.length k1) (.int .i64 s.nd.right) (.slice X3 s.nd.keys.length k3) (.slice X4 s.nd.vals.length k4) (.slice X5 s.nd.kids.length k5) s.nd := by
 obtain ⟨i, g, o, c, c0, c1, c2, c3, c4, c5, hid, hs, h3, hi, hl, hL, hm, hgb, hc0, hc1, hc2, hc3, hc4, hc5, hnd⟩ := h.nd_ hg
 obtain ⟨X1, k1, e1, _, _⟩ := hnd.1.high.form
 obtain ⟨X3, k3, e3, _, _⟩ := hnd.2.keys.form
 obtain ⟨X4, k4, e4, _, _⟩ := hnd.2.vals.form
 obtain ⟨X5, k5, e5, _, _⟩ := hnd.2.kids.form
 have e0 := hnd.1.lvl
 have e2 := hnd.1.right
 unfold iV at e0 e2
 subst e0 e1 e2 e3 e4 e5
 exact ⟨i, g, o, c, hid, hi, hl, hL, X1, k1, X3, k3, X4, k4, X5, k5, hc0, hc1, hc2, hc3, hc4, hc5, hnd⟩
end Go.Proofs.YtbhohohgojcapaaGreat

import Derived.Test.YtbhohohgojcapaaGreatPkD5
import Derived.Test.YtbhohohgojcapaaGreatPkC7
namespace Go.Proofs.YtbhohohgojcapaaGreat
open Go.RowKit
def rpV (r : Rp) : Array Value := #[.bool r.sound, .int .i64 r.node, .int .i64 r.err, .int .i64 r.levels, .int .i64 r.nodes, .int .i64 r.entries]
section
variable {w : World} {S : Nat -> Prop} {v : Value} {l : List Int} {x : Int}
theorem take_no {k : Nat} {y : Int} (h : (l.take k).contains x = false) (hy : l[k]? = some y) (hne : y ≠ x) : (l.take (k + 1)).contains x = false := by
 rw [List.take_add_one, hy]
 simp at h ⊢
 exact ⟨h, λ e => hne e.symm⟩
set_option maxRecDepth 100000 in
set_option maxHeartbeats 1000000 in
theorem hasR (h : Ints w S v l) : Calls Tryz.prog 51 #[v, .int .i64 x] w λ e w' => e = .returned (.bool (l.contains x)) /\ Keeps Nob w w' := by
 obtain ⟨A, c, rfl, hn, hm⟩ := h.form
 have hz : l.length <= 9223372036854775807 := Nat.le_trans hn hm
 have H := Hd_ h
 clear h hn hm
 go_enter Tryz.func51, Tryz.ntmps51
 go_wp2
 go_loopw [5] (λ i wr => ∃ k : Nat, k <= l.length /\ i = .int .i64 k /\ (l.take k).contains x = false /\ Keeps Nob w wr) (λ i _ => l.length - (intOf i).toNat)
 case atStart => exact ⟨0, Nat.zero_le _, rfl, by simp, Keeps.refl _ _⟩
 obtain ⟨k, hk, rfl, hno, hkr⟩ := hrel
 have HNO := Hd_ hno
 have K := Hd_ hkr
 clear hno hkr
 rcases Nat.lt_or_ge k l.length with hlt | hlt
 ·obtain ⟨y, hy⟩ : ∃ y, l[k]? = some y := ⟨_, List.getElem?_eq_getElem hlt⟩
  obtain ⟨ad, ea, _, hc⟩ := SlR.cells H.out (i := k) (by rw [List.length_map]; exact hlt)
  have q0 : wr.cell? (ad.add k) = some (.int .i64 y) := K.out.cell (hc k _ (by rw [List.getElem?_map, hy]; rfl)) id
  subst ea
  have HY := Hd_ hy
  clear hc hy
  by_cases e : y = x
  ·subst e
   go_wp2
   go_ret
   refine ⟨?_, K.out⟩
   rw [show l.contains y = true by simpa using List.mem_of_getElem? HY.out]; rfl
  ·have e2 : (y == x) = false := by simpa using e
   have HE := Hd_ e
   clear e
   go_wp2
   go_roundw
   case rel => exact ⟨k + 1, by omega, by go_num, take_no HNO.out HY.out HE.out, K.out⟩
   case measure => simp [intOf]; omega
 obtain rfl : k = l.length := by omega
 go_wp2
 go_ret
 refine ⟨?_, K.out⟩
 have h := HNO.out
 rw [List.take_length] at h
 rw [h]; rfl
theorem wrongR (id e : Int) (w : World) : Calls Tryz.prog 94 #[.int .i64 id, .int .i64 e] w λ r w' => r = .returned (.agg #[.bool false, .int .i64 id, .int .i64 e, .int .i64 0, .int .i64 0, .int .i64 0]) /\ Keeps Nob w w' := by
 go_enter Tryz.func94, Tryz.ntmps94
 go_wp2
 refine post_at (λ wb hw => ?_)
 have hk : Keeps Nob w wb := by rw [hw]; exact Keeps.alloc _ _ _
 have hb : Blk wb w.heap.size 42 #[.bool false, .int .i64 id, .int .i64 e, .int .i64 0, .int .i64 0, .int .i64 0] := by rw [hw]; exact Blk.new _ _ _
 clear hw
 have r0 := hb.cell 0
 have r1 := hb.cell 1
 have r2 := hb.cell 2
 have r3 := hb.cell 3
 have r4 := hb.cell 4
 have r5 := hb.cell 5
 refine bodyPost_ret (v := .agg #[.bool false, .int .i64 id, .int .i64 e, .int .i64 0, .int .i64 0, .int .i64 0]) (by simp [results, Tryz.results94, go_sem, r0, r1, r2, r3, r4, r5]) rfl ⟨rfl, hk⟩
end
end Go.Proofs.YtbhohohgojcapaaGreat

namespace Go.Proofs.YtbhohohgojcapaaGreat
open Go.RowKit
def arOb (M D : Nat -> Prop) (q : Nat) (L : Value) (xs : List Value) (A : Ar) : Ob where
 P := λ w => DocW w M D q L xs A
 F := λ x => M x \/ D x
 W := λ _ => False
 fr := λ _ _ _ h k hd => h.keeps k (λ x hx hm => hd x hx (.inl hm)) (λ x hx hm => hd x hx (.inr hm))
def txOb (D : Nat -> Prop) (v : Value) (l : List UInt8) : Ob where
 P := λ w => Byts w D v l
 F := D
 W := λ _ => False
 fr := λ _ _ _ h k hd => h.keeps k hd
def txsOb (D : Nat -> Prop) (vs : List Value) (ls : List (List UInt8)) : Ob where
 P := λ w => vs.length = ls.length /\ ∀ (i : Nat) u x, vs[i]? = some u -> ls[i]? = some x -> Byts w D u x
 F := D
 W := λ _ => False
 fr := λ _ _ _ h k hd => ⟨h.1, λ i u x hu hx => (h.2 i u x hu hx).keeps k hd⟩
def lvOb (F D : Nat -> Prop) (Lv Lw : Value) (c : Ch) : Ob where
 P := λ w => Ints w F Lv (c.map Prod.fst) /\ Txts w (λ x => F x \/ D x) Lw (c.map Prod.snd)
 F := λ x => F x \/ D x
 W := λ _ => False
 fr := λ _ _ _ h k hd => ⟨h.1.keeps k (λ x hx hf => hd x hx (.inl hf)), h.2.keeps k hd⟩
section
variable {w w' : World} {l : List Ob} {i n m size : Nat} {o : Ob} {e t : TypeId} {v v' : Value} {xs ys : List Value} {g : Nat} {cs : Array Value}
theorem Fam.nob0 (h : Fam w Nob l) (k : Keeps Nob w w') : Fam w' Nob l := h.nob k
theorem Fam.alloc' (h : Fam w Nob l) (hg : g = w.heap.size) : Fam (w.alloc (.cells cs t)) Nob (l ++ [muBlk g t cs]) := by
 subst hg
 exact h.add (Keeps.alloc _ _ _) (Blk.new _ _ _) (λ x hx => by rw [show x = w.heap.size from hx]; exact ⟨Nat.le_refl _, by simp⟩) (λ _ h => h)
theorem Fam.allocAt (h : Fam w Nob l) (hi : l[i]? = some o) (k : Keeps Nob w w') (hb : Blk w' g t cs) (hg : w.heap.size <= g) : Fam w' Nob (l.set i (muBlk g t cs)) :=
 h.wr hi k (λ _ _ h => h.elim) hb (λ x hx => .inr (by rw [show x = g from hx]; exact ⟨hg, hb.lt⟩)) (λ x hx => .inr (by rw [show x = g from hx]; exact ⟨hg, hb.lt⟩)) (λ _ h => h)
theorem Fam.nilRow (h : Fam w Nob l) (e : TypeId) (size : Nat) : Fam w Nob (l ++ [rowOb e size (.slice none 0 0) 0 []]) :=
 h.add (Keeps.refl _ _) (Own.nil _ _ _ _) (λ x hx => by cases hx) (λ _ h => h)
theorem Fam.addNo (h : Fam w Nob l) : Fam w Nob (l ++ [noOb]) := h.add (Keeps.refl _ _) trivial (λ x h => h.elim) (λ x h => h.elim)
theorem Fam.app0 (h : Fam w Nob l) (hi : l[i]? = some (rowOb e size v n xs)) (k : Keeps (λ b => v.ownBlock = some b) w w') (ho : Own w' (λ b => v.ownBlock = some b \/ Fresh w w' b) e size v' m ys) : Fam w' Nob (l.set i (rowOb e size v' m ys)) :=
 h.wr hi k (λ _ _ h => h) ho.self (λ x hx => (ho.blk hx).1) (λ x hx => (ho.blk hx).1) (λ _ h => h)
theorem Fam.setBlk {cs' : Array Value} (h : Fam w Nob l) (hi : l[i]? = some (muBlk g t cs)) (k : Keeps (λ x => x = g) w w') (hb : Blk w' g t cs') : Fam w' Nob (l.set i (muBlk g t cs')) :=
 h.wr hi k (λ x _ e => e) hb (λ x hx => .inl hx) (λ x hx => .inl hx) (λ _ h => h)
theorem Fam.swap {o' : Ob} (h : Fam w Nob l) (hi : l[i]? = some o) (hP : o'.P w) (hF : ∀ x, o'.F x -> o.F x) (hw : ∀ x, ¬ o'.W x) : Fam w Nob (l.set i o') :=
 h.wr hi (Keeps.refl Nob w) (λ _ _ h => h.elim) hP (λ x hx => .inl (hF x hx)) (λ x hx => absurd hx (hw x)) (λ x hx => absurd hx (hw x))
end
theorem DocW.mono_ {w : World} {M D : Nat -> Prop} {q : Nat} {L : Value} {xs : List Value} {A : Ar} (h : DocW w M D q L xs A) {ix : Int} {s : Sl} (hg : A.get ix = some s) : ∃ i g o c : Nat, ix = (i : Int) + 1 /\ i < A.sl.length /\ A.sl.length <= 65536 /\ L = .slice (some ⟨g, o, none⟩) A.sl.length c /\ ∃ X1 k1 X3 k3 X4 k4 X5 k5,
  w.cell? ⟨g, o + i * 7 + 1, none⟩ = some (.int .i64 s.nd.lvl) /\ w.cell? ⟨g, o + i * 7 + 2, none⟩ = some (.slice X1 s.nd.high.length k1) /\ w.cell? ⟨g, o + i * 7 + 3, none⟩ = some (.int .i64 s.nd.right) /\ w.cell? ⟨g, o + i * 7 + 4, none⟩ = some (.slice X3 s.nd.keys.length k3) /\ w.cell? ⟨g, o + i * 7 + 5, none⟩ = some (.slice X4 s.nd.vals.length k4) /\ w.cell? ⟨g, o + i * 7 + 6, none⟩ = some (.slice X5 s.nd.kids.length k5) /\
  IsNd w D (.int .i64 s.nd.lvl) (.slice X1 s.nd.high.length k1) (.int .i64 s.nd.right) (.slice X3 s.nd.keys.length k3) (.slice X4 s.nd.vals.length k4) (.slice X5 s.nd.kids.length k5) s.nd := by
 obtain ⟨i, g, o, c, c0, c1, c2, c3, c4, c5, hid, hs, h3, hi, hl, hL, hm, hgb, hc0, hc1, hc2, hc3, hc4, hc5, hnd⟩ := h.nd_ hg
 obtain ⟨X1, k1, e1, _, _⟩ := hnd.1.high.form
 obtain ⟨X3, k3, e3, _, _⟩ := hnd.2.keys.form
 obtain ⟨X4, k4, e4, _, _⟩ := hnd.2.vals.form
 obtain ⟨X5, k5, e5, _, _⟩ := hnd.2.kids.form
 have e0 := hnd.1.lvl
 have e2 := hnd.1.right
 unfold iV at e0 e2
 subst e0 e1 e2 e3 e4 e5
 exact ⟨i, g, o, c, hid, hi, hl, hL, X1, k1, X3, k3, X4, k4, X5, k5, hc0, hc1, hc2, hc3, hc4, hc5, hnd⟩
end Go.Proofs.YtbhohohgojcapaaGreat

namespace Go.Proofs.YtbhohohgojcapaaGreat
open Go.RowKit
structure Fo (w0 w : World) (l : List Ob) : Prop where
 fam : Fam w Nob l
 own : ∀ (i : Nat) o, l[i]? = some o -> ∀ x, o.W x -> w0.heap.size <= x
 kept : Keeps Nob w0 w
section
variable {w0 w w' : World} {l : List Ob} {i n m size g : Nat} {o o' : Ob} {e t : TypeId} {v v' : Value} {xs ys : List Value} {cs cs' : Array Value} {N : Nat -> Prop}
theorem Fo.nil (w : World) : Fo w w [] := ⟨Fam.nil, λ i o h => by simp at h, Keeps.refl _ _⟩
theorem Fo.get (h : Fo w0 w l) (hi : l[i]? = some o) : o.P w := h.fam.ok i _ hi
theorem Fo.nob (h : Fo w0 w l) (k : Keeps Nob w w') : Fo w0 w' l := ⟨h.fam.nob k, h.own, h.kept.trans k (λ _ _ h => h)⟩
theorem Fo.wr (h : Fo w0 w l) (hi : l[i]? = some o) (k : Keeps N w w') (hN : ∀ x, x < w.heap.size -> N x -> o.W x) (hP : o'.P w') (hF : ∀ x, o'.F x -> o.F x \/ Fresh w w' x) (hW : ∀ x, o'.W x -> o.W x \/ Fresh w w' x) (hWF : ∀ x, o'.W x -> o'.F x) : Fo w0 w' (l.set i o') := by
 refine ⟨h.fam.wr hi k hN hP hF hW hWF, λ j u hj x hx => ?_, h.kept.trans k (λ x hx hn => ?_)⟩
 ·rw [List.getElem?_set] at hj
  split at hj
  ·split at hj
   ·cases hj
    rcases hW x hx with h1 | h1
    ·exact h.own i _ hi x h1
    ·exact Nat.le_trans h.kept.size h1.1
   ·cases hj
  ·exact h.own j u hj x hx
 ·have h1 := h.own i _ hi x (hN x (Nat.lt_of_lt_of_le hx h.kept.size) hn)
  exact absurd hx (Nat.not_lt.2 h1)
theorem Fo.push (h : Fo w0 w l) (k : Keeps Nob w w') (hP : o.P w') (hF : ∀ x, o.F x -> Fresh w w' x) (hWF : ∀ x, o.W x -> o.F x) : Fo w0 w' (l ++ [o]) := by
 refine ⟨h.fam.add k hP hF hWF, λ j u hj x hx => ?_, h.kept.trans k (λ _ _ h => h)⟩
 rcases List.getElem?_append (l₁ := l) (l₂ := [o]) (i := j) ▸ hj with hj
 split at hj
 ·exact h.own j u hj x hx
 ·rcases hh : j - l.length with _ | r
  ·rw [hh] at hj; simp at hj; subst hj
   exact Nat.le_trans h.kept.size (hF x (hWF x hx)).1
  ·rw [hh] at hj; simp at hj
theorem Fo.put (h : Fo w0 w l) (hi : l[i]? = some o) (k : Keeps Nob w w') (hP : o'.P w') (hF : ∀ x, o'.F x -> Fresh w w' x) (hWF : ∀ x, o'.W x -> o'.F x) : Fo w0 w' (l.set i o') :=
 h.wr hi k (λ _ _ h => h.elim) hP (λ x hx => .inr (hF x hx)) (λ x hx => .inr (hF x (hWF x hx))) hWF
theorem Fo.no (h : Fo w0 w l) : Fo w0 w (l ++ [noOb]) := h.push (Keeps.refl _ _) trivial (λ x h => h.elim) (λ x h => h.elim)
theorem Fo.nilRow (h : Fo w0 w l) (e : TypeId) (size : Nat) : Fo w0 w (l ++ [rowOb e size (.slice none 0 0) 0 []]) :=
 h.push (Keeps.refl _ _) (Own.nil _ _ _ _) (λ x hx => by cases hx) (λ x h => h)
theorem Fo.blkPut (h : Fo w0 w l) (hi : l[i]? = some o) (k : Keeps Nob w w') (hb : Blk w' g t cs) (hg : w.heap.size <= g) : Fo w0 w' (l.set i (muBlk g t cs)) :=
 h.put hi k hb (λ x hx => by rw [show x = g from hx]; exact ⟨hg, hb.lt⟩) (λ _ h => h)
theorem Fo.blkSet (h : Fo w0 w l) (hi : l[i]? = some (muBlk g t cs)) (k : Keeps (λ x => x = g) w w') (hb : Blk w' g t cs') : Fo w0 w' (l.set i (muBlk g t cs')) :=
 h.wr hi k (λ x _ e => e) hb (λ x hx => .inl hx) (λ x hx => .inl hx) (λ _ h => h)
theorem Fo.app (h : Fo w0 w l) (hi : l[i]? = some (rowOb e size v n xs)) (k : Keeps (λ b => v.ownBlock = some b) w w') (ho : Own w' (λ b => v.ownBlock = some b \/ Fresh w w' b) e size v' m ys) : Fo w0 w' (l.set i (rowOb e size v' m ys)) :=
 h.wr hi k (λ _ _ h => h) ho.self (λ x hx => (ho.blk hx).1) (λ x hx => (ho.blk hx).1) (λ _ h => h)
theorem Fo.grow (h : Fo w0 w l) (hi : l[i]? = some o) (k : Keeps Nob w w') (hP : o'.P w') (hF : ∀ x, o'.F x -> o.F x \/ Fresh w w' x) (hW : ∀ x, ¬ o'.W x) : Fo w0 w' (l.set i o') :=
 h.wr hi k (λ _ _ h => h.elim) hP hF (λ x hx => absurd hx (hW x)) (λ x hx => absurd hx (hW x))
theorem Fo.drop (h : Fo w0 w l) (hi : l[i]? = some o) : Fo w0 w (l.set i noOb) :=
 h.put hi (Keeps.refl _ _) trivial (λ x h => h.elim) (λ x h => h.elim)
end
end Go.Proofs.YtbhohohgojcapaaGreat

/- GetPlays walked: look-ups of both kinds, step by step, in a tree that others turn. -/
import Derived.Test.YtbhohohgojcapaaGreatTurnA
import Derived.Test.YtbhohohgojcapaaGreatAns13
import Derived.Test.YtbhohohgojcapaaGreatSame10
namespace Go.Proofs.YtbhohohgojcapaaGreat
open Go.RowKit

theorem Su.begin {w0 w : World} {G : Nat → Prop} {b p q : Nat} {A B : Ar} (hJ : J w G b p q A B) (hg : ∀ x, G x → w0.heap.size ≤ x) (hk : Keeps Nob w0 w) : Su w0 w b p q A B [] :=
  ⟨G, hJ, Fam.nil, hg, fun i o h => by simp at h, hk.mono (fun _ _ h => h.elim)⟩
theorem Su.addNo {w0 w : World} {b p q : Nat} {A B : Ar} {l : List Ob} (h : Su w0 w b p q A B l) : Su w0 w b p q A B (l ++ [noOb]) :=
  h.push (Keeps.refl _ _) trivial (fun x h => h.elim) (fun x h => h.elim)
theorem Su.addGrp {w0 w : World} {b p q : Nat} {A B : Ar} {l : List Ob} (h : Su w0 w b p q A B l) : Su w0 w b p q A B (l ++ [grpOb []]) :=
  h.push (Keeps.refl _ _) Fam.nil (fun x hx => by obtain ⟨i, o, hi, _⟩ := hx; simp at hi) (fun x hx => by obtain ⟨i, o, hi, _⟩ := hx; simp at hi)
theorem Su.nilRow {w0 w : World} {b p q : Nat} {A B : Ar} {l : List Ob} (h : Su w0 w b p q A B l) (e : TypeId) (size : Nat) : Su w0 w b p q A B (l ++ [rowOb e size (.slice none 0 0) 0 []]) :=
  h.push (Keeps.refl _ _) (Own.nil _ _ _ _) (fun x hx => by cases hx) (fun x h => h)
/-- A row of bytes. -/
abbrev byOb (v : Value) (l : List UInt8) : Ob := rowOb 5 1 v l.length (l.map bV)
/-- A byte of a row is written. -/
theorem Su.byte {w0 w : World} {b p q : Nat} {A B : Ar} {l : List Ob} {i g o c j : Nat} {kl : List UInt8} (h : Su w0 w b p q A B l) (hi : l[i]? = some (byOb (.slice (some ⟨g, o, none⟩) kl.length c) kl)) (hj : j < kl.length) (u : UInt8) : Su w0 (w.setCell ⟨g, o + j, none⟩ (bV u)) b p q A B (l.set i (byOb (.slice (some ⟨g, o, none⟩) (kl.set j u).length c) (kl.set j u))) := by
  have ho : Own w _ 5 1 _ _ _ := h.get hi
  have h2 := ho.putC (j := j) (by simpa using hj) (bV u)
  rw [← List.map_set] at h2
  have hlen : (kl.set j u).length = kl.length := by simp
  refine h.set (N := fun x => x = g) hi (Keeps.setCell w (p := ⟨g, o + j, none⟩) (M := fun x => x = g) rfl _) (fun x _ e => ?_) ?_ (fun x hx => .inl ?_) (fun x hx => .inl ?_) (fun _ hx => hx)
  · rw [show x = g from e]; rfl
  · show Own (w.setCell _ _) (fun b => (Value.slice (some ⟨g, o, none⟩) (kl.set j u).length c).ownBlock = some b) 5 1 (.slice (some ⟨g, o, none⟩) (kl.set j u).length c) (kl.set j u).length _
    rw [hlen]; exact h2
  · rw [hlen] at hx; exact hx
  · rw [hlen] at hx; exact hx
theorem Tryz.inf_pair13 : (Tryz.prog.info? 67).map (fun i => (i.zero, i.size, i.bytes)) = some (some (.agg #[.pointer none, .pointer none, .slice none 0 0]), 3, 40) := by kernel_rfl

/-- Both look-ups of a pair; the key as it was handed in. -/
structure Gu where
  mx : Nat
  dx : Nat
  my : Nat
  dy : Nat
  Sx : Nat → Prop
  Sy : Nat → Prop
  A : Gc
  B : Gc
  kv : Value
def gxO (p : Nat) (g : Gu) : Ob := gxOb p g.mx g.dx g.Sx g.A
def grO (q : Nat) (g : Gu) : Ob := grOb q g.my g.dy g.Sy g.B
/-- The cells of a row of pairs. -/
def prs3 (gs : List Gu) : List Value := gs.flatMap (fun g => [.pointer (some ⟨g.mx, 0, none⟩), .pointer (some ⟨g.my, 0, none⟩), g.kv])
theorem prs3_at : ∀ (gs : List Gu) (i : Nat) (g : Gu), gs[i]? = some g → (prs3 gs)[i * 3]? = some (.pointer (some ⟨g.mx, 0, none⟩)) ∧ (prs3 gs)[i * 3 + 1]? = some (.pointer (some ⟨g.my, 0, none⟩)) ∧ (prs3 gs)[i * 3 + 2]? = some g.kv
  | [], i, g, h => by simp at h
  | e :: l, 0, g, h => by simp at h; subst h; exact ⟨rfl, rfl, rfl⟩
  | e :: l, i + 1, g, h => by
    have := prs3_at l i g (by simpa using h)
    rw [show (i + 1) * 3 = i * 3 + 1 + 1 + 1 by omega]
    exact this
theorem prs3_set : ∀ (gs : List Gu) (i : Nat) (g e : Gu), gs[i]? = some g → e.mx = g.mx → e.my = g.my → e.kv = g.kv → prs3 (gs.set i e) = prs3 gs
  | [], i, g, e, h, _, _, _ => rfl
  | c :: l, 0, g, e, h, h1, h2, h3 => by simp at h; subst h; simp only [prs3, List.set_cons_zero, List.flatMap_cons, h1, h2, h3]
  | c :: l, i + 1, g, e, h, h1, h2, h3 => by
    have := prs3_set l i g e (by simpa using h) h1 h2 h3
    simp only [prs3, List.set_cons_succ, List.flatMap_cons] at *
    rw [this]
theorem prs3_snoc (gs : List Gu) (g : Gu) : prs3 (gs ++ [g]) = prs3 gs ++ [.pointer (some ⟨g.mx, 0, none⟩), .pointer (some ⟨g.my, 0, none⟩), g.kv] := by simp [prs3]
/-- Both sides of a pair stand alike; their counts are at most c; what was handed in is a slice. -/
def Alike (c : Nat) (gs : List Gu) : Prop := ∀ g ∈ gs, g.A = g.B ∧ g.A.D.le c ∧ ∃ A n k, g.kv = .slice A n k
theorem Alike.set {c c' : Nat} {gs : List Gu} {i : Nat} {g : Gu} (h : Alike c gs) (hc : c ≤ c') (h1 : g.A = g.B) (h2 : g.A.D.le c') (h3 : ∃ A n k, g.kv = .slice A n k) : Alike c' (gs.set i g) := fun e he => by
  rcases List.mem_or_eq_of_mem_set he with he | rfl
  · exact ⟨(h e he).1, (h e he).2.1.mono hc, (h e he).2.2⟩
  · exact ⟨h1, h2, h3⟩
theorem Alike.snoc {c : Nat} {gs : List Gu} {g : Gu} (h : Alike c gs) (h1 : g.A = g.B) (h2 : g.A.D.le c) (h3 : ∃ A n k, g.kv = .slice A n k) : Alike c (gs ++ [g]) := fun e he => by
  rcases List.mem_append.1 he with he | he
  · exact h e he
  · simp at he; subst he; exact ⟨h1, h2, h3⟩
theorem Alike.mono {c c' : Nat} {gs : List Gu} (h : Alike c gs) (hc : c ≤ c') : Alike c' gs := fun e he => ⟨(h e he).1, (h e he).2.1.mono hc, (h e he).2.2⟩
theorem map_at {α β : Type} {f : α → β} {l : List α} {n : Nat} {x : α} (h : l[n]? = some x) : (l.map f)[n]? = some (f x) := by rw [List.getElem?_map, h]; rfl
theorem set_self3 {α : Type} {l : List α} {n : Nat} {x : α} (h : l[n]? = some x) : l.set n x = l := by
  obtain ⟨hn, rfl⟩ := List.getElem?_eq_some_iff.1 h
  exact List.set_getElem_self hn

section
variable {w0 w : World} {b p q i n : Nat} {A B : Ar} {l : List Ob} {gs : List Gu} {g : Gu}
/-- The program's look-up of a pair steps. -/
theorem Su.getX (h : Su w0 w b p q A B l) (hi : l[i]? = some (grpOb (gs.map (gxO p)))) (hn : gs[n]? = some g) (hlow : g.A.D.low) : Calls Tryz.prog 17 #[pV g.mx] w fun e w' => e = .returned (.tuple #[.bool (stepG A g.A).1.1, .bool (stepG A g.A).1.2]) ∧ ∃ S, Su w0 w' b p q A B (l.set i (grpOb ((gs.set n { g with A := (stepG A g.A).2, Sx := S }).map (gxO p)))) := by
  obtain ⟨G, hJ, hoff, hg, hold, hW, hP, back⟩ := h.turnG hi (map_at (f := gxO p) hn)
  have hP' : GX w g.mx g.dx p g.Sx g.A := hP
  refine (stepGX hJ hoff hP' hlow).mono ?_
  rintro e w' ⟨rfl, hX, hk⟩
  refine ⟨rfl, (fun x => g.Sx x ∨ Fresh w w' x), ?_⟩
  rw [List.map_set]
  refine back w' A B (gxO p { g with A := (stepG A g.A).2, Sx := fun x => g.Sx x ∨ Fresh w w' x }) (Shr G w w') (hJ.shr hk (fun x _ hgx h => hoff x (h.imp id .inl) hgx)) (fun x hx => hx.1) (hk.mono (fun x _ h => .inr h)) ⟨hX, fun x hx => ?_, fun x hx hgx => ?_, fun x hx => .inl hx, fun x hx => hx.imp id .inl⟩
  · rcases hx with h | h | h | h
    · exact .inl (.inl h)
    · exact .inl (.inr (.inl h))
    · exact .inl (.inr (.inr h))
    · exact .inr h
  · rcases hx with h | h | h | h
    · exact hoff x (.inl h) hgx.1
    · exact hoff x (.inr (.inl h)) hgx.1
    · exact hoff x (.inr (.inr h)) hgx.1
    · exact hgx.2 h
/-- The document's look-up of a pair steps. -/
theorem Su.getR (h : Su w0 w b p q A B l) (hi : l[i]? = some (grpOb (gs.map (grO q)))) (hn : gs[n]? = some g) (hlow : g.B.D.low) : Calls Tryz.prog 22 #[pV g.my] w fun e w' => e = .returned (.tuple #[.bool (stepG B g.B).1.1, .bool (stepG B g.B).1.2]) ∧ ∃ S, Su w0 w' b p q A B (l.set i (grpOb ((gs.set n { g with B := (stepG B g.B).2, Sy := S }).map (grO q)))) := by
  obtain ⟨G, hJ, hoff, hg, hold, hW, hP, back⟩ := h.turnG hi (map_at (f := grO q) hn)
  have hP' : GR w g.my g.dy q g.Sy g.B := hP
  refine (stepGR hJ hoff hP' hlow).mono ?_
  rintro e w' ⟨rfl, hX, hk⟩
  refine ⟨rfl, (fun x => g.Sy x ∨ Fresh w w' x), ?_⟩
  rw [List.map_set]
  refine back w' A B (grO q { g with B := (stepG B g.B).2, Sy := fun x => g.Sy x ∨ Fresh w w' x }) (Shr G w w') (hJ.shr hk (fun x _ hgx h => hoff x (h.imp id .inl) hgx)) (fun x hx => hx.1) (hk.mono (fun x _ h => .inr h)) ⟨hX, fun x hx => ?_, fun x hx hgx => ?_, fun x hx => .inl hx, fun x hx => hx.imp id .inl⟩
  · rcases hx with h | h | h | h
    · exact .inl (.inl h)
    · exact .inl (.inr (.inl h))
    · exact .inl (.inr (.inr h))
    · exact .inr h
  · rcases hx with h | h | h | h
    · exact hoff x (.inl h) hgx.1
    · exact hoff x (.inr (.inl h)) hgx.1
    · exact hoff x (.inr (.inr h)) hgx.1
    · exact hgx.2 h
end
/-- What was made since wr, apart from Z. -/
structure NewOb (wr w : World) (Z : Nat → Prop) (o : Ob) : Prop where
  ok : o.P w
  F : ∀ x, o.F x → Fresh wr w x ∧ ¬ Z x
theorem NewOb.keeps {wr w w' : World} {Z N : Nat → Prop} {o : Ob} (h : NewOb wr w Z o) (k : Keeps N w w') (hN : ∀ x, x < w.heap.size → N x → Z x) : NewOb wr w' Z o :=
  ⟨o.fr _ _ _ h.ok k (fun x hx hf hn => (h.F x hf).2 (hN x hx hn)), fun x hx => ⟨⟨(h.F x hx).1.1, Nat.lt_of_lt_of_le (h.F x hx).1.2 k.size⟩, (h.F x hx).2⟩⟩
theorem NewOb.avoid {wr w : World} {Z : Nat → Prop} {o : Ob} (h : NewOb wr w Z o) (n : Nat) (hn : w.heap.size ≤ n) : NewOb wr w (fun x => x = n) o :=
  ⟨h.ok, fun x hx => ⟨(h.F x hx).1, fun e => by have h1 := (h.F x hx).1.2; have e2 : x = n := e; omega⟩⟩
theorem NewOb.made {wr w w' : World} {Z : Nat → Prop} {o : Ob} (k : Keeps Nob wr w) (hP : o.P w') (hF : ∀ x, o.F x → Fresh w w' x) (hZ : ∀ x, Z x → x < w.heap.size) : NewOb wr w' Z o :=
  ⟨hP, fun x hx => ⟨⟨Nat.le_trans k.size (hF x hx).1, (hF x hx).2⟩, fun hz => by have h1 := hZ x hz; have h2 := (hF x hx).1; omega⟩⟩
/-- The first object of a group takes a place of its own. -/
theorem Su.spill {w0 w : World} {b p q i j : Nat} {A B : Ar} {l ls : List Ob} {o : Ob} (h : Su w0 w b p q A B l) (hi : l[i]? = some (grpOb (o :: ls))) (hj : l[j]? = some noOb) (hne : i ≠ j) : Su w0 w b p q A B ((l.set i (grpOb ls)).set j o) := by
  obtain ⟨G, hJ, hF, hg, hw, hk⟩ := h
  have hf : Fam w Nob (o :: ls) := hF.ok i _ hi
  have hil : i < l.length := (List.getElem?_eq_some_iff.1 hi).1
  have hjl : j < l.length := (List.getElem?_eq_some_iff.1 hj).1
  have hcase : ∀ (m : Nat) v, ((l.set i (grpOb ls)).set j o)[m]? = some v → (m = j ∧ v = o) ∨ (m ≠ j ∧ m = i ∧ v = grpOb ls) ∨ (m ≠ j ∧ m ≠ i ∧ l[m]? = some v) := fun m v hm => by
    rw [List.getElem?_set] at hm
    by_cases e : j = m
    · subst e
      rw [if_pos rfl] at hm
      split at hm
      · cases hm; exact .inl ⟨rfl, rfl⟩
      · cases hm
    · rw [if_neg e, List.getElem?_set] at hm
      by_cases e2 : i = m
      · subst e2
        rw [if_pos rfl, if_pos hil] at hm
        cases hm; exact .inr (.inl ⟨Ne.symm e, rfl, rfl⟩)
      · rw [if_neg e2] at hm
        exact .inr (.inr ⟨Ne.symm e, Ne.symm e2, hm⟩)
  have h0 : (o :: ls)[0]? = some o := rfl
  have hs : ∀ (m : Nat) v, ls[m]? = some v → (o :: ls)[m + 1]? = some v := fun m v hm => by simpa using hm
  have hgF : ∀ x, (grpOb ls).F x → (grpOb (o :: ls)).F x := by rintro x ⟨m, v, hm, hx⟩; exact ⟨m + 1, v, hs m v hm, hx⟩
  have hgW : ∀ x, (grpOb ls).W x → (grpOb (o :: ls)).W x := by rintro x ⟨m, v, hm, hx⟩; exact ⟨m + 1, v, hs m v hm, hx⟩
  have hoF : ∀ x, o.F x → (grpOb (o :: ls)).F x := fun x hx => ⟨0, o, h0, hx⟩
  have hoW : ∀ x, o.W x → (grpOb (o :: ls)).W x := fun x hx => ⟨0, o, h0, hx⟩
  have hls : Fam w Nob ls := ⟨fun m v hm => hf.ok _ v (hs m v hm), fun m v hm => hf.old _ v (hs m v hm), fun m v hm => hf.wf _ v (hs m v hm), fun m v hm => hf.off _ v (hs m v hm), fun m m' v v' hm hm' hmm => hf.apart _ _ v v' (hs m v hm) (hs m' v' hm') (by omega)⟩
  have how : ∀ x, o.W x → ¬ (grpOb ls).F x := by rintro x hx ⟨m, v, hm, hx'⟩; exact hf.apart 0 (m + 1) o v h0 (hs m v hm) (by omega) x hx hx'
  have hwo : ∀ x, (grpOb ls).W x → ¬ o.F x := by rintro x ⟨m, v, hm, hx⟩ hx'; exact hf.apart (m + 1) 0 v o (hs m v hm) h0 (by omega) x hx hx'
  refine ⟨G, hJ, ⟨fun m v hm => ?_, fun m v hm x hx => ?_, fun m v hm x hx => ?_, fun m v hm x hx => ?_, fun m m' v v' hm hm' hmm x hx hx' => ?_⟩, hg, fun m v hm x hx => ?_, hk⟩
  · rcases hcase m v hm with ⟨_, rfl⟩ | ⟨_, _, rfl⟩ | ⟨_, _, h1⟩
    · exact hf.ok 0 _ h0
    · exact hls
    · exact hF.ok m v h1
  · rcases hcase m v hm with ⟨_, rfl⟩ | ⟨_, _, rfl⟩ | ⟨_, _, h1⟩
    · exact hf.old 0 _ h0 x hx
    · exact hF.old i _ hi x (hgF x hx)
    · exact hF.old m v h1 x hx
  · rcases hcase m v hm with ⟨_, rfl⟩ | ⟨_, _, rfl⟩ | ⟨_, _, h1⟩
    · exact hf.wf 0 _ h0 x hx
    · obtain ⟨r, v, hr, hx⟩ := hx
      exact ⟨r, v, hr, hls.wf r v hr x hx⟩
    · exact hF.wf m v h1 x hx
  · rcases hcase m v hm with ⟨_, rfl⟩ | ⟨_, _, rfl⟩ | ⟨_, _, h1⟩
    · exact hF.off i _ hi x (hoF x hx)
    · exact hF.off i _ hi x (hgF x hx)
    · exact hF.off m v h1 x hx
  · rcases hcase m v hm with ⟨g0, rfl⟩ | ⟨g1, rfl, rfl⟩ | ⟨g1, g2, h1⟩
    · rcases hcase m' v' hm' with ⟨g3, rfl⟩ | ⟨_, rfl, rfl⟩ | ⟨k1, k2, h2⟩
      · exact hmm (g0.trans g3.symm)
      · exact how x hx hx'
      · exact hF.apart i m' _ v' hi h2 (Ne.symm k2) x (hoW x hx) hx'
    · rcases hcase m' v' hm' with ⟨_, rfl⟩ | ⟨_, rfl, rfl⟩ | ⟨k1, k2, h2⟩
      · exact hwo x hx hx'
      · exact hmm rfl
      · exact hF.apart m m' _ v' hi h2 hmm x (hgW x hx) hx'
    · rcases hcase m' v' hm' with ⟨_, rfl⟩ | ⟨_, rfl, rfl⟩ | ⟨k1, k2, h2⟩
      · exact hF.apart m i v _ h1 hi g2 x hx (hoF x hx')
      · exact hF.apart m m' v _ h1 hi hmm x hx (hgF x hx')
      · exact hF.apart m m' v v' h1 h2 hmm x hx hx'
  · rcases hcase m v hm with ⟨_, rfl⟩ | ⟨_, _, rfl⟩ | ⟨_, _, h1⟩
    · exact hw i _ hi x (hoW x hx)
    · exact hw i _ hi x (hgW x hx)
    · exact hw m v h1 x hx
/-- What stands behind number n is forgotten. -/
theorem Su.trunc {w0 w : World} {b p q : Nat} {A B : Ar} {l : List Ob} (h : Su w0 w b p q A B l) (n : Nat) : Su w0 w b p q A B (l.take n) := by
  obtain ⟨G, hJ, hF, hg, hw, hk⟩ := h
  have hs : ∀ (m : Nat) v, (l.take n)[m]? = some v → l[m]? = some v := fun m v hm => by
    rw [List.getElem?_take] at hm
    split at hm
    · exact hm
    · cases hm
  exact ⟨G, hJ, ⟨fun m v hm => hF.ok m v (hs m v hm), fun m v hm => hF.old m v (hs m v hm), fun m v hm => hF.wf m v (hs m v hm), fun m v hm => hF.off m v (hs m v hm), fun m m' v v' hm hm' => hF.apart m m' v v' (hs m v hm) (hs m' v' hm')⟩, hg, fun m v hm => hw m v (hs m v hm), hk⟩
/-- A block and two look-ups, made in one statement: the block takes place 3, the look-ups stand at the ends of the groups 4 and 5. -/
theorem Su.newPair {w0 wr w : World} {b p q N : Nat} {A B : Ar} {a0 a1 a2 a3 ox oy : Ob} {lx ly : List Ob} {t : TypeId} {cs : Array Value} (h : Su w0 wr b p q A B [a0, a1, a2, a3, grpOb lx, grpOb ly]) (k : Keeps Nob wr w) (hb : Blk w N t cs) (hN : wr.heap.size ≤ N)
    (hx : NewOb wr w (fun x => x = N) ox) (hy : NewOb wr w (fun x => x = N) oy) (hxw : ∀ x, ox.W x → ox.F x) (hyw : ∀ x, oy.W x → oy.F x) (hd : ∀ x, ox.F x → ¬ oy.F x) : Su w0 w b p q A B [a0, a1, a2, blkOb N t cs, grpOb (lx ++ [ox]), grpOb (ly ++ [oy])] := by
  have hg : Fam w Nob [blkOb N t cs, ox, oy] := by
    have h1 : Fam w Nob ([] ++ [blkOb N t cs]) := Fam.nil.snoc hb (fun x hx => by rw [show x = N from hx]; exact hb.lt) (fun x _ => id) (fun x h => h.elim) (fun j u hj => by simp at hj)
    have h2 := h1.snoc hx.ok (fun x h => (hx.F x h).1.2) (fun x _ => id) hxw (fun j u hj => by
      match j, hj with
      | 0, hj => cases hj; exact ⟨fun x h e => (hx.F x (hxw x h)).2 e, fun x h => h.elim⟩
      | j + 1, hj => simp at hj)
    exact h2.snoc hy.ok (fun x h => (hy.F x h).1.2) (fun x _ => id) hyw (fun j u hj => by
      match j, hj with
      | 0, hj => cases hj; exact ⟨fun x h e => (hy.F x (hyw x h)).2 e, fun x h => h.elim⟩
      | 1, hj => cases hj; exact ⟨fun x h e => hd x e (hyw x h), fun x h e => hd x (hxw x h) e⟩
      | j + 2, hj => simp at hj)
  have h0 := ((h.push (Keeps.refl _ _) (o := noOb) trivial (fun x h => h.elim) (fun x h => h.elim)).push (Keeps.refl _ _) (o := noOb) trivial (fun x h => h.elim) (fun x h => h.elim)).push (Keeps.refl _ _) (o := noOb) trivial (fun x h => h.elim) (fun x h => h.elim)
  have h1 := h0.put (i := 3) (o' := noOb) rfl (Keeps.refl _ _) trivial (fun x h => h.elim) (fun x h => h.elim)
  simp only [List.cons_append, List.nil_append, List.set_cons_zero, List.set_cons_succ] at h1
  have h2 := h1.put (i := 6) (o' := grpOb [blkOb N t cs, ox, oy]) rfl k hg (fun x hx' => by
    obtain ⟨j, u, hj, hu⟩ := hx'
    match j, hj with
    | 0, hj => cases hj; rw [show x = N from hu]; exact ⟨hN, hb.lt⟩
    | 1, hj => cases hj; exact (hx.F x hu).1
    | 2, hj => cases hj; exact (hy.F x hu).1
    | j + 3, hj => simp at hj) (fun x hx' => by
    obtain ⟨j, u, hj, hu⟩ := hx'
    exact ⟨j, u, hj, hg.wf j u hj x hu⟩)
  simp only [List.set_cons_zero, List.set_cons_succ] at h2
  have h3 := h2.spill (i := 6) (j := 3) rfl rfl (by decide)
  simp only [List.set_cons_zero, List.set_cons_succ] at h3
  have h4 := h3.spill (i := 6) (j := 7) rfl rfl (by decide)
  simp only [List.set_cons_zero, List.set_cons_succ] at h4
  have h5 := h4.spill (i := 6) (j := 8) rfl rfl (by decide)
  simp only [List.set_cons_zero, List.set_cons_succ] at h5
  have h6 := h5.moveG (i := 4) (j := 7) rfl rfl (by decide)
  simp only [List.cons_append, List.nil_append, List.set_cons_zero, List.set_cons_succ] at h6
  have h7 := h6.moveG (i := 5) (j := 8) rfl rfl (by decide)
  simp only [List.set_cons_zero, List.set_cons_succ] at h7
  exact h7.trunc 6
end Go.Proofs.YtbhohohgojcapaaGreat

import Derived.Test.YtbhohohgojcapaaPkE0
import Derived.Test.YtbhohohgojcapaaPkC6
namespace Go.Proofs.Ytbhohohgojcapaa
open Go.RowKit

theorem check9 : checkM (ar0 9) 9 2 3 2 4 = ⟨true, 0, 0, 1, 1, 0⟩ := by decide
set_option maxRecDepth 100000 in
set_option maxHeartbeats 64000000 in
theorem head11 (w : World) : Calls Try.prog 30 #[] w fun e w' => e = .returned (.bool true) ∧ Keeps Nob w w' := by
  have hsm : ∀ s ∈ (ar0 9).sl, NdSm 0 s.nd := fun s hs => by have h : s = ⟨0, Nd.zero⟩ := (by simpa [ar0] using hs); rw [h]; exact sm_zero
  have hkw : ∀ s ∈ (ar0 9).sl, ∀ k ∈ s.nd.kids, K64 k := fun s hs k hk => by have h : s = ⟨0, Nd.zero⟩ := (by simpa [ar0] using hs); rw [h] at hk; simp [Nd.zero] at hk
  have FN := fun w => new_ok (n := 9) w (by decide) (by decide)
  have FC := fun (wx : World) (p : Nat) M D s i (h : ArW wx M D p s i (ar0 9)) => pcheckR (a0 := 9) (a1 := 2) (a2 := 3) (a3 := 2) (a4 := 4) h hsm hkw
  have FP := fun (wx : World) (p : Nat) M D s i (h : ArW wx M D p s i (ar0 9)) => ppacked9 h
  rw [check9] at FC
  unfold pV at FN FC FP
  unfold iV at FN
  unfold rpV at FC
  simp only at FC
  clear hsm hkw
  go_enter Try.func30, Try.ntmps30
  have f0 := ((Blk.new w 69 #[.int .i64 0, .int .i64 0, .int .i64 0, .int .i64 0, .int .i64 0])).frozen 0
  have z0 := ((Blk.new w 69 #[.int .i64 0, .int .i64 0, .int .i64 0, .int .i64 0, .int .i64 0])).cell 0
  have f1 := fun (v0 : Value) => (((Blk.new w 69 #[.int .i64 0, .int .i64 0, .int .i64 0, .int .i64 0, .int .i64 0])).set_ 0 v0).frozen 1
  have z1 := fun (v0 : Value) => (((Blk.new w 69 #[.int .i64 0, .int .i64 0, .int .i64 0, .int .i64 0, .int .i64 0])).set_ 0 v0).cell 1
  have f2 := fun (v0 v1 : Value) => ((((Blk.new w 69 #[.int .i64 0, .int .i64 0, .int .i64 0, .int .i64 0, .int .i64 0])).set_ 0 v0).set_ 1 v1).frozen 2
  have z2 := fun (v0 v1 : Value) => ((((Blk.new w 69 #[.int .i64 0, .int .i64 0, .int .i64 0, .int .i64 0, .int .i64 0])).set_ 0 v0).set_ 1 v1).cell 2
  have f3 := fun (v0 v1 v2 : Value) => (((((Blk.new w 69 #[.int .i64 0, .int .i64 0, .int .i64 0, .int .i64 0, .int .i64 0])).set_ 0 v0).set_ 1 v1).set_ 2 v2).frozen 3
  have z3 := fun (v0 v1 v2 : Value) => (((((Blk.new w 69 #[.int .i64 0, .int .i64 0, .int .i64 0, .int .i64 0, .int .i64 0])).set_ 0 v0).set_ 1 v1).set_ 2 v2).cell 3
  have f4 := fun (v0 v1 v2 v3 : Value) => ((((((Blk.new w 69 #[.int .i64 0, .int .i64 0, .int .i64 0, .int .i64 0, .int .i64 0])).set_ 0 v0).set_ 1 v1).set_ 2 v2).set_ 3 v3).frozen 4
  have z4 := fun (v0 v1 v2 v3 : Value) => ((((((Blk.new w 69 #[.int .i64 0, .int .i64 0, .int .i64 0, .int .i64 0, .int .i64 0])).set_ 0 v0).set_ 1 v1).set_ 2 v2).set_ 3 v3).cell 4
  go_wp2_with fail
  clear f0 z0 f1 z1 f2 z2 f3 z3 f4 z4
  obtain ⟨P1, hP⟩ : ∃ N, w.heap.size = N := ⟨_, rfl⟩
  rw [hP]
  refine calls_at (fun w1 hw => ?_)
  have HB : Hid (Blk w1 P1 69 #[.int .i64 9, .int .i64 2, .int .i64 3, .int .i64 2, .int .i64 4]) := by rw [hw, ← hP]; exact Lib.hid (Blk.new _ _ _)
  have K : Hid (Keeps Nob w w1) := by rw [hw]; exact Lib.hid (Keeps.alloc _ _ _)
  clear hw hP
  refine (FN _).mono ?_
  rintro e w2 ⟨rfl, hX, hk⟩
  obtain ⟨slots, ids, hX⟩ := hX
  obtain ⟨P, hP⟩ : ∃ P, w1.heap.size + 2 = P := ⟨_, rfl⟩
  rw [hP] at hX ⊢
  have HX := Lib.hid hX
  replace HB := Lib.hid (HB.out.keeps hk (fun h => h))
  replace K := Lib.hid (K.out.trans hk (fun _ _ h => h))
  clear hk hX hP FN
  have c0 := HB.out.cell 0
  have c1 := HB.out.cell 1
  have c2 := HB.out.cell 2
  have c3 := HB.out.cell 3
  have c4 := HB.out.cell 4
  go_wp2_with fail
  clear c0 c1 c2 c3 c4
  refine (FC _ _ _ _ _ _ HX.out).mono ?_
  rintro e w3 ⟨rfl, hk⟩
  replace HX := Lib.hid (HX.out.keeps hk (fun _ _ _ h => h) (fun _ _ _ h => h))
  replace HB := Lib.hid (HB.out.keeps hk (fun h => h))
  replace K := Lib.hid (K.out.trans hk (fun _ _ h => h))
  clear hk FC
  have f0 := ((Blk.new w3 74 #[.bool false, .int .i64 0, .int .i64 0, .int .i64 0, .int .i64 0, .int .i64 0])).frozen 0
  have z0 := ((Blk.new w3 74 #[.bool false, .int .i64 0, .int .i64 0, .int .i64 0, .int .i64 0, .int .i64 0])).cell 0
  have f1 := fun (v0 : Value) => (((Blk.new w3 74 #[.bool false, .int .i64 0, .int .i64 0, .int .i64 0, .int .i64 0, .int .i64 0])).set_ 0 v0).frozen 1
  have z1 := fun (v0 : Value) => (((Blk.new w3 74 #[.bool false, .int .i64 0, .int .i64 0, .int .i64 0, .int .i64 0, .int .i64 0])).set_ 0 v0).cell 1
  have f2 := fun (v0 v1 : Value) => ((((Blk.new w3 74 #[.bool false, .int .i64 0, .int .i64 0, .int .i64 0, .int .i64 0, .int .i64 0])).set_ 0 v0).set_ 1 v1).frozen 2
  have z2 := fun (v0 v1 : Value) => ((((Blk.new w3 74 #[.bool false, .int .i64 0, .int .i64 0, .int .i64 0, .int .i64 0, .int .i64 0])).set_ 0 v0).set_ 1 v1).cell 2
  have f3 := fun (v0 v1 v2 : Value) => (((((Blk.new w3 74 #[.bool false, .int .i64 0, .int .i64 0, .int .i64 0, .int .i64 0, .int .i64 0])).set_ 0 v0).set_ 1 v1).set_ 2 v2).frozen 3
  have z3 := fun (v0 v1 v2 : Value) => (((((Blk.new w3 74 #[.bool false, .int .i64 0, .int .i64 0, .int .i64 0, .int .i64 0, .int .i64 0])).set_ 0 v0).set_ 1 v1).set_ 2 v2).cell 3
  have f4 := fun (v0 v1 v2 v3 : Value) => ((((((Blk.new w3 74 #[.bool false, .int .i64 0, .int .i64 0, .int .i64 0, .int .i64 0, .int .i64 0])).set_ 0 v0).set_ 1 v1).set_ 2 v2).set_ 3 v3).frozen 4
  have z4 := fun (v0 v1 v2 v3 : Value) => ((((((Blk.new w3 74 #[.bool false, .int .i64 0, .int .i64 0, .int .i64 0, .int .i64 0, .int .i64 0])).set_ 0 v0).set_ 1 v1).set_ 2 v2).set_ 3 v3).cell 4
  have f5 := fun (v0 v1 v2 v3 v4 : Value) => (((((((Blk.new w3 74 #[.bool false, .int .i64 0, .int .i64 0, .int .i64 0, .int .i64 0, .int .i64 0])).set_ 0 v0).set_ 1 v1).set_ 2 v2).set_ 3 v3).set_ 4 v4).frozen 5
  have z5 := fun (v0 v1 v2 v3 v4 : Value) => (((((((Blk.new w3 74 #[.bool false, .int .i64 0, .int .i64 0, .int .i64 0, .int .i64 0, .int .i64 0])).set_ 0 v0).set_ 1 v1).set_ 2 v2).set_ 3 v3).set_ 4 v4).cell 5
  go_upto_region 6 with (fail)
  clear f0 z0 f1 z1 f2 z2 f3 z3 f4 z4 f5 z5
  obtain ⟨P4, hN⟩ : ∃ N, w3.heap.size = N := ⟨_, rfl⟩
  rw [hN]
  refine code_at (fun w4 hw => ?_)
  have hk : Keeps Nob w3 w4 := by rw [hw]; exact Keeps.alloc _ _ _
  have hR : Blk w4 P4 74 #[.bool true, .int .i64 0, .int .i64 0, .int .i64 1, .int .i64 1, .int .i64 0] := by rw [hw, ← hN]; exact Blk.new _ _ _
  have r0 := hR.cell 0
  have r3 := hR.cell 3
  have r4 := hR.cell 4
  have r5 := hR.cell 5
  replace HX := Lib.hid (HX.out.keeps hk (fun _ _ _ h => h) (fun _ _ _ h => h))
  replace HB := Lib.hid (HB.out.keeps hk (fun h => h))
  replace K := Lib.hid (K.out.trans hk (fun _ _ h => h))
  clear hk hw hN hR
  have c0 := HB.out.cell 0
  have c1 := HB.out.cell 1
  have c2 := HB.out.cell 2
  have c3 := HB.out.cell 3
  have c4 := HB.out.cell 4
  go_wp2_with fail
  clear c0 c1 c2 c3 c4 r0 r3 r4 r5
  refine (FP _ _ _ _ _ _ HX.out).mono ?_
  rintro e w5 ⟨rfl, hk⟩
  replace K := Lib.hid (K.out.trans hk (fun _ _ h => h))
  clear hk
  go_wp2
  go_ret
  exact ⟨rfl, K.out⟩
end Go.Proofs.Ytbhohohgojcapaa

namespace Go.Proofs.Ytbhohohgojcapaa
open Go.RowKit

/-- Objects in memory w, those that may be written made since w0; all that was there at w0 is kept. -/
structure Fo (w0 w : World) (l : List Ob) : Prop where
  fam : Fam w Nob l
  own : ∀ (i : Nat) o, l[i]? = some o → ∀ x, o.W x → w0.heap.size ≤ x
  kept : Keeps Nob w0 w
section
variable {w0 w w' : World} {l : List Ob} {i n m size g : Nat} {o o' : Ob} {e t : TypeId} {v v' : Value} {xs ys : List Value} {cs cs' : Array Value} {N : Nat → Prop}
theorem Fo.nil (w : World) : Fo w w [] := ⟨Fam.nil, fun i o h => by simp at h, Keeps.refl _ _⟩
theorem Fo.get (h : Fo w0 w l) (hi : l[i]? = some o) : o.P w := h.fam.ok i _ hi
theorem Fo.nob (h : Fo w0 w l) (k : Keeps Nob w w') : Fo w0 w' l := ⟨h.fam.nob k, h.own, h.kept.trans k (fun _ _ h => h)⟩
theorem Fo.wr (h : Fo w0 w l) (hi : l[i]? = some o) (k : Keeps N w w') (hN : ∀ x, x < w.heap.size → N x → o.W x) (hP : o'.P w') (hF : ∀ x, o'.F x → o.F x ∨ Fresh w w' x) (hW : ∀ x, o'.W x → o.W x ∨ Fresh w w' x) (hWF : ∀ x, o'.W x → o'.F x) : Fo w0 w' (l.set i o') := by
  refine ⟨h.fam.wr hi k hN hP hF hW hWF, fun j u hj x hx => ?_, h.kept.trans k (fun x hx hn => ?_)⟩
  · rw [List.getElem?_set] at hj
    split at hj
    · split at hj
      · cases hj
        rcases hW x hx with h1 | h1
        · exact h.own i _ hi x h1
        · exact Nat.le_trans h.kept.size h1.1
      · cases hj
    · exact h.own j u hj x hx
  · have h1 := h.own i _ hi x (hN x (Nat.lt_of_lt_of_le hx h.kept.size) hn)
    exact absurd hx (Nat.not_lt.2 h1)
theorem Fo.push (h : Fo w0 w l) (k : Keeps Nob w w') (hP : o.P w') (hF : ∀ x, o.F x → Fresh w w' x) (hWF : ∀ x, o.W x → o.F x) : Fo w0 w' (l ++ [o]) := by
  refine ⟨h.fam.add k hP hF hWF, fun j u hj x hx => ?_, h.kept.trans k (fun _ _ h => h)⟩
  rcases List.getElem?_append (l₁ := l) (l₂ := [o]) (i := j) ▸ hj with hj
  split at hj
  · exact h.own j u hj x hx
  · rcases hh : j - l.length with _ | r
    · rw [hh] at hj; simp at hj; subst hj
      exact Nat.le_trans h.kept.size (hF x (hWF x hx)).1
    · rw [hh] at hj; simp at hj
/-- A thing of another make takes a place. -/
theorem Fo.put (h : Fo w0 w l) (hi : l[i]? = some o) (k : Keeps Nob w w') (hP : o'.P w') (hF : ∀ x, o'.F x → Fresh w w' x) (hWF : ∀ x, o'.W x → o'.F x) : Fo w0 w' (l.set i o') :=
  h.wr hi k (fun _ _ h => h.elim) hP (fun x hx => .inr (hF x hx)) (fun x hx => .inr (hF x (hWF x hx))) hWF
theorem Fo.no (h : Fo w0 w l) : Fo w0 w (l ++ [noOb]) := h.push (Keeps.refl _ _) trivial (fun x h => h.elim) (fun x h => h.elim)
theorem Fo.nilRow (h : Fo w0 w l) (e : TypeId) (size : Nat) : Fo w0 w (l ++ [rowOb e size (.slice none 0 0) 0 []]) :=
  h.push (Keeps.refl _ _) (Own.nil _ _ _ _) (fun x hx => by cases hx) (fun x h => h)
theorem Fo.blkPut (h : Fo w0 w l) (hi : l[i]? = some o) (k : Keeps Nob w w') (hb : Blk w' g t cs) (hg : w.heap.size ≤ g) : Fo w0 w' (l.set i (muBlk g t cs)) :=
  h.put hi k hb (fun x hx => by rw [show x = g from hx]; exact ⟨hg, hb.lt⟩) (fun _ h => h)
theorem Fo.blkSet (h : Fo w0 w l) (hi : l[i]? = some (muBlk g t cs)) (k : Keeps (fun x => x = g) w w') (hb : Blk w' g t cs') : Fo w0 w' (l.set i (muBlk g t cs')) :=
  h.wr hi k (fun x _ e => e) hb (fun x hx => .inl hx) (fun x hx => .inl hx) (fun _ h => h)
theorem Fo.app (h : Fo w0 w l) (hi : l[i]? = some (rowOb e size v n xs)) (k : Keeps (fun b => v.ownBlock = some b) w w') (ho : Own w' (fun b => v.ownBlock = some b ∨ Fresh w w' b) e size v' m ys) : Fo w0 w' (l.set i (rowOb e size v' m ys)) :=
  h.wr hi k (fun _ _ h => h) ho.self (fun x hx => (ho.blk hx).1) (fun x hx => (ho.blk hx).1) (fun _ h => h)
/-- What only reads grows by what is new. -/
theorem Fo.grow (h : Fo w0 w l) (hi : l[i]? = some o) (k : Keeps Nob w w') (hP : o'.P w') (hF : ∀ x, o'.F x → o.F x ∨ Fresh w w' x) (hW : ∀ x, ¬ o'.W x) : Fo w0 w' (l.set i o') :=
  h.wr hi k (fun _ _ h => h.elim) hP hF (fun x hx => absurd hx (hW x)) (fun x hx => absurd hx (hW x))
theorem Fo.drop (h : Fo w0 w l) (hi : l[i]? = some o) : Fo w0 w (l.set i noOb) :=
  h.put hi (Keeps.refl _ _) trivial (fun x h => h.elim) (fun x h => h.elim)
end
end Go.Proofs.Ytbhohohgojcapaa

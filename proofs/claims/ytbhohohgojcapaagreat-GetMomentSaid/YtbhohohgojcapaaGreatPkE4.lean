import Derived.Test.YtbhohohgojcapaaGreatPkD6
import Derived.Test.YtbhohohgojcapaaGreatPkE3
import Derived.Test.YtbhohohgojcapaaGreatPkD1
set_option maxHeartbeats 64000000
namespace Go.Proofs.YtbhohohgojcapaaGreat
open Go.RowKit
section
variable {M D : Nat -> Prop} {w : World} {q : Nat} {L : Value} {xs : List Value} {A : Ar}
theorem field_sound (rs : Bool) (rn re rl rns rents : Int) (w : World) : (Instr.field 42 (.agg #[.bool rs, .int .i64 rn, .int .i64 re, .int .i64 rl, .int .i64 rns, .int .i64 rents]) 0).run Tryz.prog w = .ok (.bool rs) w := by
 kernel_rfl
def ZeroTo (A B : Ar) (k : Nat) : Prop := B.nodes = A.nodes /\ B.root = A.root /\ B.sl.length = A.sl.length /\ ∀ (j : Nat) s, A.sl[j]? = some s -> B.sl[j]? = some (if j < k then ⟨0, s.nd⟩ else s)
theorem zeroTo_end {B : Ar} (h : ZeroTo A B A.sl.length) : B = zeroW A := by
 obtain ⟨h1, h2, h3, h4⟩ := h
 have h5 : B.sl = (zeroW A).sl := by
  apply List.ext_getElem?
  intro j
  unfold zeroW
  rw [List.getElem?_map]
  rcases hj : A.sl[j]? with _ | s
  ·have := List.getElem?_eq_none_iff.1 hj
   rw [List.getElem?_eq_none (by omega)]; rfl
  ·have hl := (List.getElem?_eq_some_iff.1 hj).1
   rw [h4 j s hj, if_pos hl]; rfl
 cases B
 simp only at h1 h2 h5
 subst h1 h2 h5
 rfl
theorem zeroTo_step {B : Ar} {k : Nat} {t : Sl} (h : ZeroTo A B k) (ht : B.sl[k]? = some t) : ZeroTo A { B with sl := B.sl.set k ⟨0, t.nd⟩ } (k + 1) := by
 obtain ⟨h1, h2, h3, h4⟩ := h
 have hl := (List.getElem?_eq_some_iff.1 ht).1
 refine ⟨h1, h2, by simpa using h3, λ j s hs => ?_⟩
 show (B.sl.set k _)[j]? = _
 by_cases e : j = k
 ·subst e
  have h5 := h4 j s hs
  rw [ht, if_neg (by omega)] at h5
  cases h5
  rw [List.getElem?_set_self hl, if_pos (by omega)]
 ·rw [List.getElem?_set_ne (λ h => e h.symm), h4 j s hs]
  by_cases hjk : j < k
  ·rw [if_pos hjk, if_pos (by omega)]
  ·rw [if_neg hjk, if_neg (by omega)]
set_option maxRecDepth 100000 in
theorem soundR {a0 a1 a2 a3 a4 : Int} (h0 : DocW w M D q L xs A) (hsm : ∀ s ∈ A.sl, NdSm 0 s.nd) : Calls Tryz.prog 25 #[pV q, .agg #[.int .i64 a0, .int .i64 a1, .int .i64 a2, .int .i64 a3, .int .i64 a4]] w λ e w' => e = .returned (.bool (checkM (zeroW A) a0 a1 a2 a3 a4).sound) /\ Keeps Nob w w' := by
 have H0 := Hd h0
 have HSM := Hd hsm
 have hbd := h0.bound
 have hal : A.sl.length <= 65536 := by omega
 clear h0 hsm
 have FC := λ wx (h : DocW wx M D q L xs A) => copyR h HSM.out
 unfold pV at FC ⊢
 obtain ⟨P3, hP⟩ : ∃ N, w.heap.size = N := ⟨_, rfl⟩
 go_enter Tryz.func25, Tryz.ntmps25
 go_wp2_with fail
 refine calls_at (λ w1 hw => ?_)
 have hk : Keeps Nob w w1 := by rw [hw]; exact Keeps.alloc _ _ _
 have HB : Hid (Blk w1 P3 49 #[.int .i64 a0, .int .i64 a1, .int .i64 a2, .int .i64 a3, .int .i64 a4]) := by rw [hw, <- hP]; exact Hd (Blk.new _ _ _)
 have K := Hd hk
 have HSZ : Hid (w1.heap.size = w.heap.size + 1 /\ w.heap.size = P3) := by rw [hw]; exact Hd ⟨by simp, hP⟩
 clear hw hP
 refine (FC _ (H0.out.keeps hk (λ _ _ _ h => h) (λ _ _ _ h => h))).mono ?_
 rintro e w2 ⟨q2, rfl, Lv, M1, D1, ys, hD, hM, hDD, hk2⟩
 rw [List.take_length] at hD
 replace HB := Hd (HB.out.keeps hk2 (λ h => h))
 have HD0 : Hid (∃ B Lv zs, ZeroTo A B 0 /\ DocW w2 M1 D1 q2 Lv zs B) := Hd ⟨A, Lv, ys, ⟨rfl, rfl, rfl, λ j s h => by rw [if_neg (by omega)]; exact h⟩, hD⟩
 have HM := Hd hM
 have K2 := Hd hk2
 clear hk hk2 hD hM hDD FC
 go_wp2_with fail
 go_loopw [6] (λ iv wr => ∃ k : Nat, k <= A.sl.length /\ iv = .int .i64 k /\ (∃ B Lv zs, ZeroTo A B k /\ DocW wr M1 D1 q2 Lv zs B) /\ Keeps M1 w2 wr) (λ iv _ => A.sl.length - (intOf iv).toNat)
 case atStart => exact ⟨0, Nat.zero_le _, rfl, HD0.out, Keeps.refl _ _⟩
 clear HD0
 obtain ⟨k, hk, rfl, ⟨B, Lv, zs, hZ, hD⟩, hkr⟩ := hrel
 have HZ := Hd hZ
 have K3 := Hd hkr
 have hlen : B.sl.length = A.sl.length := hZ.2.2.1
 obtain ⟨aL, cL0, eL⟩ := hD.row.form
 rw [hlen] at eL
 subst eL
 have HD := Hd hD
 have sq : wr.cell? ⟨q2, 1, none⟩ = some (.slice aL A.sl.length cL0) := hD.blk.cell 1
 clear hZ hkr hD
 rcases Nat.lt_or_ge k A.sl.length with hlt | hlt
 rotate_left
 ·obtain rfl : k = A.sl.length := by omega
  have hB : B = zeroW A := zeroTo_end HZ.out
  have c0 := HB.out.keeps (w' := wr) K3.out (λ h => by have := HM.out _ h; have := HSZ.out; omega)
  have b0 := c0.cell 0
  have b1 := c0.cell 1
  have b2 := c0.cell 2
  have b3 := c0.cell 3
  have b4 := c0.cell 4
  have HSMZ : Hid (∀ s ∈ B.sl, NdSm 0 s.nd) := by
   rw [hB]
   intro s hs
   unfold zeroW at hs
   obtain ⟨t, ht, rfl⟩ := List.mem_map.1 hs
   exact HSM.out t ht
  have FK := λ wx (h : DocW wx M1 D1 q2 (.slice aL A.sl.length cL0) zs B) => checkRep (a0 := a0) (a1 := a1) (a2 := a2) (a3 := a3) (a4 := a4) h HSMZ.out
  rw [hB] at FK
  obtain ⟨r, hr⟩ : ∃ r, checkM (zeroW A) a0 a1 a2 a3 a4 = r := ⟨_, rfl⟩
  rw [hr] at FK
  obtain ⟨rs, rn, re, rl, rns, rents⟩ := r
  have HR := Hd hr
  unfold rpV pV at FK
  clear c0 hr
  go_wp2_with fail
  clear b0 b1 b2 b3 b4 sq
  refine (FK _ (hB ▸ HD.out)).mono ?_
  rintro e w3 ⟨rfl, hk3⟩
  have HK3 := Hd hk3
  clear hk3
  go_wp2
  rw [field_sound]
  go_simp
  go_wp2
  go_ret
  exact ⟨by rw [HR.out]; rfl, ((K.out.trans K2.out (λ _ _ h => h)).trans K3.out (λ x hx hm => by have := HM.out x hm; have := HSZ.out; omega)).trans HK3.out (λ _ _ h => h)⟩
 obtain ⟨t, ht⟩ : ∃ t, B.sl[k]? = some t := ⟨_, List.getElem?_eq_getElem (by omega)⟩
 have hg : B.get ((k : Int) + 1) = some t := by unfold Ar.get; rw [if_pos (by omega), show ((k : Int) + 1 - 1).toNat = k by omega]; exact ht
 obtain ⟨i0, g, o, cL, e0, _, _, _, _, hL1, hmg, ⟨cur, hgb⟩, hcw, hfr, hu⟩ := HD.out.at_ hg
 obtain rfl : k = i0 := by omega
 rw [hlen] at hL1
 injection hL1 with e2 _ e3
 subst e2 e3
 have HD2 := HD.out
 rw [<- hlen] at HD2
 have HX := Hd (HD2.setWord ht (x := 0) (by unfold U64; decide))
 have HT := Hd ht
 have HMG := Hd hmg
 clear HD2 hg e0 hu hgb hmg ht hlen
 go_wp2
 clear sq hcw hfr
 go_roundw
 case rel => exact ⟨k + 1, hlt, by go_num, ⟨_, _, _, zeroTo_step HZ.out HT.out, HX.out⟩, K3.out.trans (Keeps.setCell _ HMG.out _) (λ _ _ h => h)⟩
 case measure => simp [intOf]; omega
end
end Go.Proofs.YtbhohohgojcapaaGreat

namespace Go.Proofs.YtbhohohgojcapaaGreat
open Go.RowKit
structure Fo (w0 w : World) (l : List Ob) : Prop where
 fam : Fam w Nob l
 own : ∀ (i : Nat) o, l[i]? = some o -> ∀ x, o.W x -> w0.heap.size <= x
 kept : Keeps Nob w0 w
section
variable {w0 w w' : World} {l : List Ob} {i n m size g : Nat} {o o' : Ob} {e t : TypeId} {v v' : Value} {xs ys : List Value} {cs cs' : Array Value} {N : Nat -> Prop}
theorem Fo.nil (w : World) : Fo w w [] := ⟨Fam.nil, λ i o h => by simp at h, Keeps.refl _ _⟩
theorem Fo.get (h : Fo w0 w l) (hi : l[i]? = some o) : o.P w := h.fam.ok i _ hi
theorem Fo.nob (h : Fo w0 w l) (k : Keeps Nob w w') : Fo w0 w' l := ⟨h.fam.nob k, h.own, h.kept.trans k (λ _ _ h => h)⟩
theorem Fo.wr (h : Fo w0 w l) (hi : l[i]? = some o) (k : Keeps N w w') (hN : ∀ x, x < w.heap.size -> N x -> o.W x) (hP : o'.P w') (hF : ∀ x, o'.F x -> o.F x \/ Fresh w w' x) (hW : ∀ x, o'.W x -> o.W x \/ Fresh w w' x) (hWF : ∀ x, o'.W x -> o'.F x) : Fo w0 w' (l.set i o') := by
 refine ⟨h.fam.wr hi k hN hP hF hW hWF, λ j u hj x hx => ?_, h.kept.trans k (λ x hx hn => ?_)⟩
 ·rw [List.getElem?_set] at hj
  split at hj
  ·split at hj
   ·cases hj
    rcases hW x hx with h1 | h1
    ·exact h.own i _ hi x h1
    ·exact Nat.le_trans h.kept.size h1.1
   ·cases hj
  ·exact h.own j u hj x hx
 ·have h1 := h.own i _ hi x (hN x (Nat.lt_of_lt_of_le hx h.kept.size) hn)
  exact absurd hx (Nat.not_lt.2 h1)
theorem Fo.push (h : Fo w0 w l) (k : Keeps Nob w w') (hP : o.P w') (hF : ∀ x, o.F x -> Fresh w w' x) (hWF : ∀ x, o.W x -> o.F x) : Fo w0 w' (l ++ [o]) := by
 refine ⟨h.fam.add k hP hF hWF, λ j u hj x hx => ?_, h.kept.trans k (λ _ _ h => h)⟩
 rcases List.getElem?_append (l₁ := l) (l₂ := [o]) (i := j) ▸ hj with hj
 split at hj
 ·exact h.own j u hj x hx
 ·rcases hh : j - l.length with _ | r
  ·rw [hh] at hj; simp at hj; subst hj
   exact Nat.le_trans h.kept.size (hF x (hWF x hx)).1
  ·rw [hh] at hj; simp at hj
theorem Fo.put (h : Fo w0 w l) (hi : l[i]? = some o) (k : Keeps Nob w w') (hP : o'.P w') (hF : ∀ x, o'.F x -> Fresh w w' x) (hWF : ∀ x, o'.W x -> o'.F x) : Fo w0 w' (l.set i o') :=
 h.wr hi k (λ _ _ h => h.elim) hP (λ x hx => .inr (hF x hx)) (λ x hx => .inr (hF x (hWF x hx))) hWF
theorem Fo.no (h : Fo w0 w l) : Fo w0 w (l ++ [noOb]) := h.push (Keeps.refl _ _) trivial (λ x h => h.elim) (λ x h => h.elim)
theorem Fo.nilRow (h : Fo w0 w l) (e : TypeId) (size : Nat) : Fo w0 w (l ++ [rowOb e size (.slice none 0 0) 0 []]) :=
 h.push (Keeps.refl _ _) (Own.nil _ _ _ _) (λ x hx => by cases hx) (λ x h => h)
theorem Fo.blkPut (h : Fo w0 w l) (hi : l[i]? = some o) (k : Keeps Nob w w') (hb : Blk w' g t cs) (hg : w.heap.size <= g) : Fo w0 w' (l.set i (muBlk g t cs)) :=
 h.put hi k hb (λ x hx => by rw [show x = g from hx]; exact ⟨hg, hb.lt⟩) (λ _ h => h)
theorem Fo.blkSet (h : Fo w0 w l) (hi : l[i]? = some (muBlk g t cs)) (k : Keeps (λ x => x = g) w w') (hb : Blk w' g t cs') : Fo w0 w' (l.set i (muBlk g t cs')) :=
 h.wr hi k (λ x _ e => e) hb (λ x hx => .inl hx) (λ x hx => .inl hx) (λ _ h => h)
theorem Fo.app (h : Fo w0 w l) (hi : l[i]? = some (rowOb e size v n xs)) (k : Keeps (λ b => v.ownBlock = some b) w w') (ho : Own w' (λ b => v.ownBlock = some b \/ Fresh w w' b) e size v' m ys) : Fo w0 w' (l.set i (rowOb e size v' m ys)) :=
 h.wr hi k (λ _ _ h => h) ho.self (λ x hx => (ho.blk hx).1) (λ x hx => (ho.blk hx).1) (λ _ h => h)
theorem Fo.grow (h : Fo w0 w l) (hi : l[i]? = some o) (k : Keeps Nob w w') (hP : o'.P w') (hF : ∀ x, o'.F x -> o.F x \/ Fresh w w' x) (hW : ∀ x, ¬ o'.W x) : Fo w0 w' (l.set i o') :=
 h.wr hi k (λ _ _ h => h.elim) hP hF (λ x hx => absurd hx (hW x)) (λ x hx => absurd hx (hW x))
theorem Fo.drop (h : Fo w0 w l) (hi : l[i]? = some o) : Fo w0 w (l.set i noOb) :=
 h.put hi (Keeps.refl _ _) trivial (λ x h => h.elim) (λ x h => h.elim)
end
end Go.Proofs.YtbhohohgojcapaaGreat

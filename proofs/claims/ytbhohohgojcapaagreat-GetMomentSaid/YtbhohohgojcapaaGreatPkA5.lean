import Derived.Test.YtbhohohgojcapaaGreatPkA4
set_option maxHeartbeats 64000000
namespace Go.Proofs.YtbhohohgojcapaaGreat
open Go.RowKit
def SlotIn (w : World) (D : Nat -> Prop) (xs : List Value) (i : Nat) (s : Sl) : Prop :=
 ∃ c0 c1 c2 c3 c4 c5, xs[i * 7]? = some (.int .u64 s.word) /\ xs[i * 7 + 1]? = some c0 /\ xs[i * 7 + 2]? = some c1 /\ xs[i * 7 + 3]? = some c2 /\ xs[i * 7 + 4]? = some c3 /\ xs[i * 7 + 5]? = some c4 /\ xs[i * 7 + 6]? = some c5 /\ IsNd w D c0 c1 c2 c3 c4 c5 s.nd /\ U64 s.word
structure DocW (w : World) (M D : Nat -> Prop) (q : Nat) (L : Value) (xs : List Value) (A : Ar) : Prop where
 blk : Blk w q 91 #[iV A.nodes, L, iV A.root]
 row : Own w M 88 7 L A.sl.length xs
 slot : ∀ (i : Nat) s, A.sl[i]? = some s -> SlotIn w D xs i s
 mp : M q
 apart : ∀ b, M b -> ¬ D b
 mlt : ∀ b, M b -> b < w.heap.size
 dlt : ∀ b, D b -> b < w.heap.size
 bound : A.sl.length <= A.nodes /\ A.nodes <= 65536
section
variable {M D D' N : Nat -> Prop} {w w' : World} {q i : Nat} {L : Value} {xs ys : List Value} {A : Ar} {s s' : Sl} {ix : Int}
theorem SlotIn.keeps (h : SlotIn w D xs i s) (k : Keeps N w w') (hd : ∀ b, b < w.heap.size -> D b -> ¬ N b) : SlotIn w' D xs i s := by
 obtain ⟨c0, c1, c2, c3, c4, c5, h0, h1, h2, h3, h4, h5, h6, h7, h8⟩ := h
 exact ⟨c0, c1, c2, c3, c4, c5, h0, h1, h2, h3, h4, h5, h6, h7.keeps k hd, h8⟩
theorem SlotIn.mono (h : SlotIn w D xs i s) (hd : ∀ b, b < w.heap.size -> D b -> D' b) : SlotIn w D' xs i s := by
 obtain ⟨c0, c1, c2, c3, c4, c5, h0, h1, h2, h3, h4, h5, h6, h7, h8⟩ := h
 exact ⟨c0, c1, c2, c3, c4, c5, h0, h1, h2, h3, h4, h5, h6, h7.mono hd, h8⟩
theorem SlotIn.other (h : SlotIn w D xs i s) (he : ∀ j, i * 7 <= j -> j < i * 7 + 7 -> ys[j]? = xs[j]?) : SlotIn w D ys i s := by
 obtain ⟨c0, c1, c2, c3, c4, c5, h0, h1, h2, h3, h4, h5, h6, h7, h8⟩ := h
 exact ⟨c0, c1, c2, c3, c4, c5, by rw [he _ (by omega) (by omega)]; exact h0, by rw [he _ (by omega) (by omega)]; exact h1, by rw [he _ (by omega) (by omega)]; exact h2, by rw [he _ (by omega) (by omega)]; exact h3, by rw [he _ (by omega) (by omega)]; exact h4, by rw [he _ (by omega) (by omega)]; exact h5, by rw [he _ (by omega) (by omega)]; exact h6, h7, h8⟩
theorem DocW.keeps (h : DocW w M D q L xs A) (k : Keeps N w w') (hm : ∀ b, b < w.heap.size -> M b -> ¬ N b) (hd : ∀ b, b < w.heap.size -> D b -> ¬ N b) : DocW w' M D q L xs A :=
 ⟨h.blk.keeps k (hm q h.blk.lt h.mp), h.row.keeps k hm, λ i s hs => (h.slot i s hs).keeps k hd, h.mp, h.apart, λ b hb => Nat.lt_of_lt_of_le (h.mlt b hb) k.size, λ b hb => Nat.lt_of_lt_of_le (h.dlt b hb) k.size, h.bound⟩
theorem DocW.monoD (h : DocW w M D q L xs A) (hd : ∀ b, D b -> D' b) (ha : ∀ b, M b -> ¬ D' b) (hl : ∀ b, D' b -> b < w.heap.size) : DocW w M D' q L xs A :=
 ⟨h.blk, h.row, λ i s hs => (h.slot i s hs).mono (λ b _ hb => hd b hb), h.mp, ha, h.mlt, hl, h.bound⟩
theorem DocW.monoM {M' : Nat -> Prop} (h : DocW w M D q L xs A) (hm : ∀ b, M b -> M' b) (ha : ∀ b, M' b -> ¬ D b) (hl : ∀ b, M' b -> b < w.heap.size) : DocW w M' D q L xs A :=
 ⟨h.blk, h.row.mono (λ b _ hb => hm b hb), h.slot, hm _ h.mp, ha, hl, h.dlt, h.bound⟩
theorem DocW.grown (h : DocW w M D q L xs A) (k : Keeps Nob w w') : DocW w' M (DF D w w') q L xs A :=
 (h.keeps k (λ _ _ _ => id) (λ _ _ _ => id)).monoD (λ _ hb => .inl hb) (λ b hm hd => by
  rcases hd with hd | hd
  ·exact h.apart b hm hd
  ·have := h.mlt b hm; have := hd.1; omega) (λ b hd => by
  rcases hd with hd | hd
  ·exact Nat.lt_of_lt_of_le (h.dlt b hd) k.size
  ·exact hd.2)
theorem DocW.xlen (h : DocW w M D q L xs A) : xs.length = A.sl.length * 7 := h.row.1
theorem DocW.form (h : DocW w M D q L xs A) (hp : 0 < A.sl.length) : ∃ g o c, L = .slice (some ⟨g, o, none⟩) A.sl.length c /\ M g /\ (∃ cur, Blk w g 88 cur) /\ ∀ j x, xs[j]? = some x -> w.cell? ⟨g, o + j, none⟩ = some x := by
 obtain ⟨hl, a, c, rfl, h1, h2, h3⟩ := h.row
 rcases h3 with ⟨rfl, rfl⟩ | ⟨g, o, cur, rfl, hm, hb, _, hc⟩
 ·omega
 ·exact ⟨g, o, c, rfl, hm, ⟨cur, hb⟩, λ j x hj => by rw [hb.cell]; exact hc j x hj⟩
theorem Own.putC {S : Nat -> Prop} {e : TypeId} {size g o n c j : Nat} (h : Own w S e size (.slice (some ⟨g, o, none⟩) n c) n xs) (hj : j < xs.length) (u : Value) : Own (w.setCell ⟨g, o + j, none⟩ u) S e size (.slice (some ⟨g, o, none⟩) n c) n (xs.set j u) := by
 have hl := h.1
 obtain ⟨h1, h2, h3⟩ := Own.at_ h
 refine ⟨by simp [hl], _, _, rfl, h1, h2, .inr ?_⟩
 rcases h3 with ⟨e, _⟩ | ⟨g', o', cur, e, hs, hb, hc, hx⟩
 ·cases e
 ·cases e
  have hb2 := hb.set_ (o + j) u
  refine ⟨g, o, _, rfl, hs, hb2, by simpa using hc, λ i x hi => ?_⟩
  have hjc : o + j < cur.size := by
   have := hx j _ (List.getElem?_eq_getElem hj)
   exact (Array.getElem?_eq_some_iff.1 this).1
  by_cases hij : j = i
  ·subst hij
   rw [List.getElem?_set_self hj] at hi
   cases hi
   simp [hjc]
  ·rw [List.getElem?_set_ne hij] at hi
   rw [Array.getElem?_setIfInBounds_ne (by omega)]
   exact hx i x hi
theorem DocW.rowNe (h : DocW w M D q L xs A) {g : Nat} {cur : Array Value} (hb : Blk w g 88 cur) : q ≠ g := λ e => by subst e; exact Blk.ne_ h.blk hb (by decide) rfl
theorem DocW.put (h : DocW w M D q L xs A) {g : Nat} {cur : Array Value} (hg : Blk w g 88 cur) (hm : M g) (hs : A.sl[i]? = some s) (k : Keeps (λ x => x = g) w w') (ho : Own w' M 88 7 L A.sl.length ys)
  (he : ∀ j, j < i * 7 \/ i * 7 + 7 <= j -> ys[j]? = xs[j]?) (hn : SlotIn w' D ys i s') : DocW w' M D q L ys { A with sl := A.sl.set i s' } := by
 refine ⟨h.blk.keeps k (h.rowNe hg), by simpa using ho, λ j t ht => ?_, h.mp, h.apart, λ x hx => Nat.lt_of_lt_of_le (h.mlt x hx) k.size, λ x hx => Nat.lt_of_lt_of_le (h.dlt x hx) k.size, by simp; exact h.bound⟩
 by_cases hij : j = i
 ·subst hij
  have hlt : j < A.sl.length := (List.getElem?_eq_some_iff.1 hs).1
  simp [hlt] at ht
  subst ht
  exact hn
 ·have ht' : A.sl[j]? = some t := by rw [List.getElem?_set] at ht; rwa [if_neg (Ne.symm hij)] at ht
  refine ((h.slot j t ht').keeps k (λ x _ hd e => by subst e; exact h.apart _ hm hd)).other (λ z h1 h2 => he z ?_)
  omega
theorem DocW.setWord {g o c : Nat} (h : DocW w M D q (.slice (some ⟨g, o, none⟩) A.sl.length c) xs A) (hs : A.sl[i]? = some s) {x : Nat} (hx : U64 x) :
  DocW (w.setCell ⟨g, o + i * 7, none⟩ (.int .u64 x)) M D q (.slice (some ⟨g, o, none⟩) A.sl.length c) (xs.set (i * 7) (.int .u64 x)) { A with sl := A.sl.set i ⟨x, s.nd⟩ } := by
 have hlt : i < A.sl.length := (List.getElem?_eq_some_iff.1 hs).1
 have hxl := h.xlen
 obtain ⟨g', o', c', e, hm, ⟨cur, hb⟩, _⟩ := h.form (by omega)
 injection e with e1 _ e3
 injection e1 with e1
 injection e1 with e1 e2
 subst e1 e2 e3
 have k : Keeps (λ y => y = g) w (w.setCell ⟨g, o + i * 7, none⟩ (.int .u64 x)) := Keeps.setCell w (M := λ y => y = g) rfl _
 obtain ⟨c0, c1, c2, c3, c4, c5, h0, h1, h2, h3, h4, h5, h6, h7, h8⟩ := h.slot i s hs
 refine h.put hb hm hs k (h.row.putC (by omega) _) (λ j hj => by rw [List.getElem?_set_ne (by omega)]) ⟨c0, c1, c2, c3, c4, c5, by rw [List.getElem?_set_self (by omega)], ?_, ?_, ?_, ?_, ?_, ?_, h7.keeps k (λ x _ hd e => by subst e; exact h.apart _ hm hd), hx⟩
 ·rw [List.getElem?_set_ne (by omega)]; exact h1
 ·rw [List.getElem?_set_ne (by omega)]; exact h2
 ·rw [List.getElem?_set_ne (by omega)]; exact h3
 ·rw [List.getElem?_set_ne (by omega)]; exact h4
 ·rw [List.getElem?_set_ne (by omega)]; exact h5
 ·rw [List.getElem?_set_ne (by omega)]; exact h6
theorem DocW.setRoot (h : DocW w M D q L xs A) (r : Int) : DocW (w.setCell ⟨q, 2, none⟩ (.int .i64 r)) M D q L xs { A with root := r } := by
 have k : Keeps (λ y => y = q) w (w.setCell ⟨q, 2, none⟩ (.int .i64 r)) := Keeps.setCell w (M := λ y => y = q) rfl _
 exact ⟨h.blk.set_ 2 _, h.row.keepsB h.blk (by decide) k, λ j t ht => (h.slot j t ht).keeps k (λ x _ hd e => by subst e; exact h.apart _ h.mp hd), h.mp, h.apart, λ x hx => Nat.lt_of_lt_of_le (h.mlt x hx) k.size, λ x hx => Nat.lt_of_lt_of_le (h.dlt x hx) k.size, h.bound⟩
theorem DocW.at_ (h : DocW w M D q L xs A) (hg : A.get ix = some s) : ∃ i g o c : Nat, ix = (i : Int) + 1 /\ A.sl[i]? = some s /\ (ix - 1).toNat = i /\ i < A.sl.length /\ A.sl.length <= 65536 /\ L = .slice (some ⟨g, o, none⟩) A.sl.length c /\ M g /\ (∃ cur, Blk w g 88 cur) /\ w.cell? ⟨g, o + i * 7, none⟩ = some (.int .u64 s.word) /\ w.frozen? ⟨g, o + i * 7, none⟩ = false /\ U64 s.word := by
 obtain ⟨i, h1, h2, h3⟩ := get_some hg
 have hlt : i < A.sl.length := (List.getElem?_eq_some_iff.1 h2).1
 obtain ⟨g, o, c, e, hm, ⟨cur, hb⟩, hc⟩ := h.form (by omega)
 obtain ⟨c0, c1, c2, c3, c4, c5, g0, _, _, _, _, _, _, _, g8⟩ := h.slot i s h2
 have := h.bound
 exact ⟨i, g, o, c, h1, h2, h3, hlt, by omega, e, hm, ⟨cur, hb⟩, hc _ _ g0, hb.frozen _, g8⟩
end
end Go.Proofs.YtbhohohgojcapaaGreat
namespace Go.Proofs.YtbhohohgojcapaaGreat
open Go.RowKit
section
variable {M D : Nat -> Prop} {w : World} {q : Nat} {L : Value} {xs : List Value} {A : Ar} {ix : Int}
theorem usedR (h : DocW w M D q L xs A) : Calls Tryz.prog 16 #[pV q] w λ e w' => e = .returned (iV A.sl.length) /\ w = w' := by
 obtain ⟨_, a, c, rfl, _, _, _⟩ := h.row
 have c1 : w.cell? ⟨q, 1, none⟩ = some (.slice a A.sl.length c) := h.blk.cell 1
 clear h
 unfold pV iV
 go_enter Tryz.func16, Tryz.ntmps16
 go_wp2
 go_ret
 exact ⟨rfl, rfl⟩
theorem leftR (h : DocW w M D q L xs A) : Calls Tryz.prog 41 #[pV q] w λ e w' => e = .returned (iV (A.nodes - A.sl.length)) /\ ∃ n, w.drewN n = w' := by
 have hb := h.bound
 have hb1 := hb.1
 have hb2 := hb.2
 obtain ⟨_, a, c, rfl, _, _, _⟩ := h.row
 have c0 : w.cell? ⟨q, 0, none⟩ = some (iV A.nodes) := h.blk.cell 0
 have c1 : w.cell? ⟨q, 1, none⟩ = some (.slice a A.sl.length c) := h.blk.cell 1
 clear h hb
 unfold pV iV at *
 go_enter Tryz.func41, Tryz.ntmps41
 go_wp2
 go_quiet (fail)
 go_wp2
 go_ret
 exact ⟨rfl, _, rfl⟩
theorem rootR (h : DocW w M D q L xs A) : Calls Tryz.prog 42 #[pV q] w λ e w' => e = .returned (iV A.root) /\ w = w' := by
 have c2 : w.cell? ⟨q, 2, none⟩ = some (.int .i64 A.root) := h.blk.cell 2
 clear h
 unfold pV iV at *
 go_enter Tryz.func42, Tryz.ntmps42
 go_wp2
 go_ret
 exact ⟨rfl, rfl⟩
theorem thereR (h : DocW w M D q L xs A) : Calls Tryz.prog 50 #[pV q, iV ix] w λ e w' => e = .returned (.bool (A.get ix).isSome) /\ w = w' := by
 obtain ⟨_, a, c, rfl, _, _, _⟩ := h.row
 have c1 : w.cell? ⟨q, 1, none⟩ = some (.slice a A.sl.length c) := h.blk.cell 1
 clear h
 cases hg : A.get ix with
 | none =>
  rcases get_none hg with h1 | h1
  ·clear hg
   unfold pV iV
   go_enter Tryz.func50, Tryz.ntmps50
   go_wp2
   go_ret
   exact ⟨rfl, rfl⟩
  ·have h2 : 1 <= ix := by omega
   have hd : decide (ix <= (A.sl.length : Int)) = false := by simp; omega
   clear hg
   unfold pV iV
   go_enter Tryz.func50, Tryz.ntmps50
   go_wp2
   go_ret
   exact ⟨rfl, rfl⟩
 | some s =>
  obtain ⟨h1, h2⟩ := get_le hg
  clear hg
  unfold pV iV
  go_enter Tryz.func50, Tryz.ntmps50
  go_wp2
  go_ret
  exact ⟨rfl, rfl⟩
theorem wordR (h : DocW w M D q L xs A) : Calls Tryz.prog 79 #[pV q, iV ix] w λ e w' => e = .returned (.tuple #[.int .u64 (opWord A ix), iV (opErr A ix)]) /\ w = w' := by
 have H := Hd (thereR (ix := ix) h)
 cases hg : A.get ix with
 | none =>
  rw [opWord_none hg, opErr_none hg]
  rw [hg] at H
  clear h hg
  unfold pV iV at *
  go_enter Tryz.func79, Tryz.ntmps79
  go_wp2_with (go_at_call 50; refine H.out.mono ?_; rintro e w' ⟨rfl, rfl⟩)
  go_ret2
  exact ⟨rfl, rfl⟩
 | some s =>
  rw [opWord_some hg, opErr_some hg]
  rw [hg] at H
  obtain ⟨i, g, o, c, hid, hs, h3, hi, hl, rfl, hm, hb, hc, hf, hu⟩ := h.at_ hg
  have c1 : w.cell? ⟨q, 1, none⟩ = some (.slice (some ⟨g, o, none⟩) A.sl.length c) := h.blk.cell 1
  have h1 : 1 <= ix := by omega
  have h2 : ix <= A.sl.length := by omega
  have h3' : ix.toNat - 1 = i := by omega
  clear h hg hs hm hb hf hu hid
  unfold pV iV at *
  go_enter Tryz.func79, Tryz.ntmps79
  go_wp2_with (go_at_call 50; refine H.out.mono ?_; rintro e w' ⟨rfl, rfl⟩)
  go_ret2
  exact ⟨rfl, rfl⟩
end
end Go.Proofs.YtbhohohgojcapaaGreat
namespace Go.Proofs.YtbhohohgojcapaaGreat
open Go.RowKit
section
variable {M D : Nat -> Prop} {w : World} {q : Nat} {L : Value} {xs : List Value} {A : Ar} {ix : Int}
def DocS (_ w' : World) (M D : Nat -> Prop) (q : Nat) (A : Ar) : Prop := ∃ L xs, DocW w' M D q L xs A
theorem mod2_int (x : Nat) : (x : Int).tmod 2 = ((x % 2 : Nat) : Int) := by
 rw [Int.tmod_eq_emod_of_nonneg (by omega)]; omega
theorem lockR {wd : Nat} (h : DocW w M D q L xs A) (hw : U64 wd) : Calls Tryz.prog 122 #[pV q, iV ix, .int .u64 wd] w λ e w' => e = .returned (.tuple #[.bool (opLock A ix wd).1, iV (opLock A ix wd).2.1]) /\ DocS w w' M D q (opLock A ix wd).2.2 /\ Keeps M w w' := by
 have H := Hd (thereR (ix := ix) h)
 have HA := Hd h
 cases hg : A.get ix with
 | none =>
  rw [opLock_none hg]
  rw [hg] at H
  clear h hg hw
  unfold pV iV at *
  go_enter Tryz.func122, Tryz.ntmps122
  go_wp2_with (go_at_call 50; refine H.out.mono ?_; rintro e w' ⟨rfl, rfl⟩)
  go_ret2
  exact ⟨rfl, ⟨_, _, HA.out⟩, Keeps.refl _ _⟩
 | some s =>
  rw [opLock_some hg]
  rw [hg] at H
  obtain ⟨i, g, o, c, hid, hs, h3, hi, hl, rfl, hm, hb, hc, hf, hu⟩ := h.at_ hg
  have c1 : w.cell? ⟨q, 1, none⟩ = some (.slice (some ⟨g, o, none⟩) A.sl.length c) := h.blk.cell 1
  have h1 : 1 <= ix := by omega
  have h2 : ix <= A.sl.length := by omega
  have h3' : ix.toNat - 1 = i := by omega
  have HSW := Hd (h.setWord hs (x := wd + 1))
  have HM := Hd hm
  have HI := Hd h3
  have hw0 : (0 : Int) <= wd := by omega
  have hw1 : (wd : Int) < 18446744073709551616 := by unfold U64 at hw; omega
  have hmod := mod2_int wd
  clear h hg hs hm hb hu hid
  by_cases hq : s.word = wd
  ·rw [hq] at hc
   by_cases he : wd % 2 = 0
   ·rw [if_pos ⟨hq, he⟩]
    rw [he] at hmod
    have HU : Hid (U64 (wd + 1)) := by show U64 _; unfold U64 at *; omega
    have hlt : (wd : Int) + 1 < 18446744073709551616 := by unfold U64 at hw; omega
    clear hq he hw
    unfold pV iV at *
    go_enter Tryz.func122, Tryz.ntmps122
    go_wp2_with (go_at_call 50; refine H.out.mono ?_; rintro e w' ⟨rfl, rfl⟩)
    go_ret2
    refine ⟨rfl, ?_, Keeps.setCell w HM.out _⟩
    have := HSW.out HU.out
    unfold Ar.put; rw [HI.out]; exact ⟨_, _, this⟩
   ·rw [if_neg (λ hx => he hx.2)]
    have ho : wd % 2 = 1 := by omega
    rw [ho] at hmod
    clear hq he hw ho
    unfold pV iV at *
    go_enter Tryz.func122, Tryz.ntmps122
    go_wp2_with (go_at_call 50; refine H.out.mono ?_; rintro e w' ⟨rfl, rfl⟩)
    go_ret2
    exact ⟨rfl, ⟨_, _, HA.out⟩, Keeps.refl _ _⟩
  ·rw [if_neg (λ hx => hq hx.1)]
   have hq' : ¬ (s.word : Int) = wd := by omega
   clear hq hmod hw
   unfold pV iV at *
   go_enter Tryz.func122, Tryz.ntmps122
   go_wp2_with (go_at_call 50; refine H.out.mono ?_; rintro e w' ⟨rfl, rfl⟩)
   go_ret2
   exact ⟨rfl, ⟨_, _, HA.out⟩, Keeps.refl _ _⟩
theorem heldR (h : DocW w M D q L xs A) : Calls Tryz.prog 123 #[pV q, iV ix] w λ e w' => e = .returned (iV (opHeld A ix)) /\ w = w' := by
 have H := Hd (thereR (ix := ix) h)
 cases hg : A.get ix with
 | none =>
  rw [opHeld_none hg]
  rw [hg] at H
  clear h hg
  unfold pV iV at *
  go_enter Tryz.func123, Tryz.ntmps123
  go_wp2_with (go_at_call 50; refine H.out.mono ?_; rintro e w' ⟨rfl, rfl⟩)
  go_ret
  exact ⟨rfl, rfl⟩
 | some s =>
  rw [opHeld_some hg]
  rw [hg] at H
  obtain ⟨i, g, o, c, hid, hs, h3, hi, hl, rfl, hm, hb, hc, hf, hu⟩ := h.at_ hg
  have c1 : w.cell? ⟨q, 1, none⟩ = some (.slice (some ⟨g, o, none⟩) A.sl.length c) := h.blk.cell 1
  have h1 : 1 <= ix := by omega
  have h2 : ix <= A.sl.length := by omega
  have h3' : ix.toNat - 1 = i := by omega
  have hw0 : (0 : Int) <= s.word := by omega
  have hw1 : (s.word : Int) < 18446744073709551616 := by unfold U64 at hu; omega
  have hmod := mod2_int s.word
  clear h hg hs hm hb hu hid
  by_cases he : s.word % 2 = 0
  ·rw [if_pos he]
   rw [he] at hmod
   clear he
   unfold pV iV at *
   go_enter Tryz.func123, Tryz.ntmps123
   go_wp2_with (go_at_call 50; refine H.out.mono ?_; rintro e w' ⟨rfl, rfl⟩)
   go_ret
   exact ⟨rfl, rfl⟩
  ·rw [if_neg he]
   rw [show s.word % 2 = 1 by omega] at hmod
   clear he
   unfold pV iV at *
   go_enter Tryz.func123, Tryz.ntmps123
   go_wp2_with (go_at_call 50; refine H.out.mono ?_; rintro e w' ⟨rfl, rfl⟩)
   go_ret
   exact ⟨rfl, rfl⟩
theorem growR {old to : Int} (h : DocW w M D q L xs A) : Calls Tryz.prog 86 #[pV q, iV old, iV to] w λ e w' => e = .returned (.tuple #[.bool (opGrow A old to).1, iV (opGrow A old to).2.1]) /\ DocS w w' M D q (opGrow A old to).2.2 /\ Keeps M w w' := by
 have H := Hd (thereR (ix := to) h)
 have HA := Hd h
 cases hg : A.get to with
 | none =>
  rw [opGrow_none hg]
  rw [hg] at H
  clear h hg
  unfold pV iV at *
  go_enter Tryz.func86, Tryz.ntmps86
  go_wp2_with (go_at_call 50; refine H.out.mono ?_; rintro e w' ⟨rfl, rfl⟩)
  go_ret2
  exact ⟨rfl, ⟨_, _, HA.out⟩, Keeps.refl _ _⟩
 | some s =>
  rw [opGrow_some hg]
  rw [hg] at H
  have hc : w.cell? ⟨q, 2, none⟩ = some (.int .i64 A.root) := h.blk.cell 2
  have hf := h.blk.frozen 2
  have HR := Hd (h.setRoot to)
  have HM : Hid (M q) := h.mp
  clear h hg
  by_cases hq : A.root = old
  ·rw [if_pos hq]
   rw [hq] at hc
   clear hq
   unfold pV iV at *
   go_enter Tryz.func86, Tryz.ntmps86
   go_wp2_with (go_at_call 50; refine H.out.mono ?_; rintro e w' ⟨rfl, rfl⟩)
   go_ret2
   exact ⟨rfl, ⟨_, _, HR.out⟩, Keeps.setCell w HM.out _⟩
  ·rw [if_neg hq]
   unfold pV iV at *
   go_enter Tryz.func86, Tryz.ntmps86
   go_wp2_with (go_at_call 50; refine H.out.mono ?_; rintro e w' ⟨rfl, rfl⟩)
   go_ret2
   exact ⟨rfl, ⟨_, _, HA.out⟩, Keeps.refl _ _⟩
theorem unlockR {c : Bool} (h : DocW w M D q L xs A) : Calls Tryz.prog 81 #[pV q, iV ix, .bool c] w λ e w' => e = .returned (iV (opUnlock A ix c).1) /\ DocS w w' M D q (opUnlock A ix c).2 /\ Keeps M w w' := by
 have H := Hd (heldR (ix := ix) h)
 rcases held_cases A ix with ⟨h0, s, hg, he⟩ | ⟨hn, hn'⟩
 ·have hx : opUnlock A ix c = (0, A.put ix ⟨back s.word c, s.nd⟩) := by unfold opUnlock; rw [hg]; simp [he]
  rw [hx]
  rw [h0] at H
  obtain ⟨i, g, o, c', hid, hs, h3, hi, hl, rfl, hm, hb, hc, hf, hu⟩ := h.at_ hg
  have c1 : w.cell? ⟨q, 1, none⟩ = some (.slice (some ⟨g, o, none⟩) A.sl.length c') := h.blk.cell 1
  have h1 : 1 <= ix := by omega
  have h2 : ix <= A.sl.length := by omega
  have h3' : ix.toNat - 1 = i := by omega
  have HSW := Hd (h.setWord hs (back_u64 s.word c hu))
  have HM := Hd hm
  have HI := Hd h3
  obtain ⟨e1, _⟩ := back_int s.word he hu
  have E1 := Hd e1
  have e3 : IntKind.u64.wrap ((s.word : Int) - 1) = ((back s.word false : Nat) : Int) := by
   rw [IntKind.wrap_u64]; unfold back U64 at *; simp; omega
  have E3 := Hd e3
  clear h hg hs hm hb hid h0 he hx hu e1 e3
  unfold pV iV at *
  cases c
  all_goals
   go_enter Tryz.func81, Tryz.ntmps81
   go_wp2_with (go_at_call 123; refine H.out.mono ?_; rintro e w' ⟨rfl, rfl⟩)
   go_ret
   refine ⟨rfl, ?_, Keeps.setCell w HM.out _⟩
   have := HSW.out
   unfold Ar.put; rw [HI.out]
   first | rw [IntKind.wrap_u64, E1.out] | rw [E1.out] | rw [E3.out]
   exact ⟨_, _, this⟩
 ·rw [opUnlock_no hn]
  have HA := Hd h
  have hn2 : (opHeld A ix != 0) = true := by simp [hn]
  clear h hn hn'
  show Calls _ _ _ _ (λ e w' => e = .returned (iV (opHeld A ix)) /\ DocS w w' M D q A /\ Keeps M w w')
  generalize opHeld A ix = ob at *
  unfold pV iV at *
  go_enter Tryz.func81, Tryz.ntmps81
  go_wp2_with (go_at_call 123; refine H.out.mono ?_; rintro e w' ⟨rfl, rfl⟩)
  go_ret
  exact ⟨rfl, ⟨_, _, HA.out⟩, Keeps.refl _ _⟩
end
end Go.Proofs.YtbhohohgojcapaaGreat
namespace Go.Proofs.YtbhohohgojcapaaGreat
open Go.RowKit
section
variable {M D : Nat -> Prop} {w : World} {q : Nat} {L : Value} {xs : List Value} {A : Ar} {ix : Int} {s : Sl}
theorem DocW.nd_ (h : DocW w M D q L xs A) (hg : A.get ix = some s) : ∃ i g o c : Nat, ∃ c0 c1 c2 c3 c4 c5, ix = (i : Int) + 1 /\ A.sl[i]? = some s /\ (ix - 1).toNat = i /\ i < A.sl.length /\ A.sl.length <= 65536 /\ L = .slice (some ⟨g, o, none⟩) A.sl.length c /\ M g /\ (∃ cur, Blk w g 88 cur) /\
  w.cell? ⟨g, o + i * 7 + 1, none⟩ = some c0 /\ w.cell? ⟨g, o + i * 7 + 2, none⟩ = some c1 /\ w.cell? ⟨g, o + i * 7 + 3, none⟩ = some c2 /\ w.cell? ⟨g, o + i * 7 + 4, none⟩ = some c3 /\ w.cell? ⟨g, o + i * 7 + 5, none⟩ = some c4 /\ w.cell? ⟨g, o + i * 7 + 6, none⟩ = some c5 /\ IsNd w D c0 c1 c2 c3 c4 c5 s.nd := by
 obtain ⟨i, h1, h2, h3⟩ := get_some hg
 have hlt : i < A.sl.length := (List.getElem?_eq_some_iff.1 h2).1
 obtain ⟨g, o, c, e, hm, ⟨cur, hb⟩, hc⟩ := h.form (by omega)
 obtain ⟨c0, c1, c2, c3, c4, c5, g0, g1, g2, g3, g4, g5, g6, g7, g8⟩ := h.slot i s h2
 have := h.bound
 exact ⟨i, g, o, c, c0, c1, c2, c3, c4, c5, h1, h2, h3, hlt, by omega, e, hm, ⟨cur, hb⟩, hc _ _ g1, hc _ _ g2, hc _ _ g3, hc _ _ g4, hc _ _ g5, hc _ _ g6, g7⟩
set_option maxRecDepth 100000 in
theorem headR (h : DocW w M D q L xs A) (hsm : ∀ s ∈ A.sl, NdSm 0 s.nd) : Calls Tryz.prog 99 #[pV q, iV ix] w λ e w' => ∃ d0 d1 d2, e = .returned (.tuple #[.agg #[d0, d1, d2], iV (opErr A ix)]) /\ OHd w' (Fresh w w') d0 d1 d2 (opNd A ix) /\ Keeps Nob w w' := by
 cases hg : A.get ix with
 | none =>
  rw [opErr_none hg, opNd_none hg]
  have HA := Hd h
  have HG := Hd hg
  clear h hg hsm
  unfold pV iV
  go_enter Tryz.func99, Tryz.ntmps99
  go_wp2_with fail
  refine calls_at (λ wa hw => ?_)
  have hk : Keeps Nob w wa := by rw [hw]; exact Keeps.alloc _ _ _
  have hb : Blk wa w.heap.size 29 #[.int .i64 0, .slice none 0 0, .int .i64 0] := by rw [hw]; exact Blk.new _ _ _
  have H := Hd (thereR (ix := ix) (HA.out.keeps hk (λ _ _ _ => id) (λ _ _ _ => id)))
  rw [HG.out] at H
  have HK := Hd hk
  have HB := Hd hb
  have q := λ i => hb.cell i
  have g := λ i => hb.frozen i
  have l := hb.lt
  clear hw hk hb
  unfold pV iV at H
  refine H.out.mono ?_
  rintro e w' ⟨rfl, rfl⟩
  go_wp2
  refine post_at (λ wb hw => ?_)
  have hk : Keeps (λ b => b = w.heap.size) wa wb := by rw [hw]; exact ((Keeps.setCell _ (M := λ b => b = w.heap.size) rfl _).setCell' (λ _ => rfl) _).setCell' (λ _ => rfl) _
  have hb : Blk wb w.heap.size 29 #[.int .i64 0, .slice none 0 0, .int .i64 0] := by rw [hw]; exact ((HB.out.set_ 0 _).set_ 1 _).set_ 2 _
  clear hw q g l
  have r0 := hb.cell 0
  have r1 := hb.cell 1
  have r2 := hb.cell 2
  refine bodyPost_ret (v := .tuple #[.agg #[.int .i64 0, .slice none 0 0, .int .i64 0], .int .i64 101]) (by simp [results, Tryz.results99, go_sem, r0, r1, r2]) rfl ⟨_, _, _, rfl, (ONd.zero _ _).1, HK.out.trans hk (λ b hb e => by have h2 : b = _ := e; omega)⟩
 | some s =>
  rw [opErr_some hg, opNd_some hg]
  have hS := hsm s (by obtain ⟨i, _, h2, _⟩ := get_some hg; exact List.mem_of_getElem? h2)
  have HS : Hid (NdSm 0 s.nd) := hS
  have HA := Hd h
  have HG := Hd hg
  clear h hg hsm hS
  unfold pV iV
  go_enter Tryz.func99, Tryz.ntmps99
  go_wp2_with fail
  refine calls_at (λ wa hw => ?_)
  have hk : Keeps Nob w wa := by rw [hw]; exact Keeps.alloc _ _ _
  have BR : Hid (Blk wa w.heap.size 29 #[.int .i64 0, .slice none 0 0, .int .i64 0]) := by rw [hw]; exact Blk.new _ _ _
  have ha := HA.out.keeps hk (λ _ _ _ => id) (λ _ _ _ => id)
  have H := Hd (thereR (ix := ix) ha)
  rw [HG.out] at H
  obtain ⟨i, g, o, c, c0, c1, c2, c3, c4, c5, hid, hs, h3, hi, hl, rfl, hm, hgb, hc0, hc1, hc2, hc3, hc4, hc5, hnd⟩ := ha.nd_ HG.out
  have ca : wa.cell? ⟨q, 1, none⟩ = some (.slice (some ⟨g, o, none⟩) A.sl.length c) := ha.blk.cell 1
  have h1 : 1 <= ix := by omega
  have h2 : ix <= A.sl.length := by omega
  have h3' : ix.toNat - 1 = i := by omega
  obtain ⟨X1, k1, e1, _, _⟩ := hnd.1.high.form
  have e0 := hnd.1.lvl
  have e2 := hnd.1.right
  unfold iV at e0 e2
  subst e0 e1 e2
  have HN := Hd hnd
  have K := Hd hk
  have sza := hk.size
  have ltR := BR.out.lt
  clear hw hk hs hm hid hgb hnd ha HA HG
  unfold pV iV at H
  refine H.out.mono ?_
  rintro e w' ⟨rfl, rfl⟩
  go_wp2_with fail
  refine (cloneR (n := s.nd) (S := D) HN.out HS.out).mono ?_
  rintro e wb ⟨d0, d1, d2, d3, d4, d5, rfl, hO, hk, _⟩
  have f0 := hO.1.lvl
  obtain ⟨Y1, j1, f1⟩ := Own.form hO.1.high
  have f2 := hO.1.right
  unfold iV at f0 f2
  obtain ⟨Y3, j3, f3⟩ := OTx.form hO.2.keys
  obtain ⟨Y4, j4, f4⟩ := OTx.form hO.2.vals
  obtain ⟨Y5, j5, f5⟩ := Own.form hO.2.kids
  subst f0 f1 f2 f3 f4 f5
  replace BR := Hd (BR.out.keeps hk id)
  replace K := tq_ K hk
  have szb := hk.size
  have HO := Hd hO
  clear hO hk
  have q := λ i => BR.out.cell i
  have g := λ i => BR.out.frozen i
  have l := BR.out.lt
  go_wp2
  refine post_at (λ wc hw => ?_)
  have hk : Keeps (λ b => b = w.heap.size) wb wc := by rw [hw]; exact ((((Keeps.setCell _ (M := λ b => b = w.heap.size) rfl _).setCell' (λ _ => rfl) _).setCell' (λ _ => rfl) _).alloc' _)
  have hb : Blk wc w.heap.size 29 #[.int .i64 s.nd.lvl, .slice Y1 s.nd.high.length j1, .int .i64 s.nd.right] := by rw [hw]; exact (((BR.out.set_ 0 _).set_ 1 _).set_ 2 _).alloc _
  clear hw q g l
  have r0 := hb.cell 0
  have r1 := hb.cell 1
  have r2 := hb.cell 2
  have szc := hk.size
  have ha : Apart 29 := ⟨by decide, by decide, by decide⟩
  refine bodyPost_ret (v := .tuple #[.agg #[.int .i64 s.nd.lvl, .slice Y1 s.nd.high.length j1, .int .i64 s.nd.right], .int .i64 0]) (by simp [results, Tryz.results99, go_sem, r0, r1, r2]) rfl ⟨_, _, _, rfl, ⟨rfl, ?_, rfl⟩, K.out.trans hk (λ b hb e => by have h2 : b = _ := e; omega)⟩
  ·exact (HO.out.1.high.keepsB BR.out ha hk).mono (λ b _ hb => ⟨by have := hb.1; omega, by have := hb.2; omega⟩)
set_option maxRecDepth 100000 in
theorem bodyR (h : DocW w M D q L xs A) (hsm : ∀ s ∈ A.sl, NdSm 0 s.nd) : Calls Tryz.prog 100 #[pV q, iV ix] w λ e w' => ∃ d0 d1 d2, e = .returned (.tuple #[.agg #[d0, d1, d2], iV (opErr A ix)]) /\ OBd w' (Fresh w w') d0 d1 d2 (opNd A ix) /\ Keeps Nob w w' := by
 cases hg : A.get ix with
 | none =>
  rw [opErr_none hg, opNd_none hg]
  have HA := Hd h
  have HG := Hd hg
  clear h hg hsm
  unfold pV iV
  go_enter Tryz.func100, Tryz.ntmps100
  go_wp2_with fail
  refine calls_at (λ wa hw => ?_)
  have hk : Keeps Nob w wa := by rw [hw]; exact Keeps.alloc _ _ _
  have hb : Blk wa w.heap.size 33 #[.slice none 0 0, .slice none 0 0, .slice none 0 0] := by rw [hw]; exact Blk.new _ _ _
  have H := Hd (thereR (ix := ix) (HA.out.keeps hk (λ _ _ _ => id) (λ _ _ _ => id)))
  rw [HG.out] at H
  have HK := Hd hk
  have HB := Hd hb
  have q := λ i => hb.cell i
  have g := λ i => hb.frozen i
  have l := hb.lt
  clear hw hk hb
  unfold pV iV at H
  refine H.out.mono ?_
  rintro e w' ⟨rfl, rfl⟩
  go_wp2
  refine post_at (λ wb hw => ?_)
  have hk : Keeps (λ b => b = w.heap.size) wa wb := by rw [hw]; exact ((Keeps.setCell _ (M := λ b => b = w.heap.size) rfl _).setCell' (λ _ => rfl) _).setCell' (λ _ => rfl) _
  have hb : Blk wb w.heap.size 33 #[.slice none 0 0, .slice none 0 0, .slice none 0 0] := by rw [hw]; exact ((HB.out.set_ 0 _).set_ 1 _).set_ 2 _
  clear hw q g l
  have r0 := hb.cell 0
  have r1 := hb.cell 1
  have r2 := hb.cell 2
  refine bodyPost_ret (v := .tuple #[.agg #[.slice none 0 0, .slice none 0 0, .slice none 0 0], .int .i64 101]) (by simp [results, Tryz.results100, go_sem, r0, r1, r2]) rfl ⟨_, _, _, rfl, (ONd.zero _ _).2, HK.out.trans hk (λ b hb e => by have h2 : b = _ := e; omega)⟩
 | some s =>
  rw [opErr_some hg, opNd_some hg]
  have hS := hsm s (by obtain ⟨i, _, h2, _⟩ := get_some hg; exact List.mem_of_getElem? h2)
  have HS : Hid (NdSm 0 s.nd) := hS
  have HA := Hd h
  have HG := Hd hg
  clear h hg hsm hS
  unfold pV iV
  go_enter Tryz.func100, Tryz.ntmps100
  go_wp2_with fail
  refine calls_at (λ wa hw => ?_)
  have hk : Keeps Nob w wa := by rw [hw]; exact Keeps.alloc _ _ _
  have BR : Hid (Blk wa w.heap.size 33 #[.slice none 0 0, .slice none 0 0, .slice none 0 0]) := by rw [hw]; exact Blk.new _ _ _
  have ha := HA.out.keeps hk (λ _ _ _ => id) (λ _ _ _ => id)
  have H := Hd (thereR (ix := ix) ha)
  rw [HG.out] at H
  obtain ⟨i, g, o, c, c0, c1, c2, c3, c4, c5, hid, hs, h3, hi, hl, rfl, hm, hgb, hc0, hc1, hc2, hc3, hc4, hc5, hnd⟩ := ha.nd_ HG.out
  have ca : wa.cell? ⟨q, 1, none⟩ = some (.slice (some ⟨g, o, none⟩) A.sl.length c) := ha.blk.cell 1
  have h1 : 1 <= ix := by omega
  have h2 : ix <= A.sl.length := by omega
  have h3' : ix.toNat - 1 = i := by omega
  obtain ⟨X1, k1, e1, _, _⟩ := hnd.1.high.form
  have e0 := hnd.1.lvl
  have e2 := hnd.1.right
  unfold iV at e0 e2
  obtain ⟨X3, k3, e3, _, _⟩ := hnd.2.keys.form
  obtain ⟨X4, k4, e4, _, _⟩ := hnd.2.vals.form
  obtain ⟨X5, k5, e5, _, _⟩ := hnd.2.kids.form
  subst e0 e1 e2 e3 e4 e5
  have HN := Hd hnd
  have K := Hd hk
  have sza := hk.size
  have ltR := BR.out.lt
  clear hw hk hs hm hid hgb hnd ha HA HG
  unfold pV iV at H
  refine H.out.mono ?_
  rintro e w' ⟨rfl, rfl⟩
  go_wp2_with fail
  refine (cloneR (n := s.nd) (S := D) HN.out HS.out).mono ?_
  rintro e wb ⟨d0, d1, d2, d3, d4, d5, rfl, hO, hk, _⟩
  have f0 := hO.1.lvl
  obtain ⟨Y1, j1, f1⟩ := Own.form hO.1.high
  have f2 := hO.1.right
  unfold iV at f0 f2
  obtain ⟨Y3, j3, f3⟩ := OTx.form hO.2.keys
  obtain ⟨Y4, j4, f4⟩ := OTx.form hO.2.vals
  obtain ⟨Y5, j5, f5⟩ := Own.form hO.2.kids
  subst f0 f1 f2 f3 f4 f5
  replace BR := Hd (BR.out.keeps hk id)
  replace K := tq_ K hk
  have szb := hk.size
  have HO := Hd hO
  clear hO hk
  have q := λ i => BR.out.cell i
  have g := λ i => BR.out.frozen i
  have l := BR.out.lt
  go_wp2
  refine post_at (λ wc hw => ?_)
  have hk : Keeps (λ b => b = w.heap.size) wb wc := by rw [hw]; exact ((((Keeps.setCell _ (M := λ b => b = w.heap.size) rfl _).setCell' (λ _ => rfl) _).setCell' (λ _ => rfl) _).alloc' _)
  have hb : Blk wc w.heap.size 33 #[.slice Y3 s.nd.keys.length j3, .slice Y4 s.nd.vals.length j4, .slice Y5 s.nd.kids.length j5] := by rw [hw]; exact (((BR.out.set_ 0 _).set_ 1 _).set_ 2 _).alloc _
  clear hw q g l
  have r0 := hb.cell 0
  have r1 := hb.cell 1
  have r2 := hb.cell 2
  have szc := hk.size
  have ha : Apart 33 := ⟨by decide, by decide, by decide⟩
  refine bodyPost_ret (v := .tuple #[.agg #[.slice Y3 s.nd.keys.length j3, .slice Y4 s.nd.vals.length j4, .slice Y5 s.nd.kids.length j5], .int .i64 0]) (by simp [results, Tryz.results100, go_sem, r0, r1, r2]) rfl ⟨_, _, _, rfl, ⟨?_, ?_, ?_⟩, K.out.trans hk (λ b hb e => by have h2 : b = _ := e; omega)⟩
  ·exact (HO.out.2.keys.keepsB BR.out ha hk).mono (λ b _ hb => ⟨by have := hb.1; omega, by have := hb.2; omega⟩)
  ·exact (HO.out.2.vals.keepsB BR.out ha hk).mono (λ b _ hb => ⟨by have := hb.1; omega, by have := hb.2; omega⟩)
  ·exact (HO.out.2.kids.keepsB BR.out ha hk).mono (λ b _ hb => ⟨by have := hb.1; omega, by have := hb.2; omega⟩)
end
end Go.Proofs.YtbhohohgojcapaaGreat
namespace Go.Proofs.YtbhohohgojcapaaGreat
open Go.RowKit
section
variable {M D : Nat -> Prop} {w : World} {q : Nat} {L : Value} {xs : List Value} {A : Ar} {ix : Int} {s : Sl}
theorem DocW.set3 {g o c i k : Nat} (h : DocW w M D q (.slice (some ⟨g, o, none⟩) A.sl.length c) xs A) (hs : A.sl[i]? = some s) (hk1 : 1 <= k) (hk2 : k <= 4) (v0 v1 v2 : Value) {s' : Sl} :
  let w' := ((w.setCell ⟨g, o + (i * 7 + k), none⟩ v0).setCell ⟨g, o + (i * 7 + k + 1), none⟩ v1).setCell ⟨g, o + (i * 7 + k + 2), none⟩ v2
  let ys := ((xs.set (i * 7 + k) v0).set (i * 7 + k + 1) v1).set (i * 7 + k + 2) v2
  M g /\ Keeps (λ x => x = g) w w' /\ (SlotIn w' D ys i s' -> DocW w' M D q (.slice (some ⟨g, o, none⟩) A.sl.length c) ys { A with sl := A.sl.set i s' }) := by
 intro w' ys
 have hlt : i < A.sl.length := (List.getElem?_eq_some_iff.1 hs).1
 have hxl := h.xlen
 obtain ⟨g', o', c', e, hm, ⟨cur, hb⟩, _⟩ := h.form (by omega)
 injection e with e1 _ e3
 injection e1 with e1
 injection e1 with e1 e2
 subst e1 e2 e3
 have k1 : Keeps (λ y => y = g) w w' := ((Keeps.setCell w (M := λ y => y = g) rfl _).setCell' (λ _ => rfl) _).setCell' (λ _ => rfl) _
 refine ⟨hm, k1, λ hn => ?_⟩
 have o1 := h.row.putC (j := i * 7 + k) (by omega) v0
 have o2 := o1.putC (j := i * 7 + k + 1) (by simp; omega) v1
 have o3 := o2.putC (j := i * 7 + k + 2) (by simp; omega) v2
 refine h.put hb hm hs k1 o3 (λ j hj => ?_) hn
 rw [List.getElem?_set_ne (by omega), List.getElem?_set_ne (by omega), List.getElem?_set_ne (by omega)]
theorem DocW.setHd {g o c i : Nat} {v0 v1 v2 : Value} {n : Nd} (h : DocW w M D q (.slice (some ⟨g, o, none⟩) A.sl.length c) xs A) (hs : A.sl[i]? = some s) (hn : IsHd w D v0 v1 v2 n) {w' : World}
  (hw : w' = ((w.setCell ⟨g, o + i * 7 + 1, none⟩ v0).setCell ⟨g, o + i * 7 + 2, none⟩ v1).setCell ⟨g, o + i * 7 + 3, none⟩ v2) :
  M g /\ Keeps (λ x => x = g) w w' /\ ∃ ys, DocW w' M D q (.slice (some ⟨g, o, none⟩) A.sl.length c) ys { A with sl := A.sl.set i ⟨s.word, withHd s.nd n⟩ } := by
 have hlt : i < A.sl.length := (List.getElem?_eq_some_iff.1 hs).1
 have hxl := h.xlen
 obtain ⟨hm, k1, H⟩ := h.set3 hs (k := 1) (by omega) (by omega) v0 v1 v2 (s' := ⟨s.word, withHd s.nd n⟩)
 have e : w' = ((w.setCell ⟨g, o + (i * 7 + 1), none⟩ v0).setCell ⟨g, o + (i * 7 + 1 + 1), none⟩ v1).setCell ⟨g, o + (i * 7 + 1 + 2), none⟩ v2 := hw
 rw [<- e] at H k1
 refine ⟨hm, k1, _, H ?_⟩
 obtain ⟨c0, c1, c2, c3, c4, c5, h0, h1, h2, h3, h4, h5, h6, h7, h8⟩ := h.slot i s hs
 have hg : ∀ x, x < w.heap.size -> D x -> ¬ x = g := λ x _ hd e => by subst e; exact h.apart _ hm hd
 have hn' := hn.keeps k1 hg
 have h7' := h7.keeps k1 hg
 refine ⟨v0, v1, v2, c3, c4, c5, ?_, ?_, ?_, ?_, ?_, ?_, ?_, ⟨⟨hn'.lvl, hn'.high, hn'.right⟩, h7'.2.keys, h7'.2.vals, h7'.2.kids⟩, h8⟩
 ·rw [List.getElem?_set_ne (by omega), List.getElem?_set_ne (by omega), List.getElem?_set_ne (by omega)]; exact h0
 ·rw [List.getElem?_set_ne (by omega), List.getElem?_set_ne (by omega), List.getElem?_set_self (by omega)]
 ·rw [List.getElem?_set_ne (by omega), List.getElem?_set_self (by simp; omega)]
 ·rw [List.getElem?_set_self (by simp; omega)]
 ·rw [List.getElem?_set_ne (by omega), List.getElem?_set_ne (by omega), List.getElem?_set_ne (by omega)]; exact h4
 ·rw [List.getElem?_set_ne (by omega), List.getElem?_set_ne (by omega), List.getElem?_set_ne (by omega)]; exact h5
 ·rw [List.getElem?_set_ne (by omega), List.getElem?_set_ne (by omega), List.getElem?_set_ne (by omega)]; exact h6
theorem DocW.setBd {g o c i : Nat} {v0 v1 v2 : Value} {n : Nd} (h : DocW w M D q (.slice (some ⟨g, o, none⟩) A.sl.length c) xs A) (hs : A.sl[i]? = some s) (hn : IsBd w D v0 v1 v2 n) {w' : World}
  (hw : w' = ((w.setCell ⟨g, o + i * 7 + 4, none⟩ v0).setCell ⟨g, o + i * 7 + 5, none⟩ v1).setCell ⟨g, o + i * 7 + 6, none⟩ v2) :
  M g /\ Keeps (λ x => x = g) w w' /\ ∃ ys, DocW w' M D q (.slice (some ⟨g, o, none⟩) A.sl.length c) ys { A with sl := A.sl.set i ⟨s.word, withHd n s.nd⟩ } := by
 have hlt : i < A.sl.length := (List.getElem?_eq_some_iff.1 hs).1
 have hxl := h.xlen
 obtain ⟨hm, k1, H⟩ := h.set3 hs (k := 4) (by omega) (by omega) v0 v1 v2 (s' := ⟨s.word, withHd n s.nd⟩)
 have e : w' = ((w.setCell ⟨g, o + (i * 7 + 4), none⟩ v0).setCell ⟨g, o + (i * 7 + 4 + 1), none⟩ v1).setCell ⟨g, o + (i * 7 + 4 + 2), none⟩ v2 := hw
 rw [<- e] at H k1
 refine ⟨hm, k1, _, H ?_⟩
 obtain ⟨c0, c1, c2, c3, c4, c5, h0, h1, h2, h3, h4, h5, h6, h7, h8⟩ := h.slot i s hs
 have hg : ∀ x, x < w.heap.size -> D x -> ¬ x = g := λ x _ hd e => by subst e; exact h.apart _ hm hd
 have hn' := hn.keeps k1 hg
 have h7' := h7.keeps k1 hg
 refine ⟨c0, c1, c2, v0, v1, v2, ?_, ?_, ?_, ?_, ?_, ?_, ?_, ⟨⟨h7'.1.lvl, h7'.1.high, h7'.1.right⟩, hn'.keys, hn'.vals, hn'.kids⟩, h8⟩
 ·rw [List.getElem?_set_ne (by omega), List.getElem?_set_ne (by omega), List.getElem?_set_ne (by omega)]; exact h0
 ·rw [List.getElem?_set_ne (by omega), List.getElem?_set_ne (by omega), List.getElem?_set_ne (by omega)]; exact h1
 ·rw [List.getElem?_set_ne (by omega), List.getElem?_set_ne (by omega), List.getElem?_set_ne (by omega)]; exact h2
 ·rw [List.getElem?_set_ne (by omega), List.getElem?_set_ne (by omega), List.getElem?_set_ne (by omega)]; exact h3
 ·rw [List.getElem?_set_ne (by omega), List.getElem?_set_ne (by omega), List.getElem?_set_self (by omega)]
 ·rw [List.getElem?_set_ne (by omega), List.getElem?_set_self (by simp; omega)]
 ·rw [List.getElem?_set_self (by simp; omega)]
set_option maxRecDepth 100000 in
theorem setHeadR {S : Nat -> Prop} {a0 a1 a2 : Value} {n : Nd} (h : DocW w M D q L xs A) (hh : IsHd w S a0 a1 a2 n) (hsm : NdSm 0 n) : Calls Tryz.prog 83 #[pV q, iV ix, .agg #[a0, a1, a2]] w λ e w' => e = .returned (iV (opSetHead A ix n).1) /\ DocS w w' M (DF D w w') q (opSetHead A ix n).2 /\ Keeps M w w' := by
 obtain ⟨X1, k1, e1, _, _⟩ := hh.high.form
 have e0 := hh.lvl
 have e2 := hh.right
 unfold iV at e0 e2
 subst e0 e1 e2
 rcases held_cases A ix with ⟨h0, s, hg, he⟩ | ⟨hn, hn'⟩
 ·have hx : opSetHead A ix n = (0, A.put ix ⟨s.word, withHd s.nd n⟩) := by unfold opSetHead; rw [hg]; simp [he]
  rw [hx]
  have HA := Hd h
  have HG := Hd hg
  have HN := Hd hh
  have HS : Hid (NdSm 0 n) := hsm
  have H0 : Hid (opHeld A ix = 0) := h0
  clear h h0 hg he hx hh hsm
  unfold pV iV
  go_enter Tryz.func83, Tryz.ntmps83
  go_wp2_with fail
  refine calls_at (λ wa hw => ?_)
  have hk : Keeps Nob w wa := by rw [hw]; exact Keeps.alloc _ _ _
  have BR : Hid (Blk wa w.heap.size 29 #[.int .i64 n.lvl, .slice X1 n.high.length k1, .int .i64 n.right]) := by rw [hw]; exact Blk.new _ _ _
  have H := Hd (heldR (ix := ix) (HA.out.keeps hk (λ _ _ _ => id) (λ _ _ _ => id)))
  rw [H0.out] at H
  replace HN := Hd (HN.out.keeps hk (λ _ _ _ => id))
  have K := Hd hk
  have sza := hk.size
  have ltR := BR.out.lt
  clear hw hk
  unfold pV iV at H
  refine H.out.mono ?_
  rintro e w' ⟨rfl, rfl⟩
  have q2 := λ i => BR.out.cell i
  go_wp2_with fail
  clear q2
  refine (cloneR (n := (⟨n.lvl, n.high, n.right, [], [], []⟩ : Nd)) (S := S) ⟨⟨rfl, HN.out.high, rfl⟩, ⟨[], SlR.nil _ _ _ _ (by decide), rfl, λ i u x h => by simp at h⟩, ⟨[], SlR.nil _ _ _ _ (by decide), rfl, λ i u x h => by simp at h⟩, SlR.nil _ _ _ _ (by decide)⟩ ⟨HS.out.1, ⟨by simp [Sm], λ x hx => by simp at hx⟩, ⟨by simp [Sm], λ x hx => by simp at hx⟩, by simp [Sm]⟩).mono ?_
  rintro e wb ⟨d0, d1, d2, d3, d4, d5, rfl, hO, hk, _⟩
  have f0 := hO.1.lvl
  obtain ⟨Y1, j1, f1⟩ := Own.form hO.1.high
  have f2 := hO.1.right
  unfold iV at f0 f2
  obtain ⟨Y3, j3, f3⟩ := OTx.form hO.2.keys
  obtain ⟨Y4, j4, f4⟩ := OTx.form hO.2.vals
  obtain ⟨Y5, j5, f5⟩ := Own.form hO.2.kids
  subst f0 f1 f2 f3 f4 f5
  replace K := tq_ K hk
  have szb := hk.size
  have HO := Hd hO
  clear hO hk
  go_wp2_with fail
  refine code_at (λ wc hw => ?_)
  have hk : Keeps Nob wb wc := by rw [hw]; exact Keeps.alloc _ _ _
  have BN : Hid (Blk wc wb.heap.size 35 #[.int .i64 n.lvl, .slice Y1 n.high.length j1, .int .i64 n.right, .slice Y3 0 j3, .slice Y4 0 j4, .slice Y5 0 j5]) := by rw [hw]; exact Blk.new _ _ _
  replace HO := Hd (HO.out.keeps hk (λ _ _ _ => id))
  replace K := tq_ K hk
  have szc := hk.size
  have hac := HA.out.grown K.out
  obtain ⟨i, g, o, c, c0, c1, c2, c3, c4, c5, hid, hs, h3, hi, hl, rfl, hm, hgb, hc0, hc1, hc2, hc3, hc4, hc5, hnd⟩ := hac.nd_ HG.out
  have ca : wc.cell? ⟨q, 1, none⟩ = some (.slice (some ⟨g, o, none⟩) A.sl.length c) := hac.blk.cell 1
  have h1 : 1 <= ix := by omega
  have h2 : ix <= A.sl.length := by omega
  have h3' : ix.toNat - 1 = i := by omega
  obtain ⟨cur, hgb'⟩ := hgb
  have GF := λ i => hgb'.frozen i
  have HAC := Hd hac
  have HSI : Hid (A.sl[i]? = some s) := hs
  have HI := Hd h3
  have hwr : IntKind.i64.wrap (ix - 1) = (i : Int) := by rw [IntKind.wrap_i64]; omega
  have hpos : 0 <= (i : Int) /\ (i : Int) < (A.sl.length : Int) := by omega
  clear hw hk hac hs hm hgb' hnd hid HA
  refine rC_ [0, 1, 2, 3, 4, 5, 6, 7, 8, 9, 10, 11] 11 (λ W => W.cell? ⟨q, 1, none⟩ = some (.slice (some ⟨g, o, none⟩) A.sl.length c) /\ W.cell? ⟨wb.heap.size, 0, none⟩ = some (.int .i64 n.lvl) /\ W.cell? ⟨wb.heap.size, 1, none⟩ = some (.slice Y1 n.high.length j1) /\ W.cell? ⟨wb.heap.size, 2, none⟩ = some (.int .i64 n.right)) ?_ ?_
  ·exact ⟨ca, BN.out.cell 0, BN.out.cell 1, BN.out.cell 2⟩
  iterate 11
   refine cR_ (v := ?_) rfl ?_ ?_
   rotate_left
   ·intro W hW
    try (obtain ⟨h1, h2, h3, h4⟩ : _ /\ _ /\ _ /\ _ := hW)
    go_simp
    try simp only [hwr, if_pos hpos, Int.toNat_natCast]
    try rfl
   simp only [Act.put, sa_, sb_, sc_]
  refine cA_ rfl ?_
  go_wp2
  refine ⟨.inl (by kernel_rfl), wpCanon_nil ?_⟩
  go_wp2
  refine post_at (λ wd hw => ?_)
  have hnn : IsHd wc (DF D w wc) (.int .i64 n.lvl) (.slice Y1 n.high.length j1) (.int .i64 n.right) n := ⟨rfl, (HO.out.1.high.mono (λ b _ hb => .inr ⟨by have := hb.1; omega, by have := hb.2; omega⟩) : OBy wc (DF D w wc) _ _).r, rfl⟩
  obtain ⟨hm, hk2, ys, hD⟩ := HAC.out.setHd HSI.out hnn rfl
  have hsz : wd.heap.size = wc.heap.size := by rw [hw]; simp
  have hk3 := hk2.drew'
  replace hD := hD.keeps (Keeps.drew Nob _) (λ _ _ _ => id) (λ _ _ _ => id)
  have hw' : wd = (((wc.setCell ⟨g, o + i * 7 + 1, none⟩ (.int .i64 n.lvl)).setCell ⟨g, o + i * 7 + 2, none⟩ (.slice Y1 n.high.length j1)).setCell ⟨g, o + i * 7 + 3, none⟩ (.int .i64 n.right)).drew := hw
  rw [<- hw'] at hk3 hD
  have hdf : DF D w wc = DF D w wd := by unfold DF Fresh; rw [hsz]
  rw [hdf] at hD
  have hfin : DocS w wd M (DF D w wd) q (A.put ix ⟨s.word, withHd s.nd n⟩) := by unfold Ar.put; rw [HI.out]; exact ⟨_, ys, hD⟩
  clear hw hw' hnn hk2
  go_ret
  refine ⟨rfl, hfin, (K.out.mono (λ _ _ h => h.elim)).trans hk3 (λ b hb e => by have h2 : b = _ := e; subst h2; exact hm)⟩
 ·rw [opSetHead_no hn]
  have HA := Hd h
  have hn2 : (opHeld A ix == 0) = false := by simp [hn]
  have HU := λ (wq : World) (hq : Keeps Nob w wq) => Hd (heldR (ix := ix) (h.keeps hq (λ _ _ _ => id) (λ _ _ _ => id)))
  clear h hn hn' hh hsm
  show Calls _ _ _ _ (λ e w' => e = .returned (iV (opHeld A ix)) /\ DocS w w' M (DF D w w') q A /\ Keeps M w w')
  generalize opHeld A ix = ob at *
  unfold pV iV at *
  go_enter Tryz.func83, Tryz.ntmps83
  go_wp2_with fail
  refine calls_at (λ wa hw => ?_)
  have hk : Keeps Nob w wa := by rw [hw]; exact Keeps.alloc _ _ _
  have H := HU wa hk
  have K := Hd hk
  clear hw hk HU
  refine H.out.mono ?_
  rintro e w' ⟨rfl, rfl⟩
  go_wp2
  go_ret
  exact ⟨rfl, ⟨_, _, HA.out.grown K.out⟩, K.out.mono (λ _ _ h => h.elim)⟩
set_option maxRecDepth 100000 in
theorem setBodyR {S : Nat -> Prop} {a0 a1 a2 : Value} {n : Nd} (h : DocW w M D q L xs A) (hh : IsBd w S a0 a1 a2 n) (hsm : NdSm 0 n) : Calls Tryz.prog 84 #[pV q, iV ix, .agg #[a0, a1, a2]] w λ e w' => e = .returned (iV (opSetBody A ix n).1) /\ DocS w w' M (DF D w w') q (opSetBody A ix n).2 /\ Keeps M w w' := by
 obtain ⟨X3, k3, e3, _, _⟩ := hh.keys.form
 obtain ⟨X4, k4, e4, _, _⟩ := hh.vals.form
 obtain ⟨X5, k5, e5, _, _⟩ := hh.kids.form
 subst e3 e4 e5
 rcases held_cases A ix with ⟨h0, s, hg, he⟩ | ⟨hn, hn'⟩
 ·have hx : opSetBody A ix n = (0, A.put ix ⟨s.word, withHd n s.nd⟩) := by unfold opSetBody; rw [hg]; simp [he]
  rw [hx]
  have HA := Hd h
  have HG := Hd hg
  have HN := Hd hh
  have HS : Hid (NdSm 0 n) := hsm
  have H0 : Hid (opHeld A ix = 0) := h0
  clear h h0 hg he hx hh hsm
  unfold pV iV
  go_enter Tryz.func84, Tryz.ntmps84
  go_wp2_with fail
  refine calls_at (λ wa hw => ?_)
  have hk : Keeps Nob w wa := by rw [hw]; exact Keeps.alloc _ _ _
  have BR : Hid (Blk wa w.heap.size 33 #[.slice X3 n.keys.length k3, .slice X4 n.vals.length k4, .slice X5 n.kids.length k5]) := by rw [hw]; exact Blk.new _ _ _
  have H := Hd (heldR (ix := ix) (HA.out.keeps hk (λ _ _ _ => id) (λ _ _ _ => id)))
  rw [H0.out] at H
  replace HN := Hd (HN.out.keeps hk (λ _ _ _ => id))
  have K := Hd hk
  have sza := hk.size
  have ltR := BR.out.lt
  clear hw hk
  unfold pV iV at H
  refine H.out.mono ?_
  rintro e w' ⟨rfl, rfl⟩
  have q2 := λ i => BR.out.cell i
  go_wp2_with fail
  clear q2
  refine (cloneR (n := (⟨0, [], 0, n.keys, n.vals, n.kids⟩ : Nd)) (S := S) ⟨⟨rfl, SlR.nil _ _ _ _ (by decide), rfl⟩, ⟨HN.out.keys, HN.out.vals, HN.out.kids⟩⟩ ⟨by simp [Sm], HS.out.2⟩).mono ?_
  rintro e wb ⟨d0, d1, d2, d3, d4, d5, rfl, hO, hk, _⟩
  have f0 := hO.1.lvl
  obtain ⟨Y1, j1, f1⟩ := Own.form hO.1.high
  have f2 := hO.1.right
  unfold iV at f0 f2
  obtain ⟨Y3, j3, f3⟩ := OTx.form hO.2.keys
  obtain ⟨Y4, j4, f4⟩ := OTx.form hO.2.vals
  obtain ⟨Y5, j5, f5⟩ := Own.form hO.2.kids
  subst f0 f1 f2 f3 f4 f5
  replace K := tq_ K hk
  have szb := hk.size
  have HO := Hd hO
  clear hO hk
  go_wp2_with fail
  refine code_at (λ wc hw => ?_)
  have hk : Keeps Nob wb wc := by rw [hw]; exact Keeps.alloc _ _ _
  have BN : Hid (Blk wc wb.heap.size 35 #[.int .i64 0, .slice Y1 0 j1, .int .i64 0, .slice Y3 n.keys.length j3, .slice Y4 n.vals.length j4, .slice Y5 n.kids.length j5]) := by rw [hw]; exact Blk.new _ _ _
  replace HO := Hd (HO.out.keeps hk (λ _ _ _ => id))
  replace K := tq_ K hk
  have szc := hk.size
  have hac := HA.out.grown K.out
  obtain ⟨i, g, o, c, c0, c1, c2, c3, c4, c5, hid, hs, h3, hi, hl, rfl, hm, hgb, hc0, hc1, hc2, hc3, hc4, hc5, hnd⟩ := hac.nd_ HG.out
  have ca : wc.cell? ⟨q, 1, none⟩ = some (.slice (some ⟨g, o, none⟩) A.sl.length c) := hac.blk.cell 1
  have h1 : 1 <= ix := by omega
  have h2 : ix <= A.sl.length := by omega
  have h3' : ix.toNat - 1 = i := by omega
  obtain ⟨cur, hgb'⟩ := hgb
  have GF := λ i => hgb'.frozen i
  have HAC := Hd hac
  have HSI : Hid (A.sl[i]? = some s) := hs
  have HI := Hd h3
  have hwr : IntKind.i64.wrap (ix - 1) = (i : Int) := by rw [IntKind.wrap_i64]; omega
  have hpos : 0 <= (i : Int) /\ (i : Int) < (A.sl.length : Int) := by omega
  clear hw hk hac hs hm hgb' hnd hid HA
  refine rC_ [0, 1, 2, 3, 4, 5, 6, 7, 8, 9, 10, 11] 11 (λ W => W.cell? ⟨q, 1, none⟩ = some (.slice (some ⟨g, o, none⟩) A.sl.length c) /\ W.cell? ⟨wb.heap.size, 3, none⟩ = some (.slice Y3 n.keys.length j3) /\ W.cell? ⟨wb.heap.size, 4, none⟩ = some (.slice Y4 n.vals.length j4) /\ W.cell? ⟨wb.heap.size, 5, none⟩ = some (.slice Y5 n.kids.length j5)) ?_ ?_
  ·exact ⟨ca, BN.out.cell 3, BN.out.cell 4, BN.out.cell 5⟩
  iterate 11
   refine cR_ (v := ?_) rfl ?_ ?_
   rotate_left
   ·intro W hW
    try (obtain ⟨h1, h2, h3, h4⟩ : _ /\ _ /\ _ /\ _ := hW)
    go_simp
    try simp only [hwr, if_pos hpos, Int.toNat_natCast]
    try rfl
   simp only [Act.put, sa_, sb_, sc_]
  refine cA_ rfl ?_
  go_wp2
  refine ⟨.inl (by kernel_rfl), wpCanon_nil ?_⟩
  go_wp2
  refine post_at (λ wd hw => ?_)
  have hnn : IsBd wc (DF D w wc) (.slice Y3 n.keys.length j3) (.slice Y4 n.vals.length j4) (.slice Y5 n.kids.length j5) n := by
   have hob : OBd wc (DF D w wc) _ _ _ _ := HO.out.2.mono (λ b _ hb => .inr ⟨by have := hb.1; omega, by have := hb.2; omega⟩)
   exact ⟨hob.keys.r, hob.vals.r, hob.kids.r⟩
  obtain ⟨hm, hk2, ys, hD⟩ := HAC.out.setBd HSI.out hnn rfl
  have hsz : wd.heap.size = wc.heap.size := by rw [hw]; simp
  have hk3 := hk2.drew'
  replace hD := hD.keeps (Keeps.drew Nob _) (λ _ _ _ => id) (λ _ _ _ => id)
  have hw' : wd = (((wc.setCell ⟨g, o + i * 7 + 4, none⟩ (.slice Y3 n.keys.length j3)).setCell ⟨g, o + i * 7 + 5, none⟩ (.slice Y4 n.vals.length j4)).setCell ⟨g, o + i * 7 + 6, none⟩ (.slice Y5 n.kids.length j5)).drew := hw
  rw [<- hw'] at hk3 hD
  have hdf : DF D w wc = DF D w wd := by unfold DF Fresh; rw [hsz]
  rw [hdf] at hD
  have hfin : DocS w wd M (DF D w wd) q (A.put ix ⟨s.word, withHd n s.nd⟩) := by unfold Ar.put; rw [HI.out]; exact ⟨_, ys, hD⟩
  clear hw hw' hnn hk2
  go_ret
  refine ⟨rfl, hfin, (K.out.mono (λ _ _ h => h.elim)).trans hk3 (λ b hb e => by have h2 : b = _ := e; subst h2; exact hm)⟩
 ·rw [opSetBody_no hn]
  have HA := Hd h
  have hn2 : (opHeld A ix == 0) = false := by simp [hn]
  have HU := λ (wq : World) (hq : Keeps Nob w wq) => Hd (heldR (ix := ix) (h.keeps hq (λ _ _ _ => id) (λ _ _ _ => id)))
  clear h hn hn' hh hsm
  show Calls _ _ _ _ (λ e w' => e = .returned (iV (opHeld A ix)) /\ DocS w w' M (DF D w w') q A /\ Keeps M w w')
  generalize opHeld A ix = ob at *
  unfold pV iV at *
  go_enter Tryz.func84, Tryz.ntmps84
  go_wp2_with fail
  refine calls_at (λ wa hw => ?_)
  have hk : Keeps Nob w wa := by rw [hw]; exact Keeps.alloc _ _ _
  have H := HU wa hk
  have K := Hd hk
  clear hw hk HU
  refine H.out.mono ?_
  rintro e w' ⟨rfl, rfl⟩
  go_wp2
  go_ret
  exact ⟨rfl, ⟨_, _, HA.out.grown K.out⟩, K.out.mono (λ _ _ h => h.elim)⟩
end
end Go.Proofs.YtbhohohgojcapaaGreat
namespace Go.Proofs.YtbhohohgojcapaaGreat
open Go.RowKit
theorem Tryz.inf_dslot : (Tryz.prog.info? 88).map (λ i => (i.zero, i.size, i.bytes)) = some (some (.agg #[.int .u64 0, .int .i64 0, .slice none 0 0, .int .i64 0, .slice none 0 0, .slice none 0 0, .slice none 0 0]), 7, 120) := by kernel_rfl
def nilSlot (x : Nat) : List Value := [.int .u64 x, .int .i64 0, .slice none 0 0, .int .i64 0, .slice none 0 0, .slice none 0 0, .slice none 0 0]
section
variable {M D : Nat -> Prop} {w : World} {q : Nat} {L : Value} {xs : List Value} {A : Ar} {ix : Int}
theorem DocW.rowOff (h : DocW w M D q L xs A) : ¬ L.ownBlock = some q := λ e => by
 obtain ⟨hl, a, c, rfl, _, _, hr⟩ := h.row
 rcases hr with ⟨rfl, _⟩ | ⟨g, o, cur, rfl, _, hb, _⟩
 ·simp [Value.ownBlock] at e
 ·simp [Value.ownBlock] at e; subst e; exact Blk.ne_ hb h.blk (by decide) rfl
theorem docNew_world (w : World) (n : Nat) (h1 : 1 <= n) (h2 : n <= 65536) {w' : World}
  (hw : w' = (w.alloc (.cells (nilSlot 0).toArray 88)).alloc (.cells #[.int .i64 n, .slice (some ⟨w.heap.size, 0, none⟩) 1 1, .int .i64 1] 91)) :
  DocS w w' (Fresh w w') Nob (w.heap.size + 1) ⟨n, [⟨0, Nd.zero⟩], 1⟩ /\ Keeps Nob w w' := by
 have hk : Keeps Nob w w' := by rw [hw]; exact (Keeps.alloc _ w _).alloc' _
 have b0 : Blk w' w.heap.size 88 (nilSlot 0).toArray := by rw [hw]; exact (Blk.new w _ _).alloc _
 have b1 : Blk w' (w.heap.size + 1) 91 #[.int .i64 n, .slice (some ⟨w.heap.size, 0, none⟩) 1 1, .int .i64 1] := by rw [hw]; exact Blk.new' (by simp) _ _
 have hsz : w'.heap.size = w.heap.size + 2 := by rw [hw]; simp
 refine ⟨⟨_, nilSlot 0, ⟨b1, ⟨rfl, _, _, rfl, Nat.le_refl _, by decide, .inr ⟨_, 0, _, rfl, ⟨by omega, by omega⟩, b0, by decide, λ i x hx => by simpa using hx⟩⟩, λ i s hs => ?_, ⟨by omega, by omega⟩, λ _ _ h => h, λ b hb => hb.2, λ _ h => h.elim, ?_⟩⟩, hk⟩
 ·cases i with
  | zero => simp at hs; subst hs; exact ⟨_, _, _, _, _, _, rfl, rfl, rfl, rfl, rfl, rfl, rfl, IsNd.zero _ _, by unfold U64; decide⟩
  | succ i => simp at hs
 ·simp; omega
theorem docNew_ok {n : Nat} (w : World) (h1 : 1 <= n) (h2 : n <= 65536) : Calls Tryz.prog 35 #[iV n] w λ e w' => e = .returned (.tuple #[pV (w.heap.size + 1), iV 0]) /\
  DocS w w' (Fresh w w') Nob (w.heap.size + 1) ⟨n, [⟨0, Nd.zero⟩], 1⟩ /\ Keeps Nob w w' := by
 have HQ := Hd (λ w' => docNew_world w n h1 h2 (w' := w'))
 have h1' : (1 : Int) <= n := by omega
 have h2' : (n : Int) <= 65536 := by omega
 clear h1 h2
 unfold iV
 go_enter Tryz.func35, Tryz.ntmps35
 go_wp2
 go_ret2
 exact ⟨rfl, HQ.out _ rfl⟩
theorem docAlloc_world (h : DocW w M D q L xs A) (hlt : A.sl.length < A.nodes) {w0 w1 w2 : World} {v : Value} {nn : Nat} (hnn : w.heap.size <= nn) (hk0 : Keeps Nob w w0)
  (ho : Own w1 (λ b => L.ownBlock = some b \/ (nn <= b /\ b < w1.heap.size)) 88 7 v (A.sl.length + 1) (xs ++ nilSlot 1))
  (hk : Keeps (λ b => L.ownBlock = some b) w0 w1) (hw2 : w2 = w1.setCell ⟨q, 1, none⟩ v) :
  DocW w2 (λ b => M b \/ Fresh w w2 b) D q v (xs ++ nilSlot 1) { A with sl := A.sl ++ [⟨1, Nd.zero⟩] } /\ Keeps M w w2 := by
 have hbM : ∀ b, L.ownBlock = some b -> M b := λ b hb => (h.row.blk hb).1
 have hk1 : Keeps (λ b => L.ownBlock = some b) w w1 := (hk0.mono (λ _ _ h => h.elim)).trans hk (λ _ _ h => h)
 have hnp := h.rowOff
 have hp1 := h.blk.keeps hk1 hnp
 have hs0 := hk0.size
 have hsz2 : w2.heap.size = w1.heap.size := by rw [hw2]; simp
 have hplt := h.blk.lt
 have hk2 : Keeps (λ b => L.ownBlock = some b \/ b = q) w w2 := by
  rw [hw2]; exact (hk1.mono (λ _ _ h => .inl h)).setCell' (λ _ => .inr rfl) _
 have hk12 : Keeps (λ b => b = q) w1 w2 := by rw [hw2]; exact Keeps.setCell w1 (M := λ b => b = q) rfl v
 have hxl := h.xlen
 refine ⟨⟨?_, ?_, λ i s hs => ?_, .inl h.mp, λ b hb hd => ?_, λ b hb => ?_, λ b hb => Nat.lt_of_lt_of_le (h.dlt b hb) hk2.size, ?_⟩, hk2.mono (λ b _ hb => by
  rcases hb with hb | rfl
  ·exact hbM b hb
  ·exact h.mp)⟩
 ·rw [hw2]; exact hp1.set_ 1 v
 ·have := ho.keeps hk12 (λ b _ hb e => by
   subst e
   rcases hb with hb | hb
   ·exact hnp hb
   ·omega)
  have := this.mono (T := λ b => M b \/ Fresh w w2 b) (λ b _ hb => by
   rcases hb with hb | hb
   ·exact .inl (hbM b hb)
   ·exact .inr ⟨by omega, by omega⟩)
  simpa using this
 ·by_cases hi : i < A.sl.length
  ·rw [List.getElem?_append_left hi] at hs
   refine ((h.slot i s hs).keeps hk2 (λ b _ hd e => ?_)).other (λ j _ h2 => List.getElem?_append_left (by omega))
   rcases e with e | e
   ·exact h.apart b (hbM b e) hd
   ·subst e; exact h.apart _ h.mp hd
  ·rw [List.getElem?_append_right (by omega)] at hs
   cases hj : i - A.sl.length with
   | zero =>
    rw [hj] at hs; simp at hs; subst hs
    have e : i = A.sl.length := by omega
    subst e
    refine ⟨.int .i64 0, .slice none 0 0, .int .i64 0, .slice none 0 0, .slice none 0 0, .slice none 0 0, ?_, ?_, ?_, ?_, ?_, ?_, ?_, IsNd.zero _ _, by unfold U64; decide⟩
    all_goals
     rw [List.getElem?_append_right (by omega)]
     simp [hxl, nilSlot]
   | succ j => rw [hj] at hs; simp at hs
 ·rcases hb with hb | hb
  ·exact h.apart b hb hd
  ·have := h.dlt b hd; have := hb.1; omega
 ·rcases hb with hb | hb
  ·exact Nat.lt_of_lt_of_le (h.mlt b hb) hk2.size
  ·exact hb.2
 ·have := h.bound; simp; omega
set_option maxRecDepth 100000 in
theorem allocR (h : DocW w M D q L xs A) : Calls Tryz.prog 77 #[pV q] w λ e w' => e = .returned (.tuple #[iV (opAlloc A).1, iV (opAlloc A).2.1]) /\
  DocS w w' (λ b => M b \/ Fresh w w' b) D q (opAlloc A).2.2 /\ Keeps M w w' := by
 have hbd := h.bound
 have H := Hd h
 obtain ⟨_, a, c, hsl, _, _, _⟩ := h.row
 subst hsl
 have c0 : w.cell? ⟨q, 0, none⟩ = some (iV A.nodes) := h.blk.cell 0
 have c1 : w.cell? ⟨q, 1, none⟩ = some (.slice a A.sl.length c) := h.blk.cell 1
 unfold opAlloc
 by_cases hf : A.sl.length = A.nodes
 ·rw [if_pos hf]
  have hge : A.nodes <= A.sl.length := by omega
  clear h hf hbd
  unfold pV iV at *
  go_enter Tryz.func77, Tryz.ntmps77
  go_wp2
  go_quiet (fail)
  go_wp2
  go_ret2
  refine ⟨rfl, ⟨_, _, (H.out.keeps (Keeps.drewN Nob w _) (λ _ _ _ => id) (λ _ _ _ => id)).monoM ?_ ?_ ?_⟩, Keeps.drewN _ _ _⟩
  ·exact λ b hb => .inl hb
  ·rintro b (hb | hb)
   ·exact H.out.apart b hb
   ·intro hd; have := H.out.dlt b hd; have := hb.1; omega
  ·rintro b (hb | hb)
   ·exact Nat.lt_of_lt_of_le (H.out.mlt b hb) (Nat.le_refl _)
   ·exact hb.2
 ·rw [if_neg hf]
  have hge : decide (A.nodes <= A.sl.length) = false := by simp; omega
  have hsmall : A.sl.length + 1 <= 65536 := by omega
  have HLT : Hid (A.sl.length < A.nodes) := by show _ < _; omega
  clear h hf hbd
  obtain ⟨i0, hi, hz0, hz1, hz2⟩ := info_parts Tryz.inf_dslot
  unfold pV iV at *
  go_enter Tryz.func77, Tryz.ntmps77
  go_wp2
  go_quiet (fail)
  obtain ⟨wq, hwq⟩ : ∃ wq, w.drewN nq = wq := ⟨_, rfl⟩
  rw [hwq]
  have hq := H.out.keeps (hwq ▸ Keeps.drewN Nob w nq) (λ _ _ _ => id) (λ _ _ _ => id)
  have hkq : Keeps Nob w wq := hwq ▸ Keeps.drewN Nob w nq
  have hsq : wq.heap.size = w.heap.size := by rw [<- hwq]; rfl
  clear c0 c1 hwq
  have c1 : wq.cell? ⟨q, 1, none⟩ = some (.slice a A.sl.length c) := hq.blk.cell 1
  have f1 : wq.frozen? ⟨q, 1, none⟩ = false := hq.blk.frozen 1
  have HNP := Hd hq.rowOff
  have hplt := hq.blk.lt
  have HQ := Hd hq
  have HKQ := Hd hkq
  have HSQ := Hd hsq
  clear hq hkq hsq
  go_wp2_with (at_builtin; refine wpList_app rfl (.tmp 18) (.tmp 20) 89 rfl Tryz.underlying89 hi hz0 hz1 hz2 rfl (by decide) (v := .slice a A.sl.length c) (n := A.sl.length) (m := 1) (S := M) (T := λ _ => True) (xs := xs) (news := nilSlot 1) (y := .slice (some ⟨wq.heap.size, 0, none⟩) 1 1) rfl ?c1 rfl ?c2 ?c3 ?c4 ?c5 ?c6)
  case c1 => exact HQ.out.row.keeps (Keeps.alloc Nob _ _) (λ _ _ _ => id)
  case c2 => exact (SlG.lit _ _ (nilSlot 1) 7 1 _ rfl rfl (by decide)).mono (λ _ _ _ => trivial)
  case c3 => intro u hu; simp only [nilSlot, List.mem_cons, List.not_mem_nil, or_false] at hu; rcases hu with h | h | h | h | h | h | h <;> subst h <;> rfl
  case c4 => unfold maxLen; omega
  case c5 => omega
  case c6 =>
   intro v' w1 ho hk _
   obtain ⟨A', c', hv⟩ := ho.form
   have hp1 := HQ.out.blk.keeps (((Keeps.alloc Nob _ _) |>.mono (M' := λ b => (Value.slice a A.sl.length c).ownBlock = some b) (λ _ _ h => h.elim)).trans hk (λ _ _ h => h)) HNP.out
   have HO := Hd ho
   have HK := Hd hk
   have cp := hp1.cell 1
   have fp := hp1.frozen 1
   clear ho hk hp1
   subst hv
   go_wp2
   go_ret2
   have R := docAlloc_world HQ.out HLT.out (Nat.le_succ _) (Keeps.alloc Nob wq _) HO.out HK.out rfl
   have R1 := R.1
   unfold Fresh at R1
   rw [HSQ.out] at R1
   exact ⟨rfl, ⟨_, _, R1⟩, (HKQ.out.mono (λ _ _ h => h.elim)).trans R.2 (λ _ _ h => h)⟩
set_option maxRecDepth 100000 in
theorem heldsR (h : DocW w M D q L xs A) : Calls Tryz.prog 58 #[pV q] w λ e w' => ∃ v, e = .returned v /\
  Own w' (From w.heap.size) 3 1 v (heldFrom 1 A.sl).length ((heldFrom 1 A.sl).map iV) /\ Keeps Nob w w' := by
 have hbd := h.bound
 have hsmall : A.sl.length <= 65536 := by omega
 have H := Hd h
 obtain ⟨_, a, c, hsl, _, _, hrow⟩ := h.row
 subst hsl
 have c1 : w.cell? ⟨q, 1, none⟩ = some (.slice a A.sl.length c) := h.blk.cell 1
 clear h hbd hrow
 obtain ⟨i0, hi, hz0, hz1, hz2⟩ := info_parts Tryz.inf_int
 unfold pV at *
 go_enter Tryz.func58, Tryz.ntmps58
 go_wp2
 go_loopw [3, 4] (λ l i wr => ∃ k : Nat, k <= A.sl.length /\ i = .int .i64 k /\ Own wr (From w.heap.size) 3 1 l (heldFrom 1 (A.sl.take k)).length ((heldFrom 1 (A.sl.take k)).map iV) /\ Keeps Nob w wr) (λ _ i _ => A.sl.length - (intOf i).toNat)
 case atStart => exact ⟨0, Nat.zero_le _, rfl, Own.nil _ _ _ _, Keeps.refl _ _⟩
 case round =>
  obtain ⟨k, hk, rfl, hown, hkp⟩ := hrel
  obtain ⟨A', c', hv⟩ := hown.form
  subst hv
  have hle := heldFrom_len 1 (A.sl.take k)
  have hle2 : (A.sl.take k).length <= k := List.length_take_le _ _
  have hsz := hkp.size
  have cr : wr.cell? ⟨q, 1, none⟩ = some (.slice a A.sl.length c) := hkp.cell c1 id
  by_cases hlt : k < A.sl.length
  ·obtain ⟨s, hs⟩ : ∃ s, A.sl[k]? = some s := ⟨_, List.getElem?_eq_getElem hlt⟩
   obtain ⟨g, o, c2, hform, _, _, hcells⟩ := H.out.form (by omega)
   obtain ⟨rfl, rfl⟩ : a = some ⟨g, o, none⟩ /\ c = c2 := by injection hform with h1 _ h3; exact ⟨h1, h3⟩
   obtain ⟨_, _, _, _, _, _, h0, _, _, _, _, _, _, _, hu⟩ := H.out.slot k s hs
   have hc2 : wr.cell? ⟨g, o + k * 7, none⟩ = some (.int .u64 s.word) := hkp.cell (hcells _ _ h0) id
   have HT := Hd (take_snoc' A.sl k s hs)
   have HS := Hd (heldFrom_snoc 1 (A.sl.take k) s)
   have HO := Hd hown
   have HK := Hd hkp
   have hw0 : (0 : Int) <= s.word := by omega
   have hw1 : (s.word : Int) < 18446744073709551616 := by unfold U64 at hu; omega
   have hmod := mod2_int s.word
   clear hcells hform hown hkp hs h0 hu
   by_cases hsw : s.word % 2 = 1
   ·rw [hsw] at hmod
    have HSW : Hid (s.word % 2 = 1) := hsw
    clear hsw
    go_wp2_with (at_builtin; refine wpList_app rfl (.tmp 24) (.tmp 27) 31 rfl Tryz.underlying31 hi hz0 hz1 hz2 rfl (by decide) (v := .slice A' (heldFrom 1 (List.take k A.sl)).length c') (n := (heldFrom 1 (List.take k A.sl)).length) (m := 1) (S := From w.heap.size) (T := λ _ => True) (xs := (heldFrom 1 (List.take k A.sl)).map iV) (news := [.int .i64 ((k : Int) + 1)]) rfl ?c1 (y := .slice (some ⟨wr.heap.size, 0, none⟩) 1 1) rfl ?c2 ?c3 ?c4 ?c5 ?c6)
    case c1 => exact HO.out.keeps (Keeps.alloc Nob _ _) (λ _ _ _ => id)
    case c2 => exact (SlG.lit1 _ _ _ _ rfl).mono (λ _ _ _ => trivial)
    case c3 => intro u hu; simp at hu; subst hu; rfl
    case c4 => unfold maxLen; omega
    case c5 => omega
    case c6 =>
     intro v' w1 ho hkk _
     have HOO := Hd ho
     have HKK := Hd hkk
     clear ho hkk
     go_wp2
     go_roundw
     case rel =>
      have hlk : (A.sl.take k).length = k := by rw [List.length_take]; omega
      have heq : heldFrom 1 (A.sl.take (k + 1)) = heldFrom 1 (A.sl.take k) ++ [((k : Int) + 1)] := by
       rw [HT.out, HS.out, if_pos HSW.out, hlk]; congr 2; omega
      refine ⟨k + 1, by omega, by go_num, ?_, ?_⟩
      ·rw [heq, List.length_append, List.map_append]
       refine HOO.out.mono (λ b _ hb => ?_)
       rcases hb with hb | hb
       ·exact (HO.out.blk hb).1
       ·have := HK.out.size; show w.heap.size <= b; have h2 := hb.1; omega
      ·exact (HK.out.alloc' _).trans HKK.out (λ b hb e => absurd hb (Nat.not_lt.2 (HO.out.blk e).1))
     case measure => simp [intOf]; omega
   ·rw [show s.word % 2 = 0 by omega] at hmod
    have HSW : Hid (¬ s.word % 2 = 1) := hsw
    clear hsw
    go_wp2
    go_roundw
    case rel =>
     have heq : heldFrom 1 (A.sl.take (k + 1)) = heldFrom 1 (A.sl.take k) := by
      rw [HT.out, HS.out, if_neg HSW.out, List.append_nil]
     exact ⟨k + 1, by omega, by go_num, by rw [heq]; exact HO.out, HK.out⟩
    case measure => simp [intOf]; omega
  ·have hkk : k = A.sl.length := by omega
   have HO := Hd hown
   have HK := Hd hkp
   clear hown hkp
   go_wp2
   go_ret
   have heq : A.sl.take k = A.sl := List.take_of_length_le (by omega)
   have := HO.out
   rw [heq] at this
   exact ⟨_, rfl, by rw [heq]; exact this, HK.out⟩
end
end Go.Proofs.YtbhohohgojcapaaGreat

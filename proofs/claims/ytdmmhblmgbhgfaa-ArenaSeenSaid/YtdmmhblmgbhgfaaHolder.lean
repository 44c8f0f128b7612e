/- ArenaHolder walked: while a latch is held no other Lock takes it. -/
import Derived.Test.YtdmmhblmgbhgfaaOps
import Derived.Test.YtdmmhblmgbhgfaaSame
namespace Go.Proofs.Ytdmmhblmgbhgfaa
open Go.RowKit

theorem put_len' (A : Ar) (ix : Int) (s : Sl) : (A.put ix s).sl.length = A.sl.length := by simp [Ar.put]
theorem len_lock (A : Ar) (ix : Int) (wd : Nat) : (opLock A ix wd).2.2.sl.length = A.sl.length := by
  unfold opLock; split
  · rfl
  · split
    · exact put_len' _ _ _
    · rfl
theorem len_unlock (A : Ar) (ix : Int) (c : Bool) : (opUnlock A ix c).2.sl.length = A.sl.length := by
  unfold opUnlock; split
  · rfl
  · split
    · rfl
    · exact put_len' _ _ _
theorem len_setHead (A : Ar) (ix : Int) (n : Nd) : (opSetHead A ix n).2.sl.length = A.sl.length := by
  unfold opSetHead; split
  · rfl
  · split
    · rfl
    · exact put_len' _ _ _
theorem len_setBody (A : Ar) (ix : Int) (n : Nd) : (opSetBody A ix n).2.sl.length = A.sl.length := by
  unfold opSetBody; split
  · rfl
  · split
    · rfl
    · exact put_len' _ _ _
theorem len_grow (A : Ar) (o ix : Int) : (opGrow A o ix).2.2.sl.length = A.sl.length := by
  unfold opGrow; split
  · rfl
  · split <;> rfl
theorem len_alloc (A : Ar) : A.sl.length ≤ (opAlloc A).2.2.sl.length := by
  unfold opAlloc; split
  · exact Nat.le_refl _
  · simp
theorem len_lay3 (A : Ar) (ix : Int) (n : Nd) : (opLay3 A ix n).sl.length = A.sl.length := by
  unfold opLay3; rw [len_unlock, len_setBody, len_setHead]
theorem len_lay (A : Ar) (ix : Int) (n : Nd) : A.sl.length ≤ (opLay A ix n).sl.length := by
  unfold opLay
  split
  · split
    · rw [len_lay3]; exact len_alloc A
    · exact len_alloc A
  · rw [len_lay3, len_lock]; exact Nat.le_refl _
/-- No call makes an arena shorter. -/
theorem len_step (A : Ar) (o : OpM) : A.sl.length ≤ (step A o).sl.length := by
  unfold step
  split
  · exact len_alloc A
  split
  · exact Nat.le_refl _
  split
  · exact Nat.le_of_eq (len_lock _ _ _).symm
  split
  · exact Nat.le_of_eq (len_unlock _ _ _).symm
  split
  · exact Nat.le_of_eq (len_setHead _ _ _).symm
  split
  · exact Nat.le_of_eq (len_setBody _ _ _).symm
  split
  · exact Nat.le_of_eq (len_grow _ _ _).symm
  split
  · exact len_lay _ _ _
  · exact Nat.le_of_eq (len_lock _ _ _).symm
theorem len_steps (A : Ar) (os : List OpM) : A.sl.length ≤ (steps A os).sl.length := by
  induction os generalizing A with
  | nil => exact Nat.le_refl _
  | cons o l ih => exact Nat.le_trans (len_step A o) (ih _)

/-- All words are numbers of 64 bits. -/
def W64 (A : Ar) : Prop := ∀ s ∈ A.sl, U64 s.word
section
variable {A : Ar} {ix : Int} {s : Sl} {n : Nd}
theorem w64_put (h : W64 A) (hs : U64 s.word) : W64 (A.put ix s) := fun t ht => by
  rcases List.mem_or_eq_of_mem_set ht with h1 | h1
  · exact h t h1
  · subst h1; exact hs
theorem w64_get (h : W64 A) (hg : A.get ix = some s) : U64 s.word := by
  obtain ⟨i, _, h2, _⟩ := get_some hg
  exact h s (List.mem_of_getElem? h2)
theorem w64_lock {wd : Nat} (h : W64 A) : W64 (opLock A ix wd).2.2 := by
  unfold opLock; split
  · exact h
  · rename_i s hg
    have := w64_get h hg
    split
    · refine w64_put h ?_; unfold U64 at *; simp; omega
    · exact h
theorem w64_unlock {c : Bool} (h : W64 A) : W64 (opUnlock A ix c).2 := by
  unfold opUnlock; split
  · exact h
  · rename_i s hg
    have := w64_get h hg
    split
    · exact h
    · exact w64_put h (back_u64 _ _ this)
theorem w64_setHead (h : W64 A) : W64 (opSetHead A ix n).2 := by
  unfold opSetHead; split
  · exact h
  · rename_i s hg
    have := w64_get h hg
    split
    · exact h
    · exact w64_put h this
theorem w64_setBody (h : W64 A) : W64 (opSetBody A ix n).2 := by
  unfold opSetBody; split
  · exact h
  · rename_i s hg
    have := w64_get h hg
    split
    · exact h
    · exact w64_put h this
theorem w64_grow {o : Int} (h : W64 A) : W64 (opGrow A o ix).2.2 := by
  unfold opGrow; split
  · exact h
  · split <;> exact h
theorem w64_alloc (h : W64 A) : W64 (opAlloc A).2.2 := by
  unfold opAlloc; split
  · exact h
  · intro s hs
    rcases List.mem_append.1 hs with hs | hs
    · exact h s hs
    · simp at hs; subst hs; unfold U64; decide
theorem w64_lay3 (h : W64 A) : W64 (opLay3 A ix n) := w64_unlock (w64_setBody (w64_setHead h))
theorem w64_lay (h : W64 A) : W64 (opLay A ix n) := by
  unfold opLay
  split
  · split
    · exact w64_lay3 (w64_alloc h)
    · exact w64_alloc h
  · exact w64_lay3 (w64_lock h)
theorem w64_step (h : W64 A) (o : OpM) : W64 (step A o) := by
  unfold step
  split
  · exact w64_alloc h
  split
  · exact h
  split
  · exact w64_lock h
  split
  · exact w64_unlock h
  split
  · exact w64_setHead h
  split
  · exact w64_setBody h
  split
  · exact w64_grow h
  split
  · exact w64_lay h
  · exact w64_lock h
theorem u64_steps (A : Ar) (os : List OpM) (h : W64 A) : W64 (steps A os) := by
  induction os generalizing A with
  | nil => exact h
  | cons o l ih => exact ih _ (w64_step h o)
end

section
variable {A B : Ar} {ix : Int} {s : Sl}
/-- Whatever Lock finds even it takes; behind it the word is odd. -/
theorem lock_own (hs : A.get ix = some s) : ∃ (took : Bool) (x1 : Nat) (A1 : Ar), opLock A ix s.word = (took, 0, A1) ∧ A1.get ix = some ⟨x1, s.nd⟩ ∧ x1 % 2 = 1 ∧ ((s.word % 2 = 0 ∧ took = true ∧ x1 = s.word + 1 ∧ A1 = A.put ix ⟨x1, s.nd⟩) ∨ (s.word % 2 = 1 ∧ took = false ∧ x1 = s.word ∧ A1 = A)) := by
  rw [opLock_some hs]
  by_cases he : s.word % 2 = 0
  · refine ⟨true, s.word + 1, A.put ix ⟨s.word + 1, s.nd⟩, if_pos ⟨rfl, he⟩, put_get hs _, by omega, .inl ⟨he, rfl, rfl, rfl⟩⟩
  · refine ⟨false, s.word, A, if_neg (fun h => he h.2), hs, by omega, .inr ⟨by omega, rfl, rfl, rfl⟩⟩
theorem lock_held (hs : A.get ix = some s) (ho : s.word % 2 = 1) (wd : Nat) : opLock A ix wd = (false, 0, A) := by
  rw [opLock_some hs, if_neg (fun h => by omega)]
theorem unlock_held (hs : A.get ix = some s) (ho : s.word % 2 = 1) (c : Bool) : opUnlock A ix c = (0, A.put ix ⟨back s.word c, s.nd⟩) := by
  unfold opUnlock; rw [hs]; simp [ho]
end

section
variable {w : World} {os : List OpM} {v ws : Value} {l : List Nat}
set_option maxRecDepth 100000 in
set_option maxHeartbeats 3200000 in
theorem holder_core {n : Int} {ch : Bool} {ix : Int} {wd x1 x2 : Nat} {took : Bool} {A0 A1 A2 : Ar} (h : OpsAt w w.heap.size v os) (hn : I64 n) (hw : SlR w (fun b => b < w.heap.size) ws (l.map (fun n : Nat => Value.int .u64 (n : Int))))
    (hA : steps (ar0 20) os = A0) (hix : ix = 1 + pk n A0.sl.length) (hlen : 1 ≤ A0.sl.length)
    (F1 : ∀ wx G b p q, J wx G b p q A0 A0 → Calls Try.prog 22 #[pV p, iV ix] wx fun e w' => e = .returned (.tuple #[.int .u64 wd, iV 0]) ∧ wx = w')
    (F2 : ∀ wx G b p q, J wx G b p q A0 A0 → Calls Try.prog 28 #[pV p, iV ix, .int .u64 wd] wx fun e w' => e = .returned (.tuple #[.bool took, iV 0]) ∧ J w' G b p q A1 A0 ∧ Keeps G wx w')
    (F3 : ∀ wx G b p q y, y ∈ l → J wx G b p q A1 A0 → Calls Try.prog 28 #[pV p, iV ix, .int .u64 y] wx fun e w' => e = .returned (.tuple #[.bool false, iV 0]) ∧ J w' G b p q A1 A0 ∧ Keeps G wx w')
    (F4 : ∀ wx G b p q, J wx G b p q A1 A0 → Calls Try.prog 22 #[pV p, iV ix] wx fun e w' => e = .returned (.tuple #[.int .u64 x1, iV 0]) ∧ wx = w')
    (F5 : ∀ wx G b p q, J wx G b p q A1 A0 → Calls Try.prog 29 #[pV p, iV ix, .bool ch] wx fun e w' => e = .returned (iV 0) ∧ J w' G b p q A2 A0 ∧ Keeps G wx w')
    (F6 : ∀ wx G b p q, J wx G b p q A2 A0 → Calls Try.prog 22 #[pV p, iV ix] wx fun e w' => e = .returned (.tuple #[.int .u64 x2, iV 0]) ∧ wx = w')
    (h0 : (wd : Int).tmod 2 = if took then 0 else 1) (h1 : (x1 : Int).tmod 2 = 1) (h2 : (x2 : Int).tmod 2 = 0) (h3 : took = true → (ch = true → ¬ (x2 : Int) = wd) ∧ (ch = false → x2 = wd)) (hwd : wd < 18446744073709551616) (hx1 : x1 < 18446744073709551616) (hx2 : x2 < 18446744073709551616) :
    Calls Try.prog 4 #[.agg #[v, iV n, ws, .bool ch]] w fun e w' => e = .returned (.bool true) ∧ Keeps Nob w w' := by
  have HO := Lib.hid h
  obtain ⟨A, c, hv, hc1, hc2, hc3, _⟩ := h
  subst hv
  have HWS := Lib.hid hw
  obtain ⟨Aw, cw, hv, hw1, hw2⟩ := hw.form
  rw [List.length_map] at hv hw1
  subst hv
  have HB := fun wx => begunJ (n := 20) wx (by decide) (by decide)
  have HA := Lib.hid hA
  have H3 := Lib.hid h3
  clear h3
  have hll : l.length ≤ 9223372036854775807 := by unfold maxLen at hw2; omega
  have FP := fun wx => pick_ (c := n) (n := (A0.sl.length : Int)) wx hn (by omega)
  obtain ⟨hp1, hp2⟩ := pk_range n (A0.sl.length : Int) (by omega)
  have FU := fun wx G b p q (hj : J wx G b p q A0 A0) => hj.usedR
  have hlb := fun wx G b p q (hj : J wx G b p q A0 A0) => hj.bound.1
  generalize pk n (A0.sl.length : Int) = pn at *
  subst hix
  clear hn hlen hc1 hc2 hw1 hw2 hw hA
  generalize hAL : A0.sl.length = len at *
  have hwd0 : (0 : Int) ≤ wd := by omega
  have hx10 : (0 : Int) ≤ x1 := by omega
  have hx20 : (0 : Int) ≤ x2 := by omega
  have hwdi : (wd : Int) < 18446744073709551616 := by omega
  have hx1i : (x1 : Int) < 18446744073709551616 := by omega
  have hx2i : (x2 : Int) < 18446744073709551616 := by omega
  clear hAL
  unfold iV pV at *
  go_enter Try.func4, Try.ntmps4
  go_wp2_with fail
  refine calls_at (fun wa hw => ?_)
  have hka : Keeps Nob w wa := by rw [hw]; exact Keeps.alloc _ _ _
  have KA := Lib.hid hka
  clear hw hka
  refine (HB wa).mono ?_
  rintro e w2 ⟨b, p, q, rfl, hj, hk⟩
  have HJ := Lib.hid (hj.weaken (G' := From w.heap.size) (fun x hx => Nat.le_trans KA.out.size hx))
  have K := Lib.hid (KA.out.trans hk (fun _ _ h => h))
  clear hj hk HB KA
  go_wp2
  go_loopw [9] (fun i wr => ∃ k : Nat, k ≤ os.length ∧ i = .int .i64 k ∧ J wr (From w.heap.size) b p q (steps (ar0 20) (os.take k)) (steps (ar0 20) (os.take k)) ∧ Keeps Nob w wr) (fun i _ => os.length - (intOf i).toNat)
  case atStart => exact ⟨0, Nat.zero_le _, rfl, HJ.out, K.out⟩
  obtain ⟨k, hk, rfl, hj, hkr⟩ := hrel
  rcases Nat.lt_or_ge k os.length with hlt | hlt
  · obtain ⟨o, ho⟩ : ∃ o, os[k]? = some o := ⟨_, List.getElem?_eq_getElem hlt⟩
    have hst : steps (ar0 20) (os.take (k + 1)) = step (steps (ar0 20) (os.take k)) o := by rw [take_snoc' _ _ _ ho, steps_snoc]
    have HST := Lib.hid hst
    obtain ⟨ad, c0, c1, c2, c3, c4, c5, rfl, hop, q0, q1, q2, q3, q4, q5, q6, q7, q8, q9, q10⟩ := (HO.out.keeps hkr (fun _ _ => id)).at_ ho
    have HR := Lib.hid (rawJ hj hop (fun x hx hg => absurd hx (Nat.not_lt.2 hg)))
    have HK := Lib.hid hkr
    clear hop ho hkr hj hst
    unfold pV at HR
    have hk64 : k < 9223372036854775807 := by omega
    go_wp2_with fail
    refine HR.out.mono ?_
    rintro e wk ⟨rfl, hj, hk2⟩
    have HJ2 := Lib.hid hj
    have HK2 := Lib.hid (HK.out.trans hk2 (fun x hx hg => absurd hx (Nat.not_lt.2 hg)))
    clear hj hk2
    go_wp2
    go_roundw
    case rel => exact ⟨k + 1, by omega, by go_num, by rw [HST.out]; exact HJ2.out, HK2.out⟩
    case measure => simp [intOf]; omega
  obtain rfl : k = os.length := by omega
  rw [List.take_length] at hj
  replace HJ := Lib.hid hj
  replace K := Lib.hid hkr
  clear hj hkr
  rw [HA.out] at HJ
  have hlen64 := hlb _ _ _ _ _ HJ.out
  clear hlb
  have r0 := HJ.out.blk.cell 0
  have r1 := HJ.out.blk.cell 1
  unfold pV at r0 r1
  go_wp2_with fail
  refine (FU _ _ _ _ _ HJ.out).mono ?_
  rintro e w' ⟨rfl, rfl⟩
  go_wp2_with fail
  refine (FP _).mono ?_
  rintro e w' ⟨rfl, rfl⟩
  have hpn : pn + 1 ≤ 65537 := by omega
  go_wp2_with fail
  refine (F1 _ _ _ _ _ HJ.out).mono ?_
  rintro e w' ⟨rfl, rfl⟩
  go_wp2_with fail
  clear r0 r1
  refine (F2 _ _ _ _ _ HJ.out).mono ?_
  rintro e w3 ⟨rfl, hj, hk⟩
  replace HJ := Lib.hid hj
  replace K := Lib.hid (K.out.trans hk (fun x hx hg => absurd hx (Nat.not_lt.2 hg)))
  clear hj hk F1 F2 FU FP
  have hs : (took = true ∧ (wd : Int).tmod 2 = 0) ∨ (took = false ∧ (wd : Int).tmod 2 = 1) := by
    cases took
    · exact .inr ⟨rfl, by simpa using h0⟩
    · exact .inl ⟨rfl, by simpa using h0⟩
  clear h0
  rcases hs with ⟨rfl, h0⟩ | ⟨rfl, h0⟩
  · go_wp2
    go_loopw [15] (fun i wr => ∃ k : Nat, k ≤ l.length ∧ i = .int .i64 k ∧ J wr (From w.heap.size) b p q A1 A0 ∧ Keeps Nob w wr) (fun i _ => l.length - (intOf i).toNat)
    case atStart => exact ⟨0, Nat.zero_le _, rfl, HJ.out, K.out⟩
    obtain ⟨k, hk, rfl, hj, hkr⟩ := hrel
    rcases Nat.lt_or_ge k l.length with hlt | hlt
    · obtain ⟨y, hy⟩ : ∃ y, l[k]? = some y := ⟨_, List.getElem?_eq_getElem hlt⟩
      obtain ⟨ad, ea, hab, hc⟩ := SlR.cells HWS.out (i := k) (by rw [List.length_map]; exact hlt)
      have q0 : wr.cell? (ad.add k) = some (.int .u64 (y : Int)) := hkr.cell (hc k _ (by rw [List.getElem?_map, hy]; rfl)) id
      subst ea
      have HAB : Hid (ad.block < w.heap.size) := hab
      have HK := Lib.hid hkr
      have HJR := Lib.hid hj
      have HY : Hid (y ∈ l) := List.mem_of_getElem? hy
      clear hy hab hc hkr hj
      have hk64 : k < 9223372036854775807 := by omega
      go_wp2
      refine wp_region_canon [0, 1, 2, 3, 4, 5, 6, 7, 8, 9, 10, 11, 12, 13, 14] 15 (fun W => W.cell? ⟨b, 0, none⟩ = some (.pointer (some ⟨p, 0, none⟩)) ∧ W.cell? (ad.add k) = some (.int .u64 (y : Int))) (by kernel_rfl) (by kernel_rfl) rfl (by kernel_rfl) (fun _ _ d _ _ h => by cases d <;> exact h) ?_ ?_
      · exact ⟨HJR.out.blk.cell 0, q0⟩
      iterate 9
        refine wpCanon_read (v := ?_) rfl (by kernel_rfl) (by rfl) ?_ ?_
        rotate_left
        · intro W hW
          try (obtain ⟨g1, g2⟩ : _ ∧ _ := hW)
          go_simp
          try rfl
        simp only [Act.put, List.setIfInBounds_toArray, List.set_cons_zero, List.set_cons_succ]
      have q1 : wr.drew.cell? (ad.add k) = some (.int .u64 (y : Int)) := (Keeps.drew Nob wr).cell q0 id
      have HF := Lib.hid (F3 wr.drew _ _ _ _ y HY.out (HJR.out.nob (Keeps.drew Nob wr)))
      have HKD := Lib.hid (HK.out.trans (Keeps.drew Nob wr) (fun _ _ h => h))
      refine wpCanon_act rfl (by kernel_rfl) ?_
      go_wp2_with (go_at_call 28; refine HF.out.mono ?_; rintro e wk ⟨rfl, hj, hk2⟩)
      have HJ2 := Lib.hid hj
      have HK2 := Lib.hid (HKD.out.trans hk2 (fun x hx hg => absurd hx (Nat.not_lt.2 hg)))
      refine ⟨.inr ⟨HJ2.out.blk.cell 0, ?_⟩, ?_⟩
      · refine hk2.cell q1 (fun hg => ?_)
        have hg2 : w.heap.size ≤ (ad.add k).block := hg
        rw [blk_add] at hg2
        have := HAB.out; omega
      clear hj hk2
      iterate 5
        refine wpCanon_read (v := ?_) rfl (by kernel_rfl) (by rfl) ?_ ?_
        rotate_left
        · intro W hW
          go_simp
          try rfl
        simp only [Act.put, List.setIfInBounds_toArray, List.set_cons_zero, List.set_cons_succ]
      refine wpCanon_nil ?_
      go_wp2
      go_roundw
      case rel => exact ⟨k + 1, by omega, by go_num, HJ2.out, HK2.out⟩
      case measure => simp [intOf]; omega
    obtain rfl : k = l.length := by omega
    replace HJ := Lib.hid hj
    replace K := Lib.hid hkr
    clear hj hkr
    have r0 := HJ.out.blk.cell 0
    unfold pV at r0
    go_wp2_with fail
    refine (F4 _ _ _ _ _ HJ.out).mono ?_
    rintro e w' ⟨rfl, rfl⟩
    go_wp2_with fail
    clear r0
    refine (F5 _ _ _ _ _ HJ.out).mono ?_
    rintro e w4 ⟨rfl, hj, hk⟩
    replace HJ := Lib.hid hj
    replace K := Lib.hid (K.out.trans hk (fun x hx hg => absurd hx (Nat.not_lt.2 hg)))
    clear hj hk
    have r0 := HJ.out.blk.cell 0
    unfold pV at r0
    go_wp2_with fail
    refine (F6 _ _ _ _ _ HJ.out).mono ?_
    rintro e w' ⟨rfl, rfl⟩
    clear r0
    have h4 := H3.out (by trivial)
    cases ch
    · obtain rfl : x2 = wd := h4.2 (by trivial)
      go_wp2
      go_ret
      exact ⟨rfl, K.out⟩
    · have h5 : ((x2 : Int) == (wd : Int)) = false := by simpa using h4.1 (by trivial)
      clear h4
      go_wp2
      go_ret
      exact ⟨rfl, K.out⟩
  · go_wp2
    go_loopw [15] (fun i wr => ∃ k : Nat, k ≤ l.length ∧ i = .int .i64 k ∧ J wr (From w.heap.size) b p q A1 A0 ∧ Keeps Nob w wr) (fun i _ => l.length - (intOf i).toNat)
    case atStart => exact ⟨0, Nat.zero_le _, rfl, HJ.out, K.out⟩
    obtain ⟨k, hk, rfl, hj, hkr⟩ := hrel
    rcases Nat.lt_or_ge k l.length with hlt | hlt
    · obtain ⟨y, hy⟩ : ∃ y, l[k]? = some y := ⟨_, List.getElem?_eq_getElem hlt⟩
      obtain ⟨ad, ea, hab, hc⟩ := SlR.cells HWS.out (i := k) (by rw [List.length_map]; exact hlt)
      have q0 : wr.cell? (ad.add k) = some (.int .u64 (y : Int)) := hkr.cell (hc k _ (by rw [List.getElem?_map, hy]; rfl)) id
      subst ea
      have HAB : Hid (ad.block < w.heap.size) := hab
      have HK := Lib.hid hkr
      have HJR := Lib.hid hj
      have HY : Hid (y ∈ l) := List.mem_of_getElem? hy
      clear hy hab hc hkr hj
      have hk64 : k < 9223372036854775807 := by omega
      go_wp2
      refine wp_region_canon [0, 1, 2, 3, 4, 5, 6, 7, 8, 9, 10, 11, 12, 13, 14] 15 (fun W => W.cell? ⟨b, 0, none⟩ = some (.pointer (some ⟨p, 0, none⟩)) ∧ W.cell? (ad.add k) = some (.int .u64 (y : Int))) (by kernel_rfl) (by kernel_rfl) rfl (by kernel_rfl) (fun _ _ d _ _ h => by cases d <;> exact h) ?_ ?_
      · exact ⟨HJR.out.blk.cell 0, q0⟩
      iterate 9
        refine wpCanon_read (v := ?_) rfl (by kernel_rfl) (by rfl) ?_ ?_
        rotate_left
        · intro W hW
          try (obtain ⟨g1, g2⟩ : _ ∧ _ := hW)
          go_simp
          try rfl
        simp only [Act.put, List.setIfInBounds_toArray, List.set_cons_zero, List.set_cons_succ]
      have q1 : wr.drew.cell? (ad.add k) = some (.int .u64 (y : Int)) := (Keeps.drew Nob wr).cell q0 id
      have HF := Lib.hid (F3 wr.drew _ _ _ _ y HY.out (HJR.out.nob (Keeps.drew Nob wr)))
      have HKD := Lib.hid (HK.out.trans (Keeps.drew Nob wr) (fun _ _ h => h))
      refine wpCanon_act rfl (by kernel_rfl) ?_
      go_wp2_with (go_at_call 28; refine HF.out.mono ?_; rintro e wk ⟨rfl, hj, hk2⟩)
      have HJ2 := Lib.hid hj
      have HK2 := Lib.hid (HKD.out.trans hk2 (fun x hx hg => absurd hx (Nat.not_lt.2 hg)))
      refine ⟨.inr ⟨HJ2.out.blk.cell 0, ?_⟩, ?_⟩
      · refine hk2.cell q1 (fun hg => ?_)
        have hg2 : w.heap.size ≤ (ad.add k).block := hg
        rw [blk_add] at hg2
        have := HAB.out; omega
      clear hj hk2
      iterate 5
        refine wpCanon_read (v := ?_) rfl (by kernel_rfl) (by rfl) ?_ ?_
        rotate_left
        · intro W hW
          go_simp
          try rfl
        simp only [Act.put, List.setIfInBounds_toArray, List.set_cons_zero, List.set_cons_succ]
      refine wpCanon_nil ?_
      go_wp2
      go_roundw
      case rel => exact ⟨k + 1, by omega, by go_num, HJ2.out, HK2.out⟩
      case measure => simp [intOf]; omega
    obtain rfl : k = l.length := by omega
    replace HJ := Lib.hid hj
    replace K := Lib.hid hkr
    clear hj hkr
    have r0 := HJ.out.blk.cell 0
    unfold pV at r0
    go_wp2_with fail
    refine (F4 _ _ _ _ _ HJ.out).mono ?_
    rintro e w' ⟨rfl, rfl⟩
    go_wp2_with fail
    clear r0
    refine (F5 _ _ _ _ _ HJ.out).mono ?_
    rintro e w4 ⟨rfl, hj, hk⟩
    replace HJ := Lib.hid hj
    replace K := Lib.hid (K.out.trans hk (fun x hx hg => absurd hx (Nat.not_lt.2 hg)))
    clear hj hk
    have r0 := HJ.out.blk.cell 0
    unfold pV at r0
    go_wp2_with fail
    refine (F6 _ _ _ _ _ HJ.out).mono ?_
    rintro e w' ⟨rfl, rfl⟩
    clear r0
    go_wp2
    go_ret
    exact ⟨rfl, K.out⟩

theorem holder_ok {n : Int} {ch : Bool} (h : OpsAt w w.heap.size v os) (hn : I64 n) (hw : SlR w (fun b => b < w.heap.size) ws (l.map (fun n : Nat => Value.int .u64 (n : Int)))) (hu : ∀ y ∈ l, U64 y) :
    Calls Try.prog 4 #[.agg #[v, iV n, ws, .bool ch]] w fun e w' => e = .returned (.bool true) ∧ Keeps Nob w w' := by
  obtain ⟨A0, hA⟩ : ∃ A0, steps (ar0 20) os = A0 := ⟨_, rfl⟩
  have hlen : 1 ≤ A0.sl.length := by rw [← hA]; exact len_steps (ar0 20) os
  obtain ⟨hp1, hp2⟩ := pk_range n (A0.sl.length : Int) (by omega)
  obtain ⟨s, hs⟩ := get_in (A := A0) (id := 1 + pk n A0.sl.length) (by omega) (by omega)
  have hws : U64 s.word := by
    obtain ⟨i, _, h2, _⟩ := get_some hs
    have := u64_steps (ar0 20) os (by intro s hs; simp [ar0] at hs; subst hs; unfold U64; decide)
    rw [hA] at this
    exact this s (List.mem_of_getElem? h2)
  obtain ⟨took, x1, A1, hl, hs1, ho1, hcase⟩ := lock_own hs
  have hx1 : U64 x1 := by
    rcases hcase with ⟨g1, _, rfl, _⟩ | ⟨_, _, rfl, _⟩
    · unfold U64 at *; omega
    · exact hws
  refine holder_core (A0 := A0) (A1 := A1) (A2 := A1.put (1 + pk n A0.sl.length) ⟨back x1 ch, s.nd⟩) (wd := s.word) (x1 := x1) (x2 := back x1 ch) (took := took) h hn hw hA rfl hlen ?_ ?_ ?_ ?_ ?_ ?_ ?_ ?_ ?_ ?_ hws hx1 (back_u64 x1 ch hx1)
  · intro wx G b p q hj
    have := hj.wordX (ix := 1 + pk n A0.sl.length)
    rwa [opWord_some hs, opErr_some hs] at this
  · intro wx G b p q hj
    have := hj.lockX (ix := 1 + pk n A0.sl.length) hws
    rwa [hl] at this
  · intro wx G b p q y hy hj
    have := hj.lockX (ix := 1 + pk n A0.sl.length) (hu y hy)
    rwa [lock_held hs1 ho1 y] at this
  · intro wx G b p q hj
    have := hj.wordX (ix := 1 + pk n A0.sl.length)
    rwa [opWord_some hs1, opErr_some hs1] at this
  · intro wx G b p q hj
    have := hj.unlockX (ix := 1 + pk n A0.sl.length) (c := ch)
    rwa [unlock_held hs1 ho1 ch] at this
  · intro wx G b p q hj
    have hs2 := put_get hs1 ⟨back x1 ch, s.nd⟩
    have := hj.wordX (ix := 1 + pk n A0.sl.length)
    rwa [opWord_some hs2, opErr_some hs2] at this
  · rw [mod2_int]
    rcases hcase with ⟨g1, rfl, _, _⟩ | ⟨g1, rfl, _, _⟩ <;> rw [g1] <;> rfl
  · rw [mod2_int, ho1]; rfl
  · rw [mod2_int]
    have : back x1 ch % 2 = 0 := by unfold back; cases ch <;> simp <;> omega
    rw [this]; rfl
  · intro ht
    rcases hcase with ⟨g1, _, rfl, _⟩ | ⟨_, g2, _, _⟩
    · refine ⟨fun hc => ?_, fun hc => ?_⟩
      · subst hc; unfold back U64 at *; simp; omega
      · subst hc; unfold back; simp
    · rw [ht] at g2; cases g2
end
end Go.Proofs.Ytdmmhblmgbhgfaa

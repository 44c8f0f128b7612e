import Derived.Test.YtbhohohgojcapaaGreatPkA9
import Derived.Test.YtbhohohgojcapaaGreatPkA7
set_option maxHeartbeats 64000000
namespace Go.Proofs.YtbhohohgojcapaaGreat
open Go.RowKit
section
variable {w : World} {G : Nat -> Prop} {b p q : Nat} {A B : Ar} {ix : Int}
theorem J.bound (h : J w G b p q A B) : A.sl.length <= 65536 /\ B.sl.length <= 65536 := by
 obtain ⟨hb, ⟨M, D, M', D', ⟨sl, ids, hX⟩, ⟨L, xs, hY⟩, h1, h2, h3⟩, hl, hnew, hsA, hsB⟩ := h
 have := hX.bound; have := hY.bound
 omega
set_option maxRecDepth 100000 in
theorem sameJ (h : J w G b p q A A) : Calls Tryz.prog 24 #[pV b] w λ e w' => e = .returned (.bool true) /\ J w' G b p q A A /\ Keeps Nob w w' := by
 have H00 := Hd h
 have HJ := Hd h
 have hl := h.bound.1
 have r0 := h.blk.cell 0
 have r1 := h.blk.cell 1
 clear h
 have F1 := λ wx (hj : J wx G b p q A A) => hj.usedR
 have F2 := λ wx (hj : J wx G b p q A A) => hj.heldX
 have F3 := λ wx (hj : J wx G b p q A A) => hj.heldR
 have F4 := λ wx (hj : J wx G b p q A A) => hj.usedX
 have F5 := λ wx (hj : J wx G b p q A A) => hj.leftX
 have F6 := λ wx (hj : J wx G b p q A A) => hj.leftR
 have F7 := λ wx (hj : J wx G b p q A A) => hj.rootX
 have F8 := λ wx (hj : J wx G b p q A A) => hj.rootR
 have hlh := heldFrom_len 1 A.sl
 generalize heldFrom 1 A.sl = L at *
 generalize A.sl.length = n at *
 generalize (A.nodes : Int) = nn at *
 generalize A.root = ro at *
 unfold pV iV at *
 go_enter Tryz.func24, Tryz.ntmps24
 go_wp2_with fail
 refine (F1 _ HJ.out).mono ?_
 rintro e w' ⟨rfl, rfl⟩
 go_wp2_with fail
 clear r0 r1
 refine (F2 _ HJ.out).mono ?_
 rintro e w1 ⟨v, rfl, hv, hj, hk⟩
 obtain ⟨A1, k1, e1⟩ := Own.form hv
 subst e1
 have HV := Hd (Own.mono hv (T := λ x => w.heap.size <= x /\ x < w1.heap.size) (λ x hl hx => ⟨hx, hl⟩))
 have K := Hd hk
 replace HJ := Hd hj
 clear hv hj hk
 have r1 := HJ.out.blk.cell 1
 unfold pV at r1
 go_wp2_with fail
 clear r1
 refine (F3 _ HJ.out).mono ?_
 rintro e w2 ⟨v, rfl, hv, hj, hk⟩
 obtain ⟨A2, k2, e1⟩ := Own.form hv
 subst e1
 have HW := Hd hv
 have S1 := Hd K.out.size
 replace HV := Hd (HV.out.keeps hk (λ _ _ _ => id))
 replace K := tq_ K hk
 replace HJ := Hd hj
 clear hv hj hk
 go_wp2
 refine rC_ [0, 1, 2, 3, 5, 4, 6, 7, 8, 9, 10, 11, 13, 14, 15, 16, 12, 17, 18, 19, 20, 21, 22, 23, 24, 26, 27, 28, 29, 25, 30, 31, 32, 33, 34, 35, 36, 37, 38, 39] 40 (λ W => W.cell? ⟨b, 0, none⟩ = some (.pointer (some ⟨p, 0, none⟩)) /\ W.cell? ⟨b, 1, none⟩ = some (.pointer (some ⟨q, 0, none⟩))) ?_ ?_
 ·exact ⟨HJ.out.blk.cell 0, HJ.out.blk.cell 1⟩
 iterate 5
  refine cR_ (v := ?_) rfl ?_ ?_
  rotate_left
  ·intro W hW
   try (obtain ⟨h1, h2⟩ : _ /\ _ := hW)
   go_simp
   try rfl
  simp only [Act.put, sa_, sb_, sc_]
 obtain ⟨hj, hk⟩ : J _ G b p q A A /\ Keeps Nob w2 _ := ⟨HJ.out.nob (Keeps.drew Nob w2), Keeps.drew Nob w2⟩
 replace HV := Hd (HV.out.keeps hk (λ _ _ _ => id)); replace HW := Hd (HW.out.keeps hk (λ _ _ _ => id)); replace K := tq_ K hk; replace HJ := Hd hj; clear hj hk
 refine cA_ rfl ?_
 go_wp2_with (go_at_call 59; refine (F4 _ HJ.out).mono ?_; rintro e wk ⟨rfl, rfl⟩)
 refine ⟨.inr ⟨HJ.out.blk.cell 0, HJ.out.blk.cell 1⟩, ?_⟩
 iterate 10
  refine cR_ (v := ?_) rfl ?_ ?_
  rotate_left
  ·intro W hW
   try (obtain ⟨h1, h2⟩ : _ /\ _ := hW)
   go_simp
   try rfl
  simp only [Act.put, sa_, sb_, sc_]
 refine cA_ rfl ?_
 go_wp2_with (go_at_call 60; refine (F5 _ HJ.out).mono ?_; rintro e wk ⟨rfl, hj, hk⟩; replace HV := Hd (HV.out.keeps hk (λ _ _ _ => id)); replace HW := Hd (HW.out.keeps hk (λ _ _ _ => id)); replace K := tq_ K hk; replace HJ := Hd hj; clear hj hk)
 refine ⟨.inr ⟨HJ.out.blk.cell 0, HJ.out.blk.cell 1⟩, ?_⟩
 refine cA_ rfl ?_
 go_wp2_with (go_at_call 41; refine (F6 _ HJ.out).mono ?_; rintro e wk ⟨rfl, hj, hk⟩; replace HV := Hd (HV.out.keeps hk (λ _ _ _ => id)); replace HW := Hd (HW.out.keeps hk (λ _ _ _ => id)); replace K := tq_ K hk; replace HJ := Hd hj; clear hj hk)
 refine ⟨.inr ⟨HJ.out.blk.cell 0, HJ.out.blk.cell 1⟩, ?_⟩
 iterate 11
  refine cR_ (v := ?_) rfl ?_ ?_
  rotate_left
  ·intro W hW
   try (obtain ⟨h1, h2⟩ : _ /\ _ := hW)
   go_simp
   try rfl
  simp only [Act.put, sa_, sb_, sc_]
 refine cA_ rfl ?_
 go_wp2_with (go_at_call 61; refine (F7 _ HJ.out).mono ?_; rintro e wk ⟨rfl, rfl⟩)
 refine ⟨.inr ⟨HJ.out.blk.cell 0, HJ.out.blk.cell 1⟩, ?_⟩
 refine cA_ rfl ?_
 go_wp2_with (go_at_call 42; refine (F8 _ HJ.out).mono ?_; rintro e wk ⟨rfl, rfl⟩)
 refine ⟨.inr ⟨HJ.out.blk.cell 0, HJ.out.blk.cell 1⟩, ?_⟩
 iterate 9
  refine cR_ (v := ?_) rfl ?_ ?_
  rotate_left
  ·intro W hW
   try (obtain ⟨h1, h2⟩ : _ /\ _ := hW)
   go_simp
   try rfl
  simp only [Act.put, sa_, sb_, sc_]
 refine wpCanon_nil ?_
 have S2 := Hd (by have := S1.out; exact this : w.heap.size <= w1.heap.size)
 have HI := HV
 clear HV HJ S1
 go_wp2
 go_loopw [6] (λ i wr => ∃ k : Nat, k <= L.length /\ i = .int .i64 k /\ ∃ xs : List Int, (∀ j, k <= j -> xs[j]? = L[j]?) /\ Own wr (λ x => w.heap.size <= x /\ x < w1.heap.size) 3 1 (.slice A1 L.length k1) L.length (xs.map iV) /\ OIn wr (From w1.heap.size) (.slice A2 L.length k2) L /\ Keeps Nob w wr) (λ i _ => L.length - (intOf i).toNat)
 case atStart => exact ⟨0, Nat.zero_le _, rfl, L, λ _ _ => rfl, HI.out, HW.out, K.out⟩
 obtain ⟨k, hk, rfl, xs, hxs, ho, hw, hkr⟩ := hrel
 rcases Nat.lt_or_ge k L.length with hlt | hlt
 ·obtain ⟨y, hy⟩ : ∃ y, L[k]? = some y := ⟨_, List.getElem?_eq_getElem hlt⟩
  have hxl : xs.length = L.length := by have := ho.1; simpa using this
  obtain ⟨h1, h2, h3⟩ := ho.at_
  obtain ⟨h4, h5, h6⟩ := Own.at_ hw
  rcases h3 with ⟨rfl, rfl⟩ | ⟨g, o, cur, rfl, hs, hb, hoc, hc⟩
  ·omega
  rcases h6 with ⟨rfl, rfl⟩ | ⟨g2, o2, cur2, rfl, hs2, hb2, hoc2, hcc⟩
  ·omega
  have q1 : wr.cell? ⟨g, o + k, none⟩ = some (.int .i64 y) := by rw [hb.cell]; exact hc k _ (by rw [List.getElem?_map, hxs k (Nat.le_refl _), hy]; rfl)
  have q2 : wr.cell? ⟨g2, o2 + k, none⟩ = some (.int .i64 y) := by rw [hb2.cell]; exact hcc k _ (by rw [List.getElem?_map, hy]; rfl)
  have q3 := hb.frozen (o + k)
  have HO := Hd ho
  have HW2 := Hd hw
  have HK := Hd hkr
  have HGS : Hid (w.heap.size <= g /\ g < w1.heap.size) := hs
  have HXS := Hd hxs
  have HXL := Hd hxl
  clear h1 h2 h4 h5 hs hb hoc hc hs2 hb2 hoc2 hcc hy ho hw hkr hxs hxl
  go_wp2
  go_quiet (fail)
  go_wp2
  go_roundw
  case rel =>
   refine ⟨k + 1, by omega, by go_num, xs.set k (-1), λ j hj => ?_, ?_, ?_, ?_⟩
   ·rw [List.getElem?_set_ne (by omega)]; exact HXS.out j (by omega)
   ·rw [List.map_set]
    exact (HO.out.keeps (Keeps.drewN Nob _ _) (λ _ _ _ => id)).putC (by rw [List.length_map, HXL.out]; exact hlt) _
   ·exact (HW2.out.keeps (Keeps.drewN Nob _ _) (λ _ _ _ => id)).keeps (Keeps.setCell _ (M := λ x => x = g) rfl _) (λ x _ hx e => by have h1 : w1.heap.size <= x := hx; have := HGS.out.2; omega)
   ·exact (HK.out.drewN' _).setCell' (λ hx => by have := HGS.out.1; have h2 : g < w.heap.size := hx; omega) _
  case measure => simp [intOf]; omega
 obtain rfl : k = L.length := by omega
 have K2 := Hd hkr
 clear hkr ho hw hxs
 go_wp2
 go_loopw [7] (λ i wr => ∃ k : Nat, k <= n + 2 /\ i = .int .i64 k /\ Keeps Nob w wr) (λ i _ => n + 2 - (intOf i).toNat)
 case atStart => exact ⟨0, Nat.zero_le _, rfl, K2.out⟩
 obtain ⟨k, hk, rfl, hkr⟩ := hrel
 rcases Nat.lt_or_ge k (n + 2) with hlt | hlt
 ·have HN := Hd (nodeJ (ix := (k : Int)) (H00.out.nob hkr))
  have HK := Hd hkr
  have hle : (k : Int) <= (n : Int) + 1 := by omega
  clear hkr
  unfold pV iV at HN
  go_wp2_with (go_at_call 62; refine HN.out.mono ?_; rintro e wk ⟨rfl, hj, hk2⟩)
  go_roundw
  case rel => exact ⟨k + 1, by omega, by go_num, HK.out.trans hk2 (λ _ _ h => h)⟩
  case measure => simp [intOf]; omega
 obtain rfl : k = n + 2 := by omega
 have HK := Hd hkr
 clear hkr
 go_wp2
 go_ret
 exact ⟨rfl, H00.out.nob HK.out, HK.out⟩
end
end Go.Proofs.YtbhohohgojcapaaGreat

namespace Go.Proofs.YtbhohohgojcapaaGreat
open Go.RowKit
structure OpM where
 kd : Int
 a : Int
 b : Int
 w : Nat
 ch : Bool
 nd : Nd
def opId (A : Ar) (c : Int) : Int := pk c ((A.sl.length : Int) + 2)
def step (A : Ar) (o : OpM) : Ar :=
 if pk o.kd 9 = 0 then (opAlloc A).2.2
 else if pk o.kd 9 = 1 then A
 else if pk o.kd 9 = 2 then (opLock A (opId A o.a) ((opWord A (opId A o.a) + (pk o.b 3).toNat) % 18446744073709551616)).2.2
 else if pk o.kd 9 = 3 then (opUnlock A (opId A o.a) o.ch).2
 else if pk o.kd 9 = 4 then (opSetHead A (opId A o.a) o.nd).2
 else if pk o.kd 9 = 5 then (opSetBody A (opId A o.a) o.nd).2
 else if pk o.kd 9 = 6 then (opGrow A (opId A o.a) (opId A o.b)).2.2
 else if pk o.kd 9 = 7 then opLay A (1 + pk o.a ((A.sl.length : Int) + 1)) o.nd
 else (opLock A (opId A o.a) o.w).2.2
theorem J.words {w : World} {G : Nat -> Prop} {b p q : Nat} {A B : Ar} (h : J w G b p q A B) : ∀ s ∈ A.sl, U64 s.word := by
 obtain ⟨hb, ⟨M, D, M', D', ⟨sl, ids, hX⟩, ⟨L, xs, hY⟩, h1, h2, h3⟩, hl, hnew, hsA, hsB⟩ := h
 intro s hs
 obtain ⟨i, hi⟩ := List.mem_iff_getElem?.1 hs
 obtain ⟨b, hb⟩ := hX.block hi
 exact hX.word64 hb hi
structure IsOp (w : World) (S : Nat -> Prop) (cs : Array Value) (o : OpM) : Prop where
 cells : ∃ c0 c1 c2 c3 c4 c5, cs = #[.int .i64 o.kd, .int .i64 o.a, .int .i64 o.b, .int .u64 o.w, .bool o.ch, c0, c1, c2, c3, c4, c5] /\ IsNd w S c0 c1 c2 c3 c4 c5 o.nd
 kd : I64 o.kd
 a : I64 o.a
 b : I64 o.b
 w : U64 o.w
 nd : NdSm 0 o.nd
end Go.Proofs.YtbhohohgojcapaaGreat

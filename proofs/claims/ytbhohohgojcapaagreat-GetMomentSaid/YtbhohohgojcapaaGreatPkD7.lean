import Derived.Test.YtbhohohgojcapaaGreatPkD1
import Derived.BigQuiet
set_option maxHeartbeats 64000000
namespace Go.Proofs.YtbhohohgojcapaaGreat
open Go.RowKit
section
variable {P : Program} {ops : Array Oper} {Q : Exit -> Act -> World -> Prop} {md : Region.Mode} {k : Nat} {C : World -> Prop}
theorem wpCanon_skip {i : Nat} {rest : List Nat} {listed : Array Bool} {a : Act} {w : World} {o : Oper} (ho' : ops.toList[i]? = some o)
  (hr : early md ops k i o = true) (hw : Region.wanted o (yielded ops a.tmps) = false) (h : wpCanon P md ops Q k C rest (listed.setIfInBounds i true) (a.put o.dst undef) w) : wpCanon P md ops Q k C (i :: rest) listed a w := by
 have ho : ops[i]? = some o := by rw [<- Array.getElem?_toList]; exact ho'
 simp only [wpCanon, ho]
 rw [if_pos hr]
 exact ⟨undef, .inr ⟨hw, rfl⟩, h⟩
end
def keyOk (x : List UInt8) : Bool := decide ((1 : Int) <= (x.length : Int) /\ (x.length : Int) <= 64)
theorem keyBad_eq (high x : List UInt8) : keyBad high x = (!keyOk x || beyond high x) := rfl
section
variable {S T : Nat -> Prop} {w : World} {a c0 c1 c2 c3 c4 c5 : Value} {n : Nd} {x : List UInt8}
theorem keyR (h : Byts w S a x) : Calls Tryz.prog 11 #[a] w λ e w' => e = .returned (.bool (keyOk x)) /\ w = w' := by
 obtain ⟨A, c, rfl, hn, hm⟩ := h.form
 have hz : x.length <= 9223372036854775807 := Nat.le_trans hn hm
 clear h hn hm
 unfold keyOk
 by_cases h1 : (1 : Int) <= x.length
 ·by_cases h2 : (x.length : Int) <= 64
  ·go_enter Tryz.func11, Tryz.ntmps11
   go_wp2
   go_ret
   exact ⟨by simp [h1, h2], rfl⟩
  ·go_enter Tryz.func11, Tryz.ntmps11
   go_wp2
   go_ret
   exact ⟨by simp [h2], rfl⟩
 ·go_enter Tryz.func11, Tryz.ntmps11
  go_wp2
  go_ret
  exact ⟨by simp; intro _; omega, rfl⟩
theorem valueR (h : Byts w S a x) : Calls Tryz.prog 139 #[a] w λ e w' => e = .returned (.bool (!valBad x)) /\ w = w' := by
 obtain ⟨A, c, rfl, hn, hm⟩ := h.form
 have hz : x.length <= 9223372036854775807 := Nat.le_trans hn hm
 clear h hn hm
 unfold valBad
 go_enter Tryz.func139, Tryz.ntmps139
 go_wp2
 go_ret
 refine ⟨?_, rfl⟩
 by_cases h1 : (x.length : Int) <= 256
 ·simp [h1]
 ·simp [h1]; omega
set_option maxRecDepth 100000 in
theorem keysR (h : IsNd w S c0 c1 c2 c3 c4 c5 n) : Calls Tryz.prog 138 #[.agg #[c0, c1, c2, c3, c4, c5]] w λ e w' => e = .returned (.bool (keysOk n)) /\ Keeps Nob w w' := by
 obtain ⟨X1, k1, e1, y1, z1⟩ := h.1.high.form
 obtain ⟨X3, k3, e3, y3, z3⟩ := h.2.keys.form
 obtain ⟨X4, k4, e4, y4, z4⟩ := h.2.vals.form
 obtain ⟨X5, k5, e5, y5, z5⟩ := h.2.kids.form
 have e0 := h.1.lvl
 have e2 := h.1.right
 unfold iV at e0 e2
 subst e0 e1 e2 e3 e4 e5
 have HN0 := Hd h
 have hl3 : n.keys.length <= 9223372036854775807 := Nat.le_trans y3 z3
 have hl1 : n.high.length <= 9223372036854775807 := Nat.le_trans y1 z1
 clear h y1 y3 y4 y5 z1 z3 z4 z5
 unfold keysOk
 obtain ⟨br, hbr⟩ : ∃ b, rises n.keys = b := ⟨_, rfl⟩
 obtain ⟨bk, hbk⟩ : ∃ b, n.keys.any (keyBad n.high) = b := ⟨_, rfl⟩
 rw [hbr, hbk]
 have HBK := Hd hbk
 have HRI : ∀ wx, Keeps Nob w wx -> Calls Tryz.prog 73 #[.slice X3 n.keys.length k3] wx λ e w' => e = .returned (.bool br) /\ Keeps Nob wx w' := λ wx k => by
  have := risesR (HN0.out.keeps k (λ _ _ _ => id)).2.keys
  rwa [hbr] at this
 clear hbr hbk
 go_enter Tryz.func138, Tryz.ntmps138
 go_wp2_with fail
 refine calls_at (λ wa hw => ?_)
 obtain ⟨N, hN⟩ : ∃ N, w.heap.size = N := ⟨_, rfl⟩
 have hka : Keeps Nob w wa := by rw [hw]; exact Keeps.alloc _ _ _
 have BN : Blk wa N 35 #[.int .i64 n.lvl, .slice X1 n.high.length k1, .int .i64 n.right, .slice X3 n.keys.length k3, .slice X4 n.vals.length k4, .slice X5 n.kids.length k5] := by rw [hw, <- hN]; exact Blk.new w _ _
 try rw [hN]
 have HBN := Hd BN
 have HK := Hd hka
 clear hw hN BN hka
 refine (HRI wa HK.out).mono ?_
 rintro e w1 ⟨rfl, hk1⟩
 replace HBN := Hd (HBN.out.keeps hk1 id)
 replace HK := Hd (HK.out.trans hk1 (λ _ _ h => h))
 clear hk1 HRI
 cases br
 ·go_wp2
  go_ret
  exact ⟨rfl, HK.out⟩
 go_wp2
 go_loopw [4] (λ i wr => ∃ k : Nat, k <= n.keys.length /\ i = .int .i64 k /\ (n.keys.take k).any (keyBad n.high) = false /\ Keeps Nob w wr /\ Blk wr N 35 #[.int .i64 n.lvl, .slice X1 n.high.length k1, .int .i64 n.right, .slice X3 n.keys.length k3, .slice X4 n.vals.length k4, .slice X5 n.kids.length k5]) (λ i _ => n.keys.length - (intOf i).toNat)
 case atStart => exact ⟨0, Nat.zero_le _, rfl, rfl, HK.out, HBN.out⟩
 obtain ⟨k, hk, rfl, hany, hkr, hbn⟩ := hrel
 replace HBN := Hd hbn
 replace HK := Hd hkr
 have HANY := Hd hany
 have q := λ i => hbn.cell i
 clear hbn hkr hany
 rcases Nat.lt_or_ge k n.keys.length with hlt | hlt
 ·obtain ⟨x, hx⟩ : ∃ x, n.keys[k]? = some x := ⟨_, List.getElem?_eq_getElem hlt⟩
  obtain ⟨ad, rfl, _, hc⟩ := HN0.out.2.keys.cells hlt
  obtain ⟨u, hu, hbu⟩ := hc k x hx
  have q0 : wr.cell? (ad.add k) = some u := HK.out.cell hu id
  have HBU := Hd (hbu.keeps HK.out (λ _ _ _ => id))
  have HX := Hd hx
  have hp1 : (k : Int) < (n.keys.length : Int) := by omega
  clear hc hu hbu hx
  have HKEY := Hd (keyR HBU.out)
  have hgood : ∀ b, keyBad n.high x = b -> (n.keys.take (k + 1)).any (keyBad n.high) = b := λ b hb => by
   rw [take_snocC _ _ _ HX.out, List.any_append, HANY.out]; simp [hb]
  have HGOOD := Hd hgood
  have hbad : keyBad n.high x = true -> bk = true := λ hb => by
   rw [<- HBK.out]
   exact List.any_eq_true.2 ⟨x, List.mem_of_getElem? HX.out, hb⟩
  have HBAD := Hd hbad
  clear hgood hbad
  obtain ⟨bo, hbo⟩ : ∃ b, keyOk x = b := ⟨_, rfl⟩
  rw [hbo] at HKEY
  have HBO := Hd hbo
  clear hbo
  go_wp2_with (go_at_call 11; refine HKEY.out.mono ?_; rintro e w2 ⟨rfl, rfl⟩)
  clear q
  cases bo
  ·clear HKEY
   refine rC_ [0, 1, 2, 3, 4, 5, 6, 7, 8, 9, 10, 11, 12, 13, 14, 15, 16, 17, 18, 19, 20, 21] 22 (λ W => W.cell? ⟨N, 1, none⟩ = some (.slice X1 n.high.length k1) /\ W.cell? ⟨N, 3, none⟩ = some (.slice (some ad) n.keys.length k3) /\ W.cell? (ad.add k) = some u) ?_ ?_
   ·exact ⟨HBN.out.cell 1, HBN.out.cell 3, q0⟩
   iterate 18
    first
     | refine wpCanon_skip rfl (by kernel_rfl) (by rfl) ?_
     |
      refine cR_ (v := ?_) rfl ?_ ?_
      rotate_left
      ·intro W hW
       try (obtain ⟨h1, h2, h3⟩ : _ /\ _ /\ _ := hW)
       go_simp
       try simp only [if_pos hp1]
       try rfl
    simp only [Act.put, sa_, sb_, sc_]
   refine cA_ rfl ?_
   go_wp2
   refine ⟨.inr ⟨HBN.out.cell 1, HBN.out.cell 3, q0⟩, ?_⟩
   iterate 3
    first
     | refine wpCanon_skip rfl (by kernel_rfl) (by rfl) ?_
     |
      refine cR_ (v := ?_) rfl ?_ ?_
      rotate_left
      ·intro W hW
       try (obtain ⟨h1, h2, h3⟩ : _ /\ _ /\ _ := hW)
       go_simp
       try simp only [if_pos hp1]
       try rfl
    simp only [Act.put, sa_, sb_, sc_]
   refine wpCanon_nil ?_
   go_wp2
   go_ret
   refine ⟨?_, HK.out.drew'⟩
   rw [HBAD.out (by rw [keyBad_eq, HBO.out]; rfl)]
   rfl
  ·clear HKEY
   by_cases hz : 0 < n.high.length
   ·have hz' : (0 : Int) < (n.high.length : Int) := by omega
    have HC := Hd (cmpR (HBU.out.keeps (Keeps.drew Nob wr) (λ _ _ _ => id)) ((HN0.out.keeps (HK.out.drew') (λ _ _ _ => id)).1.high))
    rcases cmp_cases x n.high with hcm | hcm | hcm
    all_goals
     have HCM := Hd hcm
     rw [hcm] at HC
     clear hcm
     refine rC_ [0, 1, 2, 3, 4, 5, 6, 7, 8, 9, 10, 11, 12, 13, 14, 15, 16, 17, 18, 19, 20, 21] 22 (λ W => W.cell? ⟨N, 1, none⟩ = some (.slice X1 n.high.length k1) /\ W.cell? ⟨N, 3, none⟩ = some (.slice (some ad) n.keys.length k3) /\ W.cell? (ad.add k) = some u) ?_ ?_
     ·exact ⟨HBN.out.cell 1, HBN.out.cell 3, q0⟩
     iterate 18
      first
       | refine wpCanon_skip rfl (by kernel_rfl) (by rfl) ?_
       |
        refine cR_ (v := ?_) rfl ?_ ?_
        rotate_left
        ·intro W hW
         try (obtain ⟨h1, h2, h3⟩ : _ /\ _ /\ _ := hW)
         go_simp
         try simp only [if_pos hp1]
         try rfl
      simp only [Act.put, sa_, sb_, sc_]
     refine cA_ rfl ?_
     go_wp2_with (go_at_call 102; refine HC.out.mono ?_; rintro e w3 ⟨rfl, hk3⟩)
     have q3 : w3.cell? (ad.add k) = some u := (((Keeps.drew Nob wr).trans hk3 (λ _ _ h => h)) : Keeps Nob wr w3).cell q0 id
     have HK3 := Hd (HK.out.drew'.trans hk3 (λ _ _ h => h))
     have HBN3 := Hd (HBN.out.keeps ((Keeps.drew Nob wr).trans hk3 (λ _ _ h => h)) id)
     clear hk3
     refine ⟨.inr ⟨HBN3.out.cell 1, HBN3.out.cell 3, q3⟩, ?_⟩
     iterate 3
      first
       | refine wpCanon_skip rfl (by kernel_rfl) (by rfl) ?_
       |
        refine cR_ (v := ?_) rfl ?_ ?_
        rotate_left
        ·intro W hW
         try (obtain ⟨h1, h2, h3⟩ : _ /\ _ /\ _ := hW)
         go_simp
         try simp only [if_pos hp1]
         try rfl
      simp only [Act.put, sa_, sb_, sc_]
     refine wpCanon_nil ?_
     go_wp2
    ·go_roundw
     case rel => exact ⟨k + 1, by omega, by go_num, HGOOD.out false (by rw [keyBad_eq, HBO.out]; unfold beyond; rw [HCM.out]; simp), HK3.out, HBN3.out⟩
     case measure => simp [intOf]; omega
    all_goals
     go_ret
     refine ⟨?_, HK3.out⟩
     rw [HBAD.out (by rw [keyBad_eq, HBO.out]; unfold beyond; rw [HCM.out]; simp [hz])]
     rfl
   ·have hz' : decide ((0 : Int) < (n.high.length : Int)) = false := decide_eq_false (by omega)
    have hz2 : n.high.length = 0 := by omega
    have HZ := Hd hz2
    clear hz2
    refine rC_ [0, 1, 2, 3, 4, 5, 6, 7, 8, 9, 10, 11, 12, 13, 14, 15, 16, 17, 18, 19, 20, 21] 22 (λ W => W.cell? ⟨N, 1, none⟩ = some (.slice X1 n.high.length k1) /\ W.cell? ⟨N, 3, none⟩ = some (.slice (some ad) n.keys.length k3) /\ W.cell? (ad.add k) = some u) ?_ ?_
    ·exact ⟨HBN.out.cell 1, HBN.out.cell 3, q0⟩
    iterate 18
     first
      | refine wpCanon_skip rfl (by kernel_rfl) (by rfl) ?_
      |
       refine cR_ (v := ?_) rfl ?_ ?_
       rotate_left
       ·intro W hW
        try (obtain ⟨h1, h2, h3⟩ : _ /\ _ /\ _ := hW)
        go_simp
        try simp only [if_pos hp1]
        try rfl
     simp only [Act.put, sa_, sb_, sc_]
    refine cA_ rfl ?_
    go_wp2
    refine ⟨.inr ⟨HBN.out.cell 1, HBN.out.cell 3, q0⟩, ?_⟩
    iterate 3
     first
      | refine wpCanon_skip rfl (by kernel_rfl) (by rfl) ?_
      |
       refine cR_ (v := ?_) rfl ?_ ?_
       rotate_left
       ·intro W hW
        try (obtain ⟨h1, h2, h3⟩ : _ /\ _ /\ _ := hW)
        go_simp
        try simp only [if_pos hp1]
        try rfl
     simp only [Act.put, sa_, sb_, sc_]
    refine wpCanon_nil ?_
    go_wp2
    go_roundw
    case rel => exact ⟨k + 1, by omega, by go_num, HGOOD.out false (by rw [keyBad_eq, HBO.out]; unfold beyond; rw [HZ.out]; simp), HK.out.drew', HBN.out⟩
    case measure => simp [intOf]; omega
 ·obtain rfl : k = n.keys.length := by omega
  go_wp2
  go_ret
  refine ⟨?_, HK.out⟩
  have h := HANY.out
  rw [List.take_length, HBK.out] at h
  rw [h]; rfl
end
end Go.Proofs.YtbhohohgojcapaaGreat

set_option maxHeartbeats 64000000
namespace Go.Proofs.YtbhohohgojcapaaGreat
open Go.RowKit
section
variable {S T : Nat -> Prop} {w : World} {a c0 c1 c2 c3 c4 c5 : Value} {n : Nd} {x : List UInt8}
set_option maxRecDepth 100000 in
theorem kidsR {a0 a1 a2 a3 a4 : Int} (h : IsNd w S c0 c1 c2 c3 c4 c5 n) : Calls Tryz.prog 140 #[.agg #[c0, c1, c2, c3, c4, c5], .agg #[.int .i64 a0, .int .i64 a1, .int .i64 a2, .int .i64 a3, .int .i64 a4]] w λ e w' => e = .returned (.bool (decide ((n.kids.length : Int) <= a2) && kidsFine n.kids a0)) /\ Keeps Nob w w' := by
 obtain ⟨X1, k1, e1, y1, z1⟩ := h.1.high.form
 obtain ⟨X3, k3, e3, y3, z3⟩ := h.2.keys.form
 obtain ⟨X4, k4, e4, y4, z4⟩ := h.2.vals.form
 obtain ⟨X5, k5, e5, y5, z5⟩ := h.2.kids.form
 have e0 := h.1.lvl
 have e2 := h.1.right
 unfold iV at e0 e2
 subst e0 e1 e2 e3 e4 e5
 have HN0 := Hd h
 have hl5 : n.kids.length <= 9223372036854775807 := Nat.le_trans y5 z5
 clear h y1 y3 y4 y5 z1 z3 z4 z5
 obtain ⟨bf, hbf⟩ : ∃ b, kidsFine n.kids a0 = b := ⟨_, rfl⟩
 obtain ⟨bl, hbl⟩ : ∃ b, decide ((n.kids.length : Int) <= a2) = b := ⟨_, rfl⟩
 rw [hbf, hbl]
 have HBF := Hd hbf
 have hgt : decide (a2 < (n.kids.length : Int)) = !bl := by rw [<- hbl]; by_cases h : (n.kids.length : Int) <= a2 <;> simp [h] <;> omega
 clear hbf hbl
 cases bl
 ·go_enter Tryz.func140, Tryz.ntmps140
  go_wp2
  go_ret
  exact ⟨rfl, (Keeps.alloc _ _ _).alloc' _⟩
 go_enter Tryz.func140, Tryz.ntmps140
 go_wp2
 have K0 := Hd (show ∀ o1 o2, Keeps Nob w ((w.alloc o1).alloc o2) from λ o1 o2 => (Keeps.alloc _ w _).alloc' _)
 have BN0 := Hd (show ∀ o2, Blk ((w.alloc (.cells #[.int .i64 n.lvl, .slice X1 n.high.length k1, .int .i64 n.right, .slice X3 n.keys.length k3, .slice X4 n.vals.length k4, .slice X5 n.kids.length k5] 35)).alloc o2) w.heap.size 35 #[.int .i64 n.lvl, .slice X1 n.high.length k1, .int .i64 n.right, .slice X3 n.keys.length k3, .slice X4 n.vals.length k4, .slice X5 n.kids.length k5] from λ o2 => (Blk.new w _ _).alloc _)
 have BC0 := Hd (show ∀ o1, Blk ((w.alloc o1).alloc (.cells #[.int .i64 a0, .int .i64 a1, .int .i64 a2, .int .i64 a3, .int .i64 a4] 49)) (w.heap.size + 1) 49 #[.int .i64 a0, .int .i64 a1, .int .i64 a2, .int .i64 a3, .int .i64 a4] from λ o1 => Blk.new' (by simp) _ _)
 go_loopw [5] (λ i wr => ∃ k : Nat, k <= n.kids.length /\ i = .int .i64 k /\ (n.kids.take k).Nodup /\ (∀ x ∈ n.kids.take k, 1 <= x /\ x <= a0) /\ Keeps Nob w wr /\ Blk wr w.heap.size 35 #[.int .i64 n.lvl, .slice X1 n.high.length k1, .int .i64 n.right, .slice X3 n.keys.length k3, .slice X4 n.vals.length k4, .slice X5 n.kids.length k5] /\ Blk wr (w.heap.size + 1) 49 #[.int .i64 a0, .int .i64 a1, .int .i64 a2, .int .i64 a3, .int .i64 a4]) (λ i _ => n.kids.length - (intOf i).toNat)
 case atStart => exact ⟨0, Nat.zero_le _, rfl, by simp, by simp, K0.out _ _, BN0.out _, BC0.out _⟩
 clear K0 BN0 BC0
 obtain ⟨k, hk, rfl, hnd, hin, hkr, hbn, hbc⟩ := hrel
 have HND := Hd hnd
 have HIN := Hd hin
 have HK := Hd hkr
 have HBN := Hd hbn
 have HBC := Hd hbc
 have q := λ i => hbn.cell i
 have q2 := λ i => hbc.cell i
 clear hnd hin hkr hbn hbc
 rcases Nat.lt_or_ge k n.kids.length with hlt | hlt
 ·obtain ⟨kid, hkid⟩ : ∃ x, n.kids[k]? = some x := ⟨_, List.getElem?_eq_getElem hlt⟩
  obtain ⟨ad, rfl, _, hc⟩ := HN0.out.2.kids.cells hlt
  have q0 : wr.cell? (ad.add k) = some (.int .i64 kid) := HK.out.cell (hc k kid hkid) id
  have HCE := Hd hc
  have HT := Hd (take_snocC n.kids k kid hkid)
  have HMEM : Hid (kid ∈ n.kids) := List.mem_of_getElem? hkid
  have HKID : Hid (n.kids[k]? = some kid) := hkid
  clear hc hkid
  have hbad : ¬ (1 <= kid /\ kid <= a0) -> bf = false := λ hb => by
   rw [<- HBF.out]
   exact kidsFine_false (λ hh => hb (hh.2 kid HMEM.out))
  have HBAD := Hd hbad
  clear hbad
  by_cases hc1 : kid < 1
  ·go_wp2
   go_quiet (fail)
   go_wp2
   go_ret
   refine ⟨?_, HK.out.drewN' _⟩
   rw [HBAD.out (λ h => by omega)]; rfl
  have hc1' : decide (kid < 1) = false := decide_eq_false hc1
  by_cases hc2 : a0 < kid
  ·go_wp2
   go_quiet (fail)
   go_wp2
   go_ret
   refine ⟨?_, HK.out.drewN' _⟩
   rw [HBAD.out (λ h => by omega)]; rfl
  have hc2' : decide (a0 < kid) = false := decide_eq_false hc2
  have HOKK : Hid (1 <= kid /\ kid <= a0) := ⟨by omega, by omega⟩
  go_wp2
  go_quiet (fail)
  go_wp2
  have K1 := Hd (show ∀ m, Keeps Nob w (wr.drewN m) from λ m => HK.out.drewN' m)
  have BN1 := Hd (show ∀ m, Blk (wr.drewN m) w.heap.size 35 #[.int .i64 n.lvl, .slice X1 n.high.length k1, .int .i64 n.right, .slice X3 n.keys.length k3, .slice X4 n.vals.length k4, .slice (some ad) n.kids.length k5] from λ m => HBN.out.drewN m)
  have BC1 := Hd (show ∀ m, Blk (wr.drewN m) (w.heap.size + 1) 49 #[.int .i64 a0, .int .i64 a1, .int .i64 a2, .int .i64 a3, .int .i64 a4] from λ m => HBC.out.drewN m)
  clear q q2 q0 HBN HBC HK
  go_loopw [6] (λ i wz => ∃ j : Nat, j <= k /\ i = .int .i64 j /\ kid ∉ n.kids.take j /\ Keeps Nob w wz /\ Blk wz w.heap.size 35 #[.int .i64 n.lvl, .slice X1 n.high.length k1, .int .i64 n.right, .slice X3 n.keys.length k3, .slice X4 n.vals.length k4, .slice (some ad) n.kids.length k5] /\ Blk wz (w.heap.size + 1) 49 #[.int .i64 a0, .int .i64 a1, .int .i64 a2, .int .i64 a3, .int .i64 a4]) (λ i _ => k - (intOf i).toNat)
  case atStart => exact ⟨0, Nat.zero_le _, rfl, by simp, K1.out _, BN1.out _, BC1.out _⟩
  clear K1 BN1 BC1
  obtain ⟨j, hj, rfl, hnot, hkr, hbn, hbc⟩ := hrel
  have HNOT := Hd hnot
  have HK := Hd hkr
  have HBN := Hd hbn
  have HBC := Hd hbc
  have q := λ i => hbn.cell i
  clear hnot hkr hbn hbc
  rcases Nat.lt_or_ge j k with hjl | hjl
  ·obtain ⟨y, hy⟩ : ∃ x, n.kids[j]? = some x := ⟨_, List.getElem?_eq_getElem (by omega)⟩
   have q0 := HK.out.cell (HCE.out k kid HKID.out) id
   have q1 := HK.out.cell (HCE.out j y hy) id
   unfold iV at q0 q1
   have HT2 := Hd (take_snocC n.kids j y hy)
   have HY : Hid (n.kids[j]? = some y) := hy
   clear hy
   by_cases hyk : y = kid
   ·have HYK := Hd hyk
    subst hyk
    go_wp2
    go_quiet (fail)
    go_wp2
    go_ret
    refine ⟨?_, HK.out.drewN' _⟩
    have : bf = false := by
     rw [<- HBF.out]
     refine kidsFine_false (λ hh => ?_)
     have h1 := hh.1
     rw [<- List.take_append_drop (k + 1) n.kids, HT.out] at h1
     have hm : y ∈ n.kids.take k := List.mem_of_getElem? (i := j) (by rw [List.getElem?_take, if_pos hjl]; exact HY.out)
     exact (List.nodup_append.1 (List.nodup_append.1 h1).1).2.2 y hm y (by simp) rfl
    rw [this]; rfl
   ·have hyk' : (y == kid) = false := by simpa using hyk
    have HYK := Hd hyk
    clear hyk
    go_wp2
    go_quiet (fail)
    go_wp2
    go_roundw
    case rel =>
     refine ⟨j + 1, by omega, by go_num, ?_, HK.out.drewN' _, HBN.out.drewN _, HBC.out.drewN _⟩
     rw [HT2.out]
     intro hm
     rcases List.mem_append.1 hm with hm | hm
     ·exact HNOT.out hm
     ·simp at hm; exact HYK.out hm.symm
    case measure => simp [intOf]; omega
  ·obtain rfl : j = k := by omega
   go_wp2
   go_roundw
   case rel =>
    refine ⟨j + 1, by omega, by go_num, ?_, ?_, HK.out, HBN.out, HBC.out⟩
    ·rw [HT.out]; exact nodup_snoc HND.out HNOT.out
    ·rw [HT.out]
     intro x hx
     rcases List.mem_append.1 hx with hx | hx
     ·exact HIN.out x hx
     ·simp at hx; subst hx; exact HOKK.out
   case measure => simp [intOf]; omega
 ·obtain rfl : k = n.kids.length := by omega
  go_wp2
  go_ret
  refine ⟨?_, HK.out⟩
  have h1 := HND.out
  have h2 := HIN.out
  rw [List.take_length] at h1 h2
  have : bf = true := by rw [<- HBF.out]; exact kidsFine_true h1 h2
  rw [this]; rfl
end
end Go.Proofs.YtbhohohgojcapaaGreat

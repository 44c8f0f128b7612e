import Derived.Test.YtbhohohgojcapaaGreatPkA6
import Derived.Test.YtbhohohgojcapaaGreatPkA8
set_option maxHeartbeats 64000000
namespace Go.Proofs.YtbhohohgojcapaaGreat
open Go.RowKit
section
variable {S : Nat -> Prop} {w : World} {c1 c3 c4 c5 : Value} {n : Nd} {NH NC : Nat}
def SpN (S : Nat -> Prop) (w : World) (c1 c3 c4 c5 : Value) (n : Nd) (NH NC : Nat) (wr : World) : Prop :=
 Spo S w c1 c3 c4 c5 n.high.length n.keys.length n.vals.length n.kids.length wr /\ Blk wr NH 29 #[.int .i64 n.lvl, c1, .int .i64 n.right] /\ Blk wr NC 33 #[c3, c4, c5]
variable {wr : World} {g i : Nat} {cs : Array Value}
theorem SpN.byte (h : SpN S w c1 c3 c4 c5 n NH NC wr) (hs : S g) (hb : Blk wr g 5 cs) (b : UInt8) : SpN S w c1 c3 c4 c5 n NH NC (wr.setCell ⟨g, i, none⟩ (bV b)) :=
 ⟨h.1.byte hs hb b, h.2.1.far (Blk.ne_ h.2.1 hb (by decide)) _, h.2.2.far (Blk.ne_ h.2.2 hb (by decide)) _⟩
theorem SpN.nil_ (h : SpN S w c1 c3 c4 c5 n NH NC wr) (hs : S g) (hb : Blk wr g 23 cs) : SpN S w c1 c3 c4 c5 n NH NC (wr.setCell ⟨g, i, none⟩ (.slice none 0 0)) :=
 ⟨h.1.nil_ hs hb, h.2.1.far (Blk.ne_ h.2.1 hb (by decide)) _, h.2.2.far (Blk.ne_ h.2.2 hb (by decide)) _⟩
theorem SpN.int (h : SpN S w c1 c3 c4 c5 n NH NC wr) (hs : S g) (hb : Blk wr g 3 cs) (b : Int) : SpN S w c1 c3 c4 c5 n NH NC (wr.setCell ⟨g, i, none⟩ (.int .i64 b)) :=
 ⟨h.1.int hs hb b, h.2.1.far (Blk.ne_ h.2.1 hb (by decide)) _, h.2.2.far (Blk.ne_ h.2.2 hb (by decide)) _⟩
end
theorem sameHd_self (n : Nd) : sameHd n n = true := by simp [sameHd]
theorem sameBd_self (n : Nd) : sameBd n n = true := by simp [sameBd]
section
variable {w : World} {G : Nat -> Prop} {b p q : Nat} {A B : Ar} {ix : Int}
set_option maxRecDepth 100000 in
theorem nodeJ (h : J w G b p q A A) : Calls Tryz.prog 62 #[pV b, iV ix] w λ e w' => e = .returned (.bool true) /\ J w' G b p q A A /\ Keeps Nob w w' := by
 have HJ := Hd h
 have H00 := Hd h
 have r0 := h.blk.cell 0
 have r1 := h.blk.cell 1
 have rl := h.blk.lt
 have HW1 := Hd (h.wordX (ix := ix))
 have HW2 := Hd (h.wordR (ix := ix))
 have F1 := λ wx (hj : J wx G b p q A A) => hj.headX (ix := ix)
 have F2 := λ wx (hj : J wx G b p q A A) => hj.headR (ix := ix)
 have F3 := λ wx (hj : J wx G b p q A A) => hj.bodyX (ix := ix)
 have F4 := λ wx (hj : J wx G b p q A A) => hj.bodyR (ix := ix)
 clear h
 generalize opWord A ix = wd at *
 generalize opErr A ix = er at *
 generalize opNd A ix = nd at *
 unfold pV iV at *
 go_enter Tryz.func62, Tryz.ntmps62
 go_wp2_with (first
  | (go_at_call 78; refine HW1.out.mono ?_; rintro e w' ⟨rfl, rfl⟩)
  | (go_at_call 79; refine HW2.out.mono ?_; rintro e w' ⟨rfl, rfl⟩))
 clear r0 r1 rl HW1 HW2
 refine (F1 _ HJ.out).mono ?_
 rintro e w1 ⟨d0, d1, d2, rfl, ho, hj, hk⟩
 have f0 := ho.lvl
 obtain ⟨A1, k1, f1⟩ := Own.form ho.high
 have f2 := ho.right
 unfold iV at f0 f2
 subst f0 f1 f2
 have HH := Hd ho
 have K := Hd hk
 replace HJ := Hd hj
 clear ho hj hk
 have r1 := HJ.out.blk.cell 1
 have rl := HJ.out.blk.lt
 unfold pV at r1
 go_wp2_with fail
 clear r1 rl
 refine calls_at (λ w2 hw => ?_)
 obtain ⟨NH, hN⟩ : ∃ N, w1.heap.size = N := ⟨_, rfl⟩
 have hk : Keeps Nob w1 w2 := by rw [hw]; exact Keeps.alloc _ _ _
 have BH : Hid (Blk w2 NH 29 #[.int .i64 nd.lvl, .slice A1 nd.high.length k1, .int .i64 nd.right]) := by rw [hw, <- hN]; exact Blk.new _ _ _
 rw [hN]
 replace HH := Hd (HH.out.keeps hk (λ _ _ _ => id))
 replace HJ := Hd (HJ.out.nob hk)
 replace K := tq_ K hk
 have s12 := hk.size
 clear hw hk hN
 refine (F2 _ HJ.out).mono ?_
 rintro e w3 ⟨d0, d1, d2, rfl, ho, hj, hk⟩
 have f0 := ho.lvl
 obtain ⟨B1, j1, f1⟩ := Own.form ho.high
 have f2 := ho.right
 unfold iV at f0 f2
 subst f0 f1 f2
 have HK := Hd ho
 replace HH := Hd (HH.out.keeps hk (λ _ _ _ => id))
 replace BH := Hd (BH.out.keeps hk id)
 replace K := tq_ K hk
 replace HJ := Hd hj
 have s23 := hk.size
 clear ho hj hk
 have r0 := HJ.out.blk.cell 0
 have rl := HJ.out.blk.lt
 unfold pV at r0
 go_wp2_with fail
 clear r0 rl
 refine calls_at (λ w4 hw => ?_)
 obtain ⟨NK, hN⟩ : ∃ N, w3.heap.size = N := ⟨_, rfl⟩
 have hk : Keeps Nob w3 w4 := by rw [hw]; exact Keeps.alloc _ _ _
 have BK : Hid (Blk w4 NK 29 #[.int .i64 nd.lvl, .slice B1 nd.high.length j1, .int .i64 nd.right]) := by rw [hw, <- hN]; exact Blk.new _ _ _
 rw [hN]
 replace HH := Hd (HH.out.keeps hk (λ _ _ _ => id))
 replace HK := Hd (HK.out.keeps hk (λ _ _ _ => id))
 replace BH := Hd (BH.out.keeps hk id)
 replace HJ := Hd (HJ.out.nob hk)
 replace K := tq_ K hk
 have s34 := hk.size
 clear hw hk hN
 refine (F3 _ HJ.out).mono ?_
 rintro e w5 ⟨d0, d1, d2, rfl, ho, hj, hk⟩
 obtain ⟨A3, k3, f0⟩ := OTx.form ho.keys
 obtain ⟨A4, k4, f1⟩ := OTx.form ho.vals
 obtain ⟨A5, k5, f2⟩ := Own.form ho.kids
 subst f0 f1 f2
 have HC := Hd ho
 have SW := Hd K.out.size
 replace HH := Hd (HH.out.keeps hk (λ _ _ _ => id))
 replace HK := Hd (HK.out.keeps hk (λ _ _ _ => id))
 replace BH := Hd (BH.out.keeps hk id)
 replace BK := Hd (BK.out.keeps hk id)
 replace K := tq_ K hk
 replace HJ := Hd hj
 have s45 := hk.size
 clear ho hj hk
 have r1 := HJ.out.blk.cell 1
 have rl := HJ.out.blk.lt
 unfold pV at r1
 go_wp2_with fail
 clear r1 rl
 refine calls_at (λ w6 hw => ?_)
 obtain ⟨NC, hN⟩ : ∃ N, w5.heap.size = N := ⟨_, rfl⟩
 have hk : Keeps Nob w5 w6 := by rw [hw]; exact Keeps.alloc _ _ _
 have BC : Hid (Blk w6 NC 33 #[.slice A3 nd.keys.length k3, .slice A4 nd.vals.length k4, .slice A5 nd.kids.length k5]) := by rw [hw, <- hN]; exact Blk.new _ _ _
 rw [hN]
 replace HH := Hd (HH.out.keeps hk (λ _ _ _ => id))
 replace HK := Hd (HK.out.keeps hk (λ _ _ _ => id))
 replace HC := Hd (HC.out.keeps hk (λ _ _ _ => id))
 replace BH := Hd (BH.out.keeps hk id)
 replace BK := Hd (BK.out.keeps hk id)
 replace HJ := Hd (HJ.out.nob hk)
 replace K := tq_ K hk
 have s56 := hk.size
 clear hw hk hN
 refine (F4 _ HJ.out).mono ?_
 rintro e w7 ⟨d0, d1, d2, rfl, ho, hj, hk⟩
 obtain ⟨B3, j3, f0⟩ := OTx.form ho.keys
 obtain ⟨B4, j4, f1⟩ := OTx.form ho.vals
 obtain ⟨B5, j5, f2⟩ := Own.form ho.kids
 subst f0 f1 f2
 have HD := Hd ho
 replace HH := Hd (HH.out.keeps hk (λ _ _ _ => id))
 replace HK := Hd (HK.out.keeps hk (λ _ _ _ => id))
 replace HC := Hd (HC.out.keeps hk (λ _ _ _ => id))
 replace BH := Hd (BH.out.keeps hk id)
 replace BK := Hd (BK.out.keeps hk id)
 replace BC := Hd (BC.out.keeps hk id)
 replace K := tq_ K hk
 have s67 := hk.size
 clear ho hj hk HJ
 have q0 := λ i => BH.out.cell i
 have q1 := λ i => BK.out.cell i
 have l0 := BH.out.lt
 have l1 := BK.out.lt
 go_wp2_with fail
 clear q0 q1 l0 l1
 refine calls_at (λ w8 hw => ?_)
 obtain ⟨ND, hN⟩ : ∃ N, w7.heap.size = N := ⟨_, rfl⟩
 have hk : Keeps Nob w7 w8 := by rw [hw]; exact Keeps.alloc _ _ _
 have BD : Hid (Blk w8 ND 33 #[.slice B3 nd.keys.length j3, .slice B4 nd.vals.length j4, .slice B5 nd.kids.length j5]) := by rw [hw, <- hN]; exact Blk.new _ _ _
 try rw [hN]
 replace HH := Hd (HH.out.keeps hk (λ _ _ _ => id))
 replace HK := Hd (HK.out.keeps hk (λ _ _ _ => id))
 replace HC := Hd (HC.out.keeps hk (λ _ _ _ => id))
 replace HD := Hd (HD.out.keeps hk (λ _ _ _ => id))
 replace BH := Hd (BH.out.keeps hk id)
 replace BC := Hd (BC.out.keeps hk id)
 replace K := tq_ K hk
 have s78 := hk.size
 clear hw hk hN BK
 have hsh := sameH HH.out.r HK.out.r
 rw [sameHd_self] at hsh
 refine hsh.mono ?_
 rintro e w9 ⟨rfl, hk⟩
 replace HH := Hd (HH.out.keeps hk (λ _ _ _ => id))
 replace HC := Hd (HC.out.keeps hk (λ _ _ _ => id))
 replace HD := Hd (HD.out.keeps hk (λ _ _ _ => id))
 replace BH := Hd (BH.out.keeps hk id)
 replace BC := Hd (BC.out.keeps hk id)
 replace BD := Hd (BD.out.keeps hk id)
 replace K := tq_ K hk
 have s89 := hk.size
 clear hk hsh HK
 have q0 := λ i => BC.out.cell i
 have q1 := λ i => BD.out.cell i
 go_wp2_with fail
 clear q0 q1 BD
 have hsb := sameB HC.out.r HD.out.r
 rw [sameBd_self] at hsb
 refine hsb.mono ?_
 rintro e wz ⟨rfl, hk⟩
 replace HH := Hd (HH.out.keeps hk (λ _ _ _ => id))
 replace HC := Hd (HC.out.keeps hk (λ _ _ _ => id))
 replace BH := Hd (BH.out.keeps hk id)
 replace BC := Hd (BC.out.keeps hk id)
 replace K := tq_ K hk
 have s9z := hk.size
 obtain ⟨S, hS⟩ : ∃ S, S = Fresh w wz := ⟨_, rfl⟩
 have HSE := Hd hS
 have hone : ONd wz S (.int .i64 nd.lvl) (.slice A1 nd.high.length k1) (.int .i64 nd.right) (.slice A3 nd.keys.length k3) (.slice A4 nd.vals.length k4) (.slice A5 nd.kids.length k5) nd := by
  rw [hS]
  exact ⟨HH.out.mono (λ x _ hx => ⟨hx.1, by have := hx.2; omega⟩), HC.out.mono (λ x _ hx => ⟨by have := hx.1; have := SW.out; omega, by have := hx.2; omega⟩)⟩
 have HP0 : Hid (SpN S wz (.slice A1 nd.high.length k1) (.slice A3 nd.keys.length k3) (.slice A4 nd.vals.length k4) (.slice A5 nd.kids.length k5) nd NH NC wz) := ⟨Spo.of hone, BH.out, BC.out⟩
 obtain ⟨_, _, e1, _, m1⟩ := hone.1.high.r.form
 obtain ⟨_, _, e3, _, m3⟩ := hone.2.keys.r.form
 obtain ⟨_, _, e5, _, m5⟩ := hone.2.kids.r.form
 injection e1 with e11 _ e13
 injection e3 with e31 _ e33
 injection e5 with e51 _ e53
 subst e11 e13 e31 e33 e51 e53
 have z1 : nd.high.length <= 9223372036854775807 := by have := m1; unfold maxLen at this; omega
 have z3 : nd.keys.length <= 9223372036854775807 := by have := m3; unfold maxLen at this; omega
 have z5 : nd.kids.length <= 9223372036854775807 := by have := m5; unfold maxLen at this; omega
 clear hone hS hk hsb m1 m3 m5 HH HC HD BH BC
 go_wp2
 go_loopw [19] (λ i wr => ∃ k : Nat, k <= nd.high.length /\ i = .int .i64 k /\ SpN S wz (.slice A1 nd.high.length k1) (.slice A3 nd.keys.length k3) (.slice A4 nd.vals.length k4) (.slice A5 nd.kids.length k5) nd NH NC wr) (λ i _ => nd.high.length - (intOf i).toNat)
 case atStart => exact ⟨0, Nat.zero_le _, rfl, HP0.out⟩
 obtain ⟨k, hk, rfl, hP⟩ := hrel
 have q := λ i => hP.2.1.cell i
 have q2 := λ i => hP.2.2.cell i
 rcases Nat.lt_or_ge k nd.high.length with hlt | hlt
 ·obtain ⟨g, o, cs, b, rfl, hs, hb, hc⟩ := hP.1.high.get hlt
  have hf := hb.frozen (o + k)
  unfold bV at hc
  have HP := Hd hP
  have HB := Hd hb
  have HSg : Hid (S g) := hs
  clear hP hb hs
  go_wp2
  go_roundw
  case rel => exact ⟨k + 1, by omega, by go_num, by rw [bV_inc]; exact HP.out.byte HSg.out HB.out _⟩
  case measure => simp [intOf]; omega
 obtain rfl : k = nd.high.length := by omega
 have HP1 := Hd hP
 clear hP
 go_wp2
 clear q q2
 go_loopw [20] (λ i wr => ∃ k : Nat, k <= nd.keys.length /\ i = .int .i64 k /\ SpN S wz (.slice A1 nd.high.length k1) (.slice A3 nd.keys.length k3) (.slice A4 nd.vals.length k4) (.slice A5 nd.kids.length k5) nd NH NC wr) (λ i _ => nd.keys.length - (intOf i).toNat)
 case atStart => exact ⟨0, Nat.zero_le _, rfl, HP1.out⟩
 obtain ⟨k, hk, rfl, hP⟩ := hrel
 have q := λ i => hP.2.1.cell i
 have q2 := λ i => hP.2.2.cell i
 rcases Nat.lt_or_ge k nd.keys.length with hlt | hlt
 ·obtain ⟨g, o, cs, A', m, c', rfl, hs, hb, hc, hsb, hm⟩ := hP.1.keys.get hlt
  have hm2 : m <= 9223372036854775807 := by unfold maxLen at hm; omega
  have HP := Hd hP
  have HB := Hd hb
  have HSg : Hid (S g) := hs
  have HSB := Hd hsb
  have CS : Hid (cs[o + k]? = some (.slice A' m c')) := by rw [<- hb.cell]; exact hc
  clear hP hb hs hsb hm
  go_wp2
  clear q q2 hc
  go_loopw [21] (λ i wy => ∃ j : Nat, j <= m /\ i = .int .i64 j /\ (SpN S wz (.slice A1 nd.high.length k1) (.slice (some ⟨g, o, none⟩) nd.keys.length k3) (.slice A4 nd.vals.length k4) (.slice A5 nd.kids.length k5) nd NH NC wy /\ Blk wy g 23 cs /\ ShB wy S (.slice A' m c') m)) (λ i _ => m - (intOf i).toNat)
  case atStart => exact ⟨0, Nat.zero_le _, rfl, HP.out, HB.out, HSB.out⟩
  obtain ⟨j, hj, rfl, hP2, hb2, hsb2⟩ := hrel
  have q := λ i => hP2.2.1.cell i
  have q2 := λ i => hP2.2.2.cell i
  have hc : cs[o + k]? = some (.slice A' m c') := CS.out
  have hcc : wr.cell? ⟨g, o + k, none⟩ = some (.slice A' m c') := by rw [hb2.cell]; exact hc
  clear hc
  rcases Nat.lt_or_ge j m with hjm | hjm
  ·obtain ⟨g2, o2, cs2, b, rfl, hs2, hb3, hc3⟩ := hsb2.get hjm
   have hf2 := hb3.frozen (o2 + j)
   unfold bV at hc3
   have HP2 := Hd hP2
   have HB2 := Hd hb2
   have HB3 := Hd hb3
   have HS2 : Hid (S g2) := hs2
   have HSB2 := Hd hsb2
   clear hP2 hb2 hb3 hs2 hsb2
   go_wp2
   go_roundw
   case rel => exact ⟨j + 1, by omega, by go_num, by rw [bV_inc]; exact ⟨HP2.out.byte HS2.out HB3.out _, HB2.out.far (Blk.ne_ HB2.out HB3.out (by decide)) _, HSB2.out.byte _⟩⟩
   case measure => simp [intOf]; omega
  ·obtain rfl : j = m := by omega
   have hf2 := hb2.frozen (o + k)
   have HP2 := Hd hP2
   have HB2 := Hd hb2
   clear hP2 hb2 hsb2
   go_wp2
   go_roundw
   case rel => exact ⟨k + 1, by omega, by go_num, HP2.out.nil_ HSg.out HB2.out⟩
   case measure => simp [intOf]; omega
 obtain rfl : k = nd.keys.length := by omega
 have HP2 := Hd hP
 clear hP
 go_wp2
 clear q q2
 go_loopw [22] (λ i wr => ∃ k : Nat, k <= nd.kids.length /\ i = .int .i64 k /\ SpN S wz (.slice A1 nd.high.length k1) (.slice A3 nd.keys.length k3) (.slice A4 nd.vals.length k4) (.slice A5 nd.kids.length k5) nd NH NC wr) (λ i _ => nd.kids.length - (intOf i).toNat)
 case atStart => exact ⟨0, Nat.zero_le _, rfl, HP2.out⟩
 obtain ⟨k, hk, rfl, hP⟩ := hrel
 have q := λ i => hP.2.1.cell i
 have q2 := λ i => hP.2.2.cell i
 rcases Nat.lt_or_ge k nd.kids.length with hlt | hlt
 ·obtain ⟨g, o, cs, b, rfl, hs, hb, hc⟩ := hP.1.kids.get hlt
  have hf := hb.frozen (o + k)
  unfold iV at hc
  have HP := Hd hP
  have HB := Hd hb
  have HSg : Hid (S g) := hs
  clear hP hb hs
  go_wp2
  go_roundw
  case rel => exact ⟨k + 1, by omega, by go_num, HP.out.int HSg.out HB.out _⟩
  case measure => simp [intOf]; omega
 obtain rfl : k = nd.kids.length := by omega
 have HP4 := Hd hP
 clear hP
 go_wp2
 go_ret
 have kf : Keeps Nob w wr := K.out.trans HP4.out.1.kept (λ x hx hs => by rw [HSE.out] at hs; have := hs.1; omega)
 exact ⟨rfl, H00.out.nob kf, kf⟩
end
end Go.Proofs.YtbhohohgojcapaaGreat

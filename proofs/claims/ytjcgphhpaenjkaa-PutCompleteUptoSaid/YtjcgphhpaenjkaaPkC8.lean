import Derived.Test.YtjcgphhpaenjkaaPkC7
set_option maxHeartbeats 64000000
set_option maxRecDepth 100000
set_option linter.unusedVariables false
namespace Go.Proofs.Ytjcgphhpaenjkaa
open Go.RowKit
section
variable {S T U:Nat->Prop} {w:World} {c0 c1 c2 c3 c4 c5 ck cv:Value} {n:Nd} {key val:List UInt8}
theorem with_new (h:IsNd w S c0 c1 c2 c3 c4 c5 n) (hk:Byts w T ck key) (hv:Byts w U cv val) (hs:NdSm 100000000000000 n) (hsk:Sm 0 1 key.length) (hsv:Sm 0 1 val.length) (hin:has n.keys key=false) :
    Calls Try.prog 42 #[.agg #[c0,c1,c2,c3,c4,c5],ck,cv] w λ e w'=>∃ d0 d1 d2 d3 d4 d5,e=.returned (.agg #[d0,d1,d2,d3,d4,d5])/\ONd w' (Fresh w w') d0 d1 d2 d3 d4 d5 {n with keys:=ins n.keys (below n.keys key) key,vals:=ins n.vals (min (below n.keys key) n.vals.length) val}/\Keeps Nob w w':=by
  obtain ⟨A1,k1,e1,_,_⟩:=h.1.high.form
  obtain ⟨A3,k3,e3,_,_⟩:=h.2.keys.form
  obtain ⟨A4,k4,e4,_,_⟩:=h.2.vals.form
  obtain ⟨A5,k5,e5,_,_⟩:=h.2.kids.form
  obtain ⟨Ak,kk,ek,_,_⟩:=hk.form
  obtain ⟨Av,kv,ev,_,_⟩:=hv.form
  have e0:=h.1.lvl
  have e2:=h.1.right
  subst e0 e1 e2 e3 e4 e5 ek ev
  have H:=Hd (h.mono (T:=λ b=>b < w.heap.size) (λ b hb _=>hb))
  have HK:=Hd (hk.mono (T:=λ b=>b < w.heap.size) (λ b hb _=>hb))
  have HV:=Hd (hv.mono (T:=λ b=>b < w.heap.size) (λ b hb _=>hb))
  have HS:Hid (NdSm 100000000000000 n):=hs
  have HSK:Hid (Sm 0 1 key.length):=hsk
  have HSV:Hid (Sm 0 1 val.length):=hsv
  have hsz1:n.keys.length<=200000000000000:=by have:=hs.2.1.1;unfold Sm at this;omega
  have hsz2:n.vals.length<=200000000000000:=by have:=hs.2.2.1.1;unfold Sm at this;omega
  have HBL:=Hd (below_le n.keys key)
  have hbl:=HBL.out
  have HIN:=Hd hin
  clear h hk hv hs hsk hsv
  generalize hbe:below n.keys key=i at *
  have HBE:=Hd hbe
  clear hbe hin
  unfold iV
  go_enter Try.func42,Try.ntmps42
  go_wp2_with (first
    | (go_at_call 34;refine calls_at (λ wa hwa=>?_);
       have BN:Hid (Blk wa w.heap.size 75 #[.int .i64 n.lvl,.slice A1 n.high.length k1,.int .i64 n.right,.slice A3 n.keys.length k3,.slice A4 n.vals.length k4,.slice A5 n.kids.length k5]):=(by rw [hwa];exact (Blk.new _ _ _).alloc _);
       have BR:Hid (Blk wa (w.heap.size+1) 75 #[.int .i64 0,.slice none 0 0,.int .i64 0,.slice none 0 0,.slice none 0 0,.slice none 0 0]):=(by rw [hwa];exact Blk.new' (by simp) _ _);
       have HKA:Hid (Keeps Nob w wa):=(by rw [hwa];exact (Keeps.alloc _ w _).alloc' _);
       clear hwa;
       refine (cloneP (H.out.keeps HKA.out (λ _ _ _=>id)) (HS.out.mono (by decide))).mono ?_;
       rintro e w1 ⟨d0,d1,d2,d3,d4,d5,rfl,hO,hK,hP⟩;
       obtain ⟨D1,j1,f1⟩:=Own.form hO.1.high;
       obtain ⟨D3,j3,f3⟩:=hO.2.keys.form;
       obtain ⟨D4,j4,f4⟩:=hO.2.vals.form;
       obtain ⟨D5,j5,f5⟩:=Own.form hO.2.kids;
       have f0:=hO.1.lvl;
       have f2:=hO.1.right;
       unfold iV at f0 f2;
       subst f0 f1 f2 f3 f4 f5;
       have HO:=Hd hO;
       have HK1:=Hd hK;
       have HP:=Hd hP;
       have BN1:=Hd (BN.out.keeps hK id);
       have BR1:=Hd (BR.out.keeps hK id);
       clear hO hK hP;
       have y0:=BN1.out.frozen 0;
       have y1:=BN1.out.frozen 1;
       have y2:=BN1.out.frozen 2;
       have y3:=BN1.out.frozen 3;
       have y4:=BN1.out.frozen 4;
       have y5:=BN1.out.frozen 5;
       have z0:=BN1.out.cell 0;
       have z1:=BN1.out.cell 1;
       have z2:=BN1.out.cell 2;
       have z3:=BN1.out.cell 3;
       have z4:=BN1.out.cell 4;
       have z5:=BN1.out.cell 5)
    | (go_at_call 41;refine calls_at (λ wb hwb=>?_);
       have BN2:Hid (Blk wb w.heap.size 75 #[.int .i64 n.lvl,.slice D1 n.high.length j1,.int .i64 n.right,.slice D3 n.keys.length j3,.slice D4 n.vals.length j4,.slice D5 n.kids.length j5]):=(by rw [hwb];exact (((((BN1.out.set_ 0 _).set_ 1 _).set_ 2 _).set_ 3 _).set_ 4 _).set_ 5 _);
       have HK2:Hid (Keeps (λ b=>b=w.heap.size) w1 wb):=(by rw [hwb];exact (((((Keeps.setCell w1 (M:=λ b=>b=w.heap.size) rfl _).setCell' (λ _=>rfl) _).setCell' (λ _=>rfl) _).setCell' (λ _=>rfl) _).setCell' (λ _=>rfl) _).setCell' (λ _=>rfl) _);
       clear hwb y0 y1 y2 y3 y4 y5 z0 z1 z2 z3 z4 z5;
       have HO2:=Hd (HO.out.keepsB BN1.out ⟨by decide,by decide,by decide⟩ HK2.out);
       have HKEY2:=Hd ((HK.out.keeps (HKA.out.trans HK1.out (λ _ _=>id)) (λ _ _ _=>id)).keeps HK2.out (λ b _ hb e=>absurd hb (by rw [e];exact Nat.lt_irrefl _)));
       refine (findP HO2.out.r.2.keys HKEY2.out).mono ?_;
       rintro e w3 ⟨rfl,hK3⟩;
       rw [HBE.out,HIN.out];
       have HK3:=Hd hK3;
       have BN3:=Hd (BN2.out.keeps hK3 id);
       have BR3:=Hd ((BR1.out.keeps HK2.out (by show ¬_=_;omega)).keeps hK3 id);
       have HO3:=Hd (HO2.out.keeps hK3 (λ _ _ _=>id));
       clear hK3;
       have z4:=BN3.out.cell 4))
  have HKW3:=Hd (((HKA.out.trans HK1.out (λ _ _=>id)).trans HK2.out (λ b hb e=>absurd hb (by rw [e];exact Nat.lt_irrefl _))).trans HK3.out (λ _ _=>(λ h=>h.elim)))
  have hsa:=HKA.out.size
  have hs1:=HK1.out.size
  have hs2:=HK2.out.size
  have hs3:=HK3.out.size
  have hltN:=BN.out.lt
  have hltR:=BR.out.lt
  have HOW3:=Hd (HO3.out.mono (T:=Fresh w w3) (λ b _ hb=>⟨by have:=hb.1;omega,by have:=hb.2;omega⟩))
  have HKEY3:=Hd (HK.out.keeps HKW3.out (λ _ _ _=>id))
  have HVAL3:=Hd (HV.out.keeps HKW3.out (λ _ _ _=>id))
  clear z4 HO HO2 HO3 HKEY2 HK2 HK3 HK1 HKA BN BR BN1 BR1 BN2 H HK
  refine rC_ [0,1,2,3,4,5,6,7,8,9,10] 10 (λ W=>W.cell? ⟨w.heap.size,3,none⟩=some (.slice D3 n.keys.length j3)) (BN3.out.cell 3) ?_
  iterate 5
    refine cR_ (v:=?_) rfl ?_ ?_
    rotate_left
    · intro W hW
      try (replace hW:World.cell? _ _=some _:=hW)
      go_simp
      try rfl
    simp only [Act.put,sa_,sb_,sc_]
  refine cA_ rfl ?_
  go_wp2_with (go_at_call 18;refine (cloneB (HKEY3.out.keeps (Keeps.drew Nob w3) (λ _ _ _=>id)) HSK.out).mono ?_;rintro e w4 ⟨u,rfl,hOu,hK4⟩;obtain ⟨Bu,ju,hf⟩:=Own.form hOu;subst hf;have HOU:=Hd hOu;have HK4:=Hd ((Keeps.drew Nob w3).trans hK4 (λ _ _ h=>h));have hs4:w3.heap.size<=w4.heap.size:=hK4.size;clear hOu hK4)
  have BN4:=Hd (BN3.out.keeps HK4.out id)
  have BR4:=Hd (BR3.out.keeps HK4.out id)
  have HO4:=Hd (HOW3.out.keeps HK4.out (λ _ _ _=>id))
  refine ⟨.inr (BN4.out.cell 3),?_⟩
  refine cA_ rfl ?_
  go_wp2
  refine ⟨.inr ((BN4.out.alloc _).cell 3),canon_at (λ w5 hw5=>?_)⟩
  have BN5:Hid (Blk w5 w.heap.size 75 #[.int .i64 n.lvl,.slice D1 n.high.length j1,.int .i64 n.right,.slice D3 n.keys.length j3,.slice D4 n.vals.length j4,.slice D5 n.kids.length j5]):=by rw [hw5];exact BN4.out.alloc _
  have BR5:Hid (Blk w5 (w.heap.size+1) 75 #[.int .i64 0,.slice none 0 0,.int .i64 0,.slice none 0 0,.slice none 0 0,.slice none 0 0]):=by rw [hw5];exact BR4.out.alloc _
  have BY5:Hid (Blk w5 w4.heap.size 34 #[.slice Bu key.length ju]):=by rw [hw5];exact Blk.new _ _ _
  have HK45:Hid (Keeps Nob w4 w5):=by rw [hw5];exact Keeps.alloc _ _ _
  have HO5:=Hd (HO4.out.keeps HK45.out (λ _ _ _=>id))
  have HOU5:=Hd ((HOU.out.keeps HK45.out (λ _ _ _=>id)).mono (T:=Fresh w w5) (λ b hb hb2=>⟨by have h5:w3.heap.size<=b:=hb2.1;omega,by have:=hb2.2;have:=HK45.out.size;omega⟩))
  have hs45:=HK45.out.size
  have HOW5:=Hd (HO5.out.2.keys.mono (T:=Fresh w w5) (λ b _ hb=>⟨hb.1,by have:=hb.2;omega⟩))
  have hown:(Value.slice D3 n.keys.length j3).ownBlock≠some w4.heap.size:=λ e=>by have:=(HO4.out.2.keys.blk e).2;omega
  clear hw5
  refine cA_ rfl ?_
  go_wp2_with (go_at_call 64;refine (insTx (i:=i) HOW5.out HOU5.out BY5.out hown (HS.out.2.1.1.mono (by decide)) hbl).mono ?_;rintro e w6 ⟨v6,rfl,hO6,hK6,hb6⟩;obtain ⟨B6,j6,hf⟩:=hO6.form;subst hf;have HO6:=Hd hO6;have HK6:=Hd hK6;have HB6:=Hd hb6;have hs6:=hK6.size;clear hO6 hK6 hb6)
  have BN6:=Hd (BN5.out.keepsR HOW5.out (by decide) HK6.out)
  have BR6:=Hd (BR5.out.keepsR HOW5.out (by decide) HK6.out)
  refine ⟨.inr (BN6.out.cell 3),?_⟩
  iterate 2
    refine cR_ (v:=?_) rfl ?_ ?_
    rotate_left
    · intro W hW
      try (replace hW:World.cell? _ _=some _:=hW)
      go_simp
      try rfl
    simp only [Act.put,sa_,sb_,sc_]
  have z3:=BN6.out.cell 3
  have y3:=BN6.out.frozen 3
  refine cA_ rfl ?_
  go_wp2
  refine ⟨.inl (by kernel_rfl),wpCanon_nil (then_at (λ w7 hw7=>?_))⟩
  have BN7:Hid (Blk w7 w.heap.size 75 #[.int .i64 n.lvl,.slice D1 n.high.length j1,.int .i64 n.right,.slice B6 (ins n.keys i key).length j6,.slice D4 n.vals.length j4,.slice D5 n.kids.length j5]):=by rw [hw7];exact BN6.out.set_ 3 _
  have HK67:Hid (Keeps (λ b=>b=w.heap.size) w6 w7):=by rw [hw7];exact Keeps.setCell w6 (M:=λ b=>b=w.heap.size) rfl _
  have hs67:w7.heap.size=w6.heap.size:=by rw [hw7];simp
  have BR7:=Hd (BR6.out.keeps HK67.out (by show ¬_=_;omega))
  have ha:Apart 75:=⟨by decide,by decide,by decide⟩
  have HHI7:=Hd (((HO5.out.1.high.keepsR HOW5.out HK6.out).keepsB BN6.out ha HK67.out).mono (T:=Fresh w w7) (λ b _ hb=>⟨hb.1,by have:=hb.2;omega⟩))
  have HKI7:=Hd (((HO5.out.2.kids.keepsR HOW5.out HK6.out).keepsB BN6.out ha HK67.out).mono (T:=Fresh w w7) (λ b _ hb=>⟨hb.1,by have:=hb.2;omega⟩))
  have HVS7:=Hd (((HO5.out.2.vals.keepsR HOW5.out (λ b h1 h2=>HP.out b h2 h1) HK6.out).keepsB BN6.out ha HK67.out).mono (T:=Fresh w w7) (λ b _ hb=>⟨hb.1,by have:=hb.2;omega⟩))
  have HKY7:=Hd ((HO6.out.keepsB BN6.out ha HK67.out).mono (T:=Fresh w w7) (λ b _ hb=>by rcases hb with hb|hb;exact ⟨hb.1,by have:=hb.2;omega⟩;exact ⟨by have:=hb.1;omega,by have:=hb.2;omega⟩))
  have HP7:Hid (Prt (.slice B6 (ins n.keys i key).length j6) (.slice D4 n.vals.length j4)):=λ b h1 h2=>by
    rcases HB6.out b h1 with h|h
    · exact HP.out b h h2
    · have:=(HO5.out.2.vals.blk h2).2;have:=h.1;omega
  have HKW7:=Hd ((((HKW3.out.trans HK4.out (λ _ _=>id)).trans HK45.out (λ _ _=>id)).trans HK6.out (λ b hb e=>absurd hb (by have:=(HOW5.out.blk e).1.1;omega))).trans HK67.out (λ b hb e=>absurd hb (by rw [e];exact Nat.lt_irrefl _)))
  have HVAL7:=Hd (HV.out.keeps HKW7.out (λ _ _ _=>id))
  clear z3 y3 hw7 HO4 HO5 HO6 HOW5 HOW3 HOU HOU5 BN3 BN4 BN5 BN6 BR3 BR4 BR5 BR6 HK4 HK45 HK6 HK67 BY5 hown HVAL3 HKEY3 HV
  have z4:=BN7.out.cell 4
  go_wp2
  have hmv:min (i:Int) (n.vals.length:Int)=((min i n.vals.length:Nat):Int):=by omega
  have hml:min i n.vals.length<=n.vals.length:=Nat.min_le_right _ _
  refine rC_ [0,1,2,3,4,5,6,7,8,9,10,11,12,13,14,15] 15 (λ W=>W.cell? ⟨w.heap.size,4,none⟩=some (.slice D4 n.vals.length j4)) (BN7.out.cell 4) ?_
  iterate 8
    refine cR_ (v:=?_) rfl ?_ ?_
    rotate_left
    · intro W hW
      try (replace hW:World.cell? _ _=some _:=hW)
      go_simp
      try rfl
    simp only [Act.put,sa_,sb_,sc_]
  refine wpCanon_read (v:=.int .i64 ((min i n.vals.length:Nat):Int)) rfl (by kernel_rfl) (by rfl) ?_ ?_
  · intro W hW
    go_simp
    split<;>omega
  simp only [Act.put,sa_,sb_,sc_]
  iterate 1
    refine cR_ (v:=?_) rfl ?_ ?_
    rotate_left
    · intro W hW
      try (replace hW:World.cell? _ _=some _:=hW)
      go_simp
      try rfl
    simp only [Act.put,sa_,sb_,sc_]
  refine cA_ rfl ?_
  go_wp2_with (go_at_call 18;refine (cloneB (HVAL7.out.keeps (Keeps.drew Nob w7) (λ _ _ _=>id)) HSV.out).mono ?_;rintro e w8 ⟨u,rfl,hOu,hK8⟩;obtain ⟨Cu,qu,hf⟩:=Own.form hOu;subst hf;have HOU:=Hd hOu;have HK8:=Hd ((Keeps.drew Nob w7).trans hK8 (λ _ _ h=>h));have hs8:w7.heap.size<=w8.heap.size:=hK8.size;clear hOu hK8)
  have BN8:=Hd (BN7.out.keeps HK8.out id)
  have BR8:=Hd (BR7.out.keeps HK8.out id)
  refine ⟨.inr (BN8.out.cell 4),?_⟩
  refine cA_ rfl ?_
  go_wp2
  refine ⟨.inr ((BN8.out.alloc _).cell 4),canon_at (λ w9 hw9=>?_)⟩
  have BN9:Hid (Blk w9 w.heap.size 75 #[.int .i64 n.lvl,.slice D1 n.high.length j1,.int .i64 n.right,.slice B6 (ins n.keys i key).length j6,.slice D4 n.vals.length j4,.slice D5 n.kids.length j5]):=by rw [hw9];exact BN8.out.alloc _
  have BR9:Hid (Blk w9 (w.heap.size+1) 75 #[.int .i64 0,.slice none 0 0,.int .i64 0,.slice none 0 0,.slice none 0 0,.slice none 0 0]):=by rw [hw9];exact BR8.out.alloc _
  have BY9:Hid (Blk w9 w8.heap.size 34 #[.slice Cu val.length qu]):=by rw [hw9];exact Blk.new _ _ _
  have HK89:Hid (Keeps Nob w8 w9):=by rw [hw9];exact Keeps.alloc _ _ _
  have HK79:=Hd (HK8.out.trans HK89.out (λ _ _=>id))
  have hs89:=HK89.out.size
  have HHI9:=Hd ((HHI7.out.keeps HK79.out (λ _ _ _=>id)).mono (T:=Fresh w w9) (λ b _ hb=>⟨hb.1,by have:=hb.2;omega⟩))
  have HKI9:=Hd ((HKI7.out.keeps HK79.out (λ _ _ _=>id)).mono (T:=Fresh w w9) (λ b _ hb=>⟨hb.1,by have:=hb.2;omega⟩))
  have HVS8:=Hd (HVS7.out.keeps HK8.out (λ _ _ _=>id))
  have HVS9:=Hd ((HVS7.out.keeps HK79.out (λ _ _ _=>id)).mono (T:=Fresh w w9) (λ b _ hb=>⟨hb.1,by have:=hb.2;omega⟩))
  have HKY9:=Hd ((HKY7.out.keeps HK79.out (λ _ _ _=>id)).mono (T:=Fresh w w9) (λ b _ hb=>⟨hb.1,by have:=hb.2;omega⟩))
  have HOU9:=Hd ((HOU.out.keeps HK89.out (λ _ _ _=>id)).mono (T:=Fresh w w9) (λ b hb hb2=>⟨by have h5:w7.heap.size<=b:=hb2.1;have:=HKW7.out.size;omega,by have:=hb2.2;omega⟩))
  have hown:(Value.slice D4 n.vals.length j4).ownBlock≠some w8.heap.size:=λ e=>by have:=(HVS8.out.blk e).2;omega
  clear hw9
  refine cA_ rfl ?_
  go_wp2_with (go_at_call 64;refine (insTx (i:=min i n.vals.length) HVS9.out HOU9.out BY9.out hown (HS.out.2.2.1.1.mono (by decide)) hml).mono ?_;rintro e w10 ⟨v6,rfl,hO6,hK6,hb6⟩;obtain ⟨C6,q6,hf⟩:=hO6.form;subst hf;have HO10:=Hd hO6;have HK10:=Hd hK6;have hs10:=hK6.size;clear hO6 hK6 hb6)
  have BN10:=Hd (BN9.out.keepsR HVS9.out (by decide) HK10.out)
  have BR10:=Hd (BR9.out.keepsR HVS9.out (by decide) HK10.out)
  refine ⟨.inr (BN10.out.cell 4),?_⟩
  iterate 2
    refine cR_ (v:=?_) rfl ?_ ?_
    rotate_left
    · intro W hW
      try (replace hW:World.cell? _ _=some _:=hW)
      go_simp
      try rfl
    simp only [Act.put,sa_,sb_,sc_]
  have z4:=BN10.out.cell 4
  have y4:=BN10.out.frozen 4
  refine cA_ rfl ?_
  go_wp2
  refine ⟨.inl (by kernel_rfl),wpCanon_nil (then_at (λ w11 hw11=>?_))⟩
  have BN11:Hid (Blk w11 w.heap.size 75 #[.int .i64 n.lvl,.slice D1 n.high.length j1,.int .i64 n.right,.slice B6 (ins n.keys i key).length j6,.slice C6 (ins n.vals (min i n.vals.length) val).length q6,.slice D5 n.kids.length j5]):=by rw [hw11];exact BN10.out.set_ 4 _
  have HK11:Hid (Keeps (λ b=>b=w.heap.size) w10 w11):=by rw [hw11];exact Keeps.setCell w10 (M:=λ b=>b=w.heap.size) rfl _
  have hs11:w11.heap.size=w10.heap.size:=by rw [hw11];simp
  have BR11:=Hd (BR10.out.keeps HK11.out (by show ¬_=_;omega))
  have HHI:=Hd (((HHI9.out.keepsR HVS9.out HK10.out).keepsB BN10.out ha HK11.out).mono (T:=Fresh w w11) (λ b _ hb=>⟨hb.1,by have:=hb.2;omega⟩))
  have HKI:=Hd (((HKI9.out.keepsR HVS9.out HK10.out).keepsB BN10.out ha HK11.out).mono (T:=Fresh w w11) (λ b _ hb=>⟨hb.1,by have:=hb.2;omega⟩))
  have HKY:=Hd (((HKY9.out.keepsR HVS9.out HP7.out HK10.out).keepsB BN10.out ha HK11.out).mono (T:=Fresh w w11) (λ b _ hb=>⟨hb.1,by have:=hb.2;omega⟩))
  have HVS:=Hd ((HO10.out.keepsB BN10.out ha HK11.out).mono (T:=Fresh w w11) (λ b _ hb=>by rcases hb with hb|hb;exact ⟨hb.1,by have:=hb.2;omega⟩;exact ⟨by have:=hb.1;have:=HKW7.out.size;omega,by have:=hb.2;omega⟩))
  have HKW:=Hd (((HKW7.out.trans HK79.out (λ _ _=>id)).trans HK10.out (λ b hb e=>absurd hb (by have:=(HVS9.out.blk e).1.1;omega))).trans HK11.out (λ b hb e=>absurd hb (by rw [e];exact Nat.lt_irrefl _)))
  clear z4 y4 hw11 HHI7 HHI9 HKI7 HKI9 HVS7 HVS8 HVS9 HKY7 HKY9 HOU HOU9 BN7 BN8 BN9 BN10 BR7 BR8 BR9 BR10 HK8 HK89 HK79 HK10 HK11 BY9 hown HVAL7 HKW7
  have z0:=BN11.out.cell 0
  have z1:=BN11.out.cell 1
  have z2:=BN11.out.cell 2
  have z3:=BN11.out.cell 3
  have z4:=BN11.out.cell 4
  have z5:=BN11.out.cell 5
  have r0:=BR11.out.cell 0
  have r1:=BR11.out.cell 1
  have r2:=BR11.out.cell 2
  have r3:=BR11.out.cell 3
  have r4:=BR11.out.cell 4
  have r5:=BR11.out.cell 5
  have g0:=BR11.out.frozen 0
  have g1:=BR11.out.frozen 1
  have g2:=BR11.out.frozen 2
  have g3:=BR11.out.frozen 3
  have g4:=BR11.out.frozen 4
  have g5:=BR11.out.frozen 5
  go_wp2
  refine post_at (λ w12 hw12=>?_)
  have BR12:Blk w12 (w.heap.size+1) 75 #[.int .i64 n.lvl,.slice D1 n.high.length j1,.int .i64 n.right,.slice B6 (ins n.keys i key).length j6,.slice C6 (ins n.vals (min i n.vals.length) val).length q6,.slice D5 n.kids.length j5]:=by
    rw [hw12];exact (((((BR11.out.set_ 0 _).set_ 1 _).set_ 2 _).set_ 3 _).set_ 4 _).set_ 5 _
  have hk12:Keeps (λ b=>b=w.heap.size+1) w11 w12:=by
    rw [hw12];exact (((((Keeps.setCell w11 (M:=λ b=>b=w.heap.size+1) rfl _).setCell' (λ _=>rfl) _).setCell' (λ _=>rfl) _).setCell' (λ _=>rfl) _).setCell' (λ _=>rfl) _).setCell' (λ _=>rfl) _
  have hs12:w12.heap.size=w11.heap.size:=by rw [hw12];simp
  clear z0 z1 z2 z3 z4 z5 r0 r1 r2 r3 r4 r5 g0 g1 g2 g3 g4 g5 hw12
  have r0:=BR12.cell 0
  have r1:=BR12.cell 1
  have r2:=BR12.cell 2
  have r3:=BR12.cell 3
  have r4:=BR12.cell 4
  have r5:=BR12.cell 5
  have hff:Fresh w w12=Fresh w w11:=by unfold Fresh;rw [hs12]
  refine bodyPost_ret (v:=.agg #[.int .i64 n.lvl,.slice D1 n.high.length j1,.int .i64 n.right,.slice B6 (ins n.keys i key).length j6,.slice C6 (ins n.vals (min i n.vals.length) val).length q6,.slice D5 n.kids.length j5]) (by simp [results,Try.results42,go_sem,r0,r1,r2,r3,r4,r5]) rfl ⟨_,_,_,_,_,_,rfl,?_,HKW.out.trans hk12 (λ b hb e=>by omega)⟩
  rw [hff]
  exact ⟨⟨rfl,HHI.out.keepsB BR11.out ha hk12,rfl⟩,HKY.out.keepsB BR11.out ha hk12,HVS.out.keepsB BR11.out ha hk12,HKI.out.keepsB BR11.out ha hk12⟩
theorem with_set (h:IsNd w S c0 c1 c2 c3 c4 c5 n) (hk:Byts w T ck key) (hv:Byts w U cv val) (hs:NdSm 100000000000000 n) (hsk:Sm 0 1 key.length) (hsv:Sm 0 1 val.length) (hin:has n.keys key=true) (hi:below n.keys key < n.vals.length) :
    Calls Try.prog 42 #[.agg #[c0,c1,c2,c3,c4,c5],ck,cv] w λ e w'=>∃ d0 d1 d2 d3 d4 d5,e=.returned (.agg #[d0,d1,d2,d3,d4,d5])/\ONd w' (Fresh w w') d0 d1 d2 d3 d4 d5 {n with vals:=n.vals.set (below n.keys key) val}/\Keeps Nob w w':=by
  obtain ⟨A1,k1,e1,_,_⟩:=h.1.high.form
  obtain ⟨A3,k3,e3,_,_⟩:=h.2.keys.form
  obtain ⟨A4,k4,e4,_,_⟩:=h.2.vals.form
  obtain ⟨A5,k5,e5,_,_⟩:=h.2.kids.form
  obtain ⟨Ak,kk,ek,_,_⟩:=hk.form
  obtain ⟨Av,kv,ev,_,_⟩:=hv.form
  have e0:=h.1.lvl
  have e2:=h.1.right
  subst e0 e1 e2 e3 e4 e5 ek ev
  have H:=Hd (h.mono (T:=λ b=>b < w.heap.size) (λ b hb _=>hb))
  have HK:=Hd (hk.mono (T:=λ b=>b < w.heap.size) (λ b hb _=>hb))
  have HV:=Hd (hv.mono (T:=λ b=>b < w.heap.size) (λ b hb _=>hb))
  have HS:Hid (NdSm 100000000000000 n):=hs
  have HSK:Hid (Sm 0 1 key.length):=hsk
  have HSV:Hid (Sm 0 1 val.length):=hsv
  have hsz1:n.keys.length<=200000000000000:=by have:=hs.2.1.1;unfold Sm at this;omega
  have hsz2:n.vals.length<=200000000000000:=by have:=hs.2.2.1.1;unfold Sm at this;omega
  have HBL:=Hd (below_le n.keys key)
  have hbl:=HBL.out
  have HIN:=Hd hin
  clear h hk hv hs hsk hsv
  generalize hbe:below n.keys key=i at *
  have HBE:=Hd hbe
  clear hbe hin
  unfold iV
  go_enter Try.func42,Try.ntmps42
  go_wp2_with (first
    | (go_at_call 34;refine calls_at (λ wa hwa=>?_);
       have BN:Hid (Blk wa w.heap.size 75 #[.int .i64 n.lvl,.slice A1 n.high.length k1,.int .i64 n.right,.slice A3 n.keys.length k3,.slice A4 n.vals.length k4,.slice A5 n.kids.length k5]):=(by rw [hwa];exact (Blk.new _ _ _).alloc _);
       have BR:Hid (Blk wa (w.heap.size+1) 75 #[.int .i64 0,.slice none 0 0,.int .i64 0,.slice none 0 0,.slice none 0 0,.slice none 0 0]):=(by rw [hwa];exact Blk.new' (by simp) _ _);
       have HKA:Hid (Keeps Nob w wa):=(by rw [hwa];exact (Keeps.alloc _ w _).alloc' _);
       clear hwa;
       refine (cloneP (H.out.keeps HKA.out (λ _ _ _=>id)) (HS.out.mono (by decide))).mono ?_;
       rintro e w1 ⟨d0,d1,d2,d3,d4,d5,rfl,hO,hK,hP⟩;
       obtain ⟨D1,j1,f1⟩:=Own.form hO.1.high;
       obtain ⟨D3,j3,f3⟩:=hO.2.keys.form;
       obtain ⟨D4,j4,f4⟩:=hO.2.vals.form;
       obtain ⟨D5,j5,f5⟩:=Own.form hO.2.kids;
       have f0:=hO.1.lvl;
       have f2:=hO.1.right;
       unfold iV at f0 f2;
       subst f0 f1 f2 f3 f4 f5;
       have HO:=Hd hO;
       have HK1:=Hd hK;
       have HP:=Hd hP;
       have BN1:=Hd (BN.out.keeps hK id);
       have BR1:=Hd (BR.out.keeps hK id);
       clear hO hK hP;
       have y0:=BN1.out.frozen 0;
       have y1:=BN1.out.frozen 1;
       have y2:=BN1.out.frozen 2;
       have y3:=BN1.out.frozen 3;
       have y4:=BN1.out.frozen 4;
       have y5:=BN1.out.frozen 5;
       have z0:=BN1.out.cell 0;
       have z1:=BN1.out.cell 1;
       have z2:=BN1.out.cell 2;
       have z3:=BN1.out.cell 3;
       have z4:=BN1.out.cell 4;
       have z5:=BN1.out.cell 5)
    | (go_at_call 41;refine calls_at (λ wb hwb=>?_);
       have BN2:Hid (Blk wb w.heap.size 75 #[.int .i64 n.lvl,.slice D1 n.high.length j1,.int .i64 n.right,.slice D3 n.keys.length j3,.slice D4 n.vals.length j4,.slice D5 n.kids.length j5]):=(by rw [hwb];exact (((((BN1.out.set_ 0 _).set_ 1 _).set_ 2 _).set_ 3 _).set_ 4 _).set_ 5 _);
       have HK2:Hid (Keeps (λ b=>b=w.heap.size) w1 wb):=(by rw [hwb];exact (((((Keeps.setCell w1 (M:=λ b=>b=w.heap.size) rfl _).setCell' (λ _=>rfl) _).setCell' (λ _=>rfl) _).setCell' (λ _=>rfl) _).setCell' (λ _=>rfl) _).setCell' (λ _=>rfl) _);
       clear hwb y0 y1 y2 y3 y4 y5 z0 z1 z2 z3 z4 z5;
       have HO2:=Hd (HO.out.keepsB BN1.out ⟨by decide,by decide,by decide⟩ HK2.out);
       have HKEY2:=Hd ((HK.out.keeps (HKA.out.trans HK1.out (λ _ _=>id)) (λ _ _ _=>id)).keeps HK2.out (λ b _ hb e=>absurd hb (by rw [e];exact Nat.lt_irrefl _)));
       refine (findP HO2.out.r.2.keys HKEY2.out).mono ?_;
       rintro e w3 ⟨rfl,hK3⟩;
       rw [HBE.out,HIN.out];
       have HK3:=Hd hK3;
       have BN3:=Hd (BN2.out.keeps hK3 id);
       have BR3:=Hd ((BR1.out.keeps HK2.out (by show ¬_=_;omega)).keeps hK3 id);
       have HO3:=Hd (HO2.out.keeps hK3 (λ _ _ _=>id));
       clear hK3;
       have z4:=BN3.out.cell 4))
  have HKW3:=Hd (((HKA.out.trans HK1.out (λ _ _=>id)).trans HK2.out (λ b hb e=>absurd hb (by rw [e];exact Nat.lt_irrefl _))).trans HK3.out (λ _ _=>(λ h=>h.elim)))
  have hsa:=HKA.out.size
  have hs1:=HK1.out.size
  have hs2:=HK2.out.size
  have hs3:=HK3.out.size
  have hltN:=BN.out.lt
  have hltR:=BR.out.lt
  have HOW3:=Hd (HO3.out.mono (T:=Fresh w w3) (λ b _ hb=>⟨by have:=hb.1;omega,by have:=hb.2;omega⟩))
  have HKEY3:=Hd (HK.out.keeps HKW3.out (λ _ _ _=>id))
  have HVAL3:=Hd (HV.out.keeps HKW3.out (λ _ _ _=>id))
  have HO3x:=Hd HO3.out.2.vals
  clear z4 HO HO2 HO3 HKEY2 HK2 HK3 HK1 HKA BN BR BN1 BR1 BN2 H HK
  obtain ⟨g,o,cs,hD,hg,_,_⟩:=HO3x.out.set_ hi (OBy.nil w3 _)
  subst hD
  have b1:(i:Int) < (n.vals.length:Int):=by omega
  refine rC_ [0,1,2,3,4,5,6,7] 7 (λ W=>W.cell? ⟨w.heap.size,4,none⟩=some (.slice (some ⟨g,o,none⟩) n.vals.length j4)) (BN3.out.cell 4) ?_
  iterate 5
    refine cR_ (v:=?_) rfl ?_ ?_
    rotate_left
    · intro W hW
      try (replace hW:World.cell? _ _=some _:=hW)
      go_simp
      try rfl
    simp only [Act.put,sa_,sb_,sc_]
  refine cA_ rfl ?_
  go_wp2_with (go_at_call 18;refine (cloneB (HVAL3.out.keeps (Keeps.drew Nob w3) (λ _ _ _=>id)) HSV.out).mono ?_;rintro e w4 ⟨u,rfl,hOu,hK4⟩;obtain ⟨Bu,ju,hf⟩:=Own.form hOu;subst hf;have HOU:=Hd hOu;have HK4:=Hd ((Keeps.drew Nob w3).trans hK4 (λ _ _ h=>h));have hs4:w3.heap.size<=w4.heap.size:=hK4.size;clear hOu hK4)
  have BN4:=Hd (BN3.out.keeps HK4.out id)
  have BR4:=Hd (BR3.out.keeps HK4.out id)
  have HO4:=Hd ((HOW3.out.keeps HK4.out (λ _ _ _=>id)).mono (T:=Fresh w w4) (λ b _ hb=>⟨hb.1,by have:=hb.2;omega⟩))
  have HU4:=Hd (HOU.out.mono (T:=Fresh w w4) (λ b hb hb2=>⟨by have h5:w3.heap.size<=b:=hb2.1;omega,by have:=hb2.2;omega⟩))
  refine ⟨.inr (BN4.out.cell 4),?_⟩
  refine wpCanon_read (v:=.pointer (some ⟨g,o+i,none⟩)) rfl (by kernel_rfl) (by rfl) ?_ ?_
  · intro W hW
    go_simp
  simp only [Act.put,sa_,sb_,sc_]
  obtain ⟨g',o',cs',hD,hg',⟨a,hca⟩,hOS⟩:=HO4.out.2.vals.set_ hi HU4.out
  obtain ⟨rfl,rfl⟩:g=g'/\o=o':=by injection hD with hD;injection hD with h1 h2 _;exact ⟨h1,h2⟩
  have hfz:=hg'.frozen (o+i)
  have BG:=Hd hg'
  have HOS:=Hd hOS
  clear hg hg' hOS hD
  refine cA_ rfl ?_
  go_wp2
  refine ⟨.inl (by kernel_rfl),wpCanon_nil (then_at (λ w11 hw11=>?_))⟩
  have HK11:Hid (Keeps (λ b=>b=g) w4 w11):=by rw [hw11];exact Keeps.setCell w4 (M:=λ b=>b=g) rfl _
  have hs11:w11.heap.size=w4.heap.size:=by rw [hw11];simp
  have HVS:Hid (OTx w11 (Fresh w w11) (.slice (some ⟨g,o,none⟩) n.vals.length j4) (n.vals.set i val)):=by rw [hw11];exact HOS.out.mono (λ b _ hb=>⟨hb.1,by have:=hb.2;simp;omega⟩)
  have hgn:w.heap.size≠g:=BN4.out.ne_ BG.out (by decide)
  have hgr:w.heap.size+1≠g:=BR4.out.ne_ BG.out (by decide)
  have BN11:=Hd (BN4.out.keeps HK11.out hgn)
  have BR11:=Hd (BR4.out.keeps HK11.out hgr)
  have ha:Apart 75:=⟨by decide,by decide,by decide⟩
  have hkr:Keeps (λ b=>(Value.slice (some ⟨g,o,none⟩) n.vals.length j4).ownBlock=some b) w4 w11:=HK11.out.mono (λ b _ e=>by subst e;rfl)
  have HHI:=Hd ((HO4.out.1.high.keepsR HO4.out.2.vals hkr).mono (T:=Fresh w w11) (λ b _ hb=>⟨hb.1,by have:=hb.2;omega⟩))
  have HKI:=Hd ((HO4.out.2.kids.keepsR HO4.out.2.vals hkr).mono (T:=Fresh w w11) (λ b _ hb=>⟨hb.1,by have:=hb.2;omega⟩))
  have HKY:=Hd ((HO4.out.2.keys.keepsR HO4.out.2.vals HP.out hkr).mono (T:=Fresh w w11) (λ b _ hb=>⟨hb.1,by have:=hb.2;omega⟩))
  have hgs:w.heap.size<=g:=(HO4.out.2.vals.blk (b:=g) rfl).1.1
  have HKW:=Hd ((HKW3.out.trans HK4.out (λ _ _=>id)).trans HK11.out (λ b hb e=>absurd hb (by rw [e];omega)))
  clear hfz hca hw11 HK11 HK4 HO4 HOU HU4 HOS BG hkr BN3 BN4 BR3 BR4 HOW3 HKW3
  have z0:=BN11.out.cell 0
  have z1:=BN11.out.cell 1
  have z2:=BN11.out.cell 2
  have z3:=BN11.out.cell 3
  have z4:=BN11.out.cell 4
  have z5:=BN11.out.cell 5
  have r0:=BR11.out.cell 0
  have r1:=BR11.out.cell 1
  have r2:=BR11.out.cell 2
  have r3:=BR11.out.cell 3
  have r4:=BR11.out.cell 4
  have r5:=BR11.out.cell 5
  have g0:=BR11.out.frozen 0
  have g1:=BR11.out.frozen 1
  have g2:=BR11.out.frozen 2
  have g3:=BR11.out.frozen 3
  have g4:=BR11.out.frozen 4
  have g5:=BR11.out.frozen 5
  go_wp2
  refine post_at (λ w12 hw12=>?_)
  have BR12:Blk w12 (w.heap.size+1) 75 #[.int .i64 n.lvl,.slice D1 n.high.length j1,.int .i64 n.right,.slice D3 n.keys.length j3,.slice (some ⟨g,o,none⟩) n.vals.length j4,.slice D5 n.kids.length j5]:=by
    rw [hw12];exact (((((BR11.out.set_ 0 _).set_ 1 _).set_ 2 _).set_ 3 _).set_ 4 _).set_ 5 _
  have hk12:Keeps (λ b=>b=w.heap.size+1) w11 w12:=by
    rw [hw12];exact (((((Keeps.setCell w11 (M:=λ b=>b=w.heap.size+1) rfl _).setCell' (λ _=>rfl) _).setCell' (λ _=>rfl) _).setCell' (λ _=>rfl) _).setCell' (λ _=>rfl) _).setCell' (λ _=>rfl) _
  have hs12:w12.heap.size=w11.heap.size:=by rw [hw12];simp
  clear z0 z1 z2 z3 z4 z5 r0 r1 r2 r3 r4 r5 g0 g1 g2 g3 g4 g5 hw12
  have r0:=BR12.cell 0
  have r1:=BR12.cell 1
  have r2:=BR12.cell 2
  have r3:=BR12.cell 3
  have r4:=BR12.cell 4
  have r5:=BR12.cell 5
  have hff:Fresh w w12=Fresh w w11:=by unfold Fresh;rw [hs12]
  refine bodyPost_ret (v:=.agg #[.int .i64 n.lvl,.slice D1 n.high.length j1,.int .i64 n.right,.slice D3 n.keys.length j3,.slice (some ⟨g,o,none⟩) n.vals.length j4,.slice D5 n.kids.length j5]) (by simp [results,Try.results42,go_sem,r0,r1,r2,r3,r4,r5]) rfl ⟨_,_,_,_,_,_,rfl,?_,HKW.out.trans hk12 (λ b hb e=>by omega)⟩
  rw [hff]
  exact ⟨⟨rfl,HHI.out.keepsB BR11.out ha hk12,rfl⟩,HKY.out.keepsB BR11.out ha hk12,HVS.out.keepsB BR11.out ha hk12,HKI.out.keepsB BR11.out ha hk12⟩
theorem with_keep (h:IsNd w S c0 c1 c2 c3 c4 c5 n) (hk:Byts w T ck key) (hv:Byts w U cv val) (hs:NdSm 100000000000000 n) (hsk:Sm 0 1 key.length) (hsv:Sm 0 1 val.length) (hin:has n.keys key=true) (hi:¬below n.keys key < n.vals.length) :
    Calls Try.prog 42 #[.agg #[c0,c1,c2,c3,c4,c5],ck,cv] w λ e w'=>∃ d0 d1 d2 d3 d4 d5,e=.returned (.agg #[d0,d1,d2,d3,d4,d5])/\ONd w' (Fresh w w') d0 d1 d2 d3 d4 d5 n/\Keeps Nob w w':=by
  obtain ⟨A1,k1,e1,_,_⟩:=h.1.high.form
  obtain ⟨A3,k3,e3,_,_⟩:=h.2.keys.form
  obtain ⟨A4,k4,e4,_,_⟩:=h.2.vals.form
  obtain ⟨A5,k5,e5,_,_⟩:=h.2.kids.form
  obtain ⟨Ak,kk,ek,_,_⟩:=hk.form
  obtain ⟨Av,kv,ev,_,_⟩:=hv.form
  have e0:=h.1.lvl
  have e2:=h.1.right
  subst e0 e1 e2 e3 e4 e5 ek ev
  have H:=Hd (h.mono (T:=λ b=>b < w.heap.size) (λ b hb _=>hb))
  have HK:=Hd (hk.mono (T:=λ b=>b < w.heap.size) (λ b hb _=>hb))
  have HV:=Hd (hv.mono (T:=λ b=>b < w.heap.size) (λ b hb _=>hb))
  have HS:Hid (NdSm 100000000000000 n):=hs
  have HSK:Hid (Sm 0 1 key.length):=hsk
  have HSV:Hid (Sm 0 1 val.length):=hsv
  have hsz1:n.keys.length<=200000000000000:=by have:=hs.2.1.1;unfold Sm at this;omega
  have hsz2:n.vals.length<=200000000000000:=by have:=hs.2.2.1.1;unfold Sm at this;omega
  have HBL:=Hd (below_le n.keys key)
  have hbl:=HBL.out
  have HIN:=Hd hin
  clear h hk hv hs hsk hsv
  generalize hbe:below n.keys key=i at *
  have HBE:=Hd hbe
  clear hbe hin
  unfold iV
  go_enter Try.func42,Try.ntmps42
  go_wp2_with (first
    | (go_at_call 34;refine calls_at (λ wa hwa=>?_);
       have BN:Hid (Blk wa w.heap.size 75 #[.int .i64 n.lvl,.slice A1 n.high.length k1,.int .i64 n.right,.slice A3 n.keys.length k3,.slice A4 n.vals.length k4,.slice A5 n.kids.length k5]):=(by rw [hwa];exact (Blk.new _ _ _).alloc _);
       have BR:Hid (Blk wa (w.heap.size+1) 75 #[.int .i64 0,.slice none 0 0,.int .i64 0,.slice none 0 0,.slice none 0 0,.slice none 0 0]):=(by rw [hwa];exact Blk.new' (by simp) _ _);
       have HKA:Hid (Keeps Nob w wa):=(by rw [hwa];exact (Keeps.alloc _ w _).alloc' _);
       clear hwa;
       refine (cloneP (H.out.keeps HKA.out (λ _ _ _=>id)) (HS.out.mono (by decide))).mono ?_;
       rintro e w1 ⟨d0,d1,d2,d3,d4,d5,rfl,hO,hK,hP⟩;
       obtain ⟨D1,j1,f1⟩:=Own.form hO.1.high;
       obtain ⟨D3,j3,f3⟩:=hO.2.keys.form;
       obtain ⟨D4,j4,f4⟩:=hO.2.vals.form;
       obtain ⟨D5,j5,f5⟩:=Own.form hO.2.kids;
       have f0:=hO.1.lvl;
       have f2:=hO.1.right;
       unfold iV at f0 f2;
       subst f0 f1 f2 f3 f4 f5;
       have HO:=Hd hO;
       have HK1:=Hd hK;
       have HP:=Hd hP;
       have BN1:=Hd (BN.out.keeps hK id);
       have BR1:=Hd (BR.out.keeps hK id);
       clear hO hK hP;
       have y0:=BN1.out.frozen 0;
       have y1:=BN1.out.frozen 1;
       have y2:=BN1.out.frozen 2;
       have y3:=BN1.out.frozen 3;
       have y4:=BN1.out.frozen 4;
       have y5:=BN1.out.frozen 5;
       have z0:=BN1.out.cell 0;
       have z1:=BN1.out.cell 1;
       have z2:=BN1.out.cell 2;
       have z3:=BN1.out.cell 3;
       have z4:=BN1.out.cell 4;
       have z5:=BN1.out.cell 5)
    | (go_at_call 41;refine calls_at (λ wb hwb=>?_);
       have BN2:Hid (Blk wb w.heap.size 75 #[.int .i64 n.lvl,.slice D1 n.high.length j1,.int .i64 n.right,.slice D3 n.keys.length j3,.slice D4 n.vals.length j4,.slice D5 n.kids.length j5]):=(by rw [hwb];exact (((((BN1.out.set_ 0 _).set_ 1 _).set_ 2 _).set_ 3 _).set_ 4 _).set_ 5 _);
       have HK2:Hid (Keeps (λ b=>b=w.heap.size) w1 wb):=(by rw [hwb];exact (((((Keeps.setCell w1 (M:=λ b=>b=w.heap.size) rfl _).setCell' (λ _=>rfl) _).setCell' (λ _=>rfl) _).setCell' (λ _=>rfl) _).setCell' (λ _=>rfl) _).setCell' (λ _=>rfl) _);
       clear hwb y0 y1 y2 y3 y4 y5 z0 z1 z2 z3 z4 z5;
       have HO2:=Hd (HO.out.keepsB BN1.out ⟨by decide,by decide,by decide⟩ HK2.out);
       have HKEY2:=Hd ((HK.out.keeps (HKA.out.trans HK1.out (λ _ _=>id)) (λ _ _ _=>id)).keeps HK2.out (λ b _ hb e=>absurd hb (by rw [e];exact Nat.lt_irrefl _)));
       refine (findP HO2.out.r.2.keys HKEY2.out).mono ?_;
       rintro e w3 ⟨rfl,hK3⟩;
       rw [HBE.out,HIN.out];
       have HK3:=Hd hK3;
       have BN3:=Hd (BN2.out.keeps hK3 id);
       have BR3:=Hd ((BR1.out.keeps HK2.out (by show ¬_=_;omega)).keeps hK3 id);
       have HO3:=Hd (HO2.out.keeps hK3 (λ _ _ _=>id));
       clear hK3;
       have z0:=BN3.out.cell 0;
       have z1:=BN3.out.cell 1;
       have z2:=BN3.out.cell 2;
       have z3:=BN3.out.cell 3;
       have z4:=BN3.out.cell 4;
       have z5:=BN3.out.cell 5;
       have r0:=BR3.out.cell 0;
       have r1:=BR3.out.cell 1;
       have r2:=BR3.out.cell 2;
       have r3:=BR3.out.cell 3;
       have r4:=BR3.out.cell 4;
       have r5:=BR3.out.cell 5;
       have g0:=BR3.out.frozen 0;
       have g1:=BR3.out.frozen 1;
       have g2:=BR3.out.frozen 2;
       have g3:=BR3.out.frozen 3;
       have g4:=BR3.out.frozen 4;
       have g5:=BR3.out.frozen 5))
  have HKW3:=Hd (((HKA.out.trans HK1.out (λ _ _=>id)).trans HK2.out (λ b hb e=>absurd hb (by rw [e];exact Nat.lt_irrefl _))).trans HK3.out (λ _ _=>(λ h=>h.elim)))
  have hsa:=HKA.out.size
  have hs1:=HK1.out.size
  have hs2:=HK2.out.size
  have hs3:=HK3.out.size
  have hltN:=BN.out.lt
  have hltR:=BR.out.lt
  have HOW3:=Hd (HO3.out.mono (T:=Fresh w w3) (λ b _ hb=>⟨by have:=hb.1;omega,by have:=hb.2;omega⟩))
  have HKEY3:=Hd (HK.out.keeps HKW3.out (λ _ _ _=>id))
  have HVAL3:=Hd (HV.out.keeps HKW3.out (λ _ _ _=>id))
  clear HO HO2 HO3 HKEY2 HK2 HK3 HK1 HKA BN BR BN1 BR1 BN2 H HK
  have ha:Apart 75:=⟨by decide,by decide,by decide⟩
  have HHI:=Hd HOW3.out.1.high
  have HKI:=Hd HOW3.out.2.kids
  have HKY:=Hd HOW3.out.2.keys
  have HVS:=Hd HOW3.out.2.vals
  refine post_at (λ w12 hw12=>?_)
  have BR12:Blk w12 (w.heap.size+1) 75 #[.int .i64 n.lvl,.slice D1 n.high.length j1,.int .i64 n.right,.slice D3 n.keys.length j3,.slice D4 n.vals.length j4,.slice D5 n.kids.length j5]:=by
    rw [hw12];exact (((((BR3.out.set_ 0 _).set_ 1 _).set_ 2 _).set_ 3 _).set_ 4 _).set_ 5 _
  have hk12:Keeps (λ b=>b=w.heap.size+1) w3 w12:=by
    rw [hw12];exact (((((Keeps.setCell w3 (M:=λ b=>b=w.heap.size+1) rfl _).setCell' (λ _=>rfl) _).setCell' (λ _=>rfl) _).setCell' (λ _=>rfl) _).setCell' (λ _=>rfl) _).setCell' (λ _=>rfl) _
  have hs12:w12.heap.size=w3.heap.size:=by rw [hw12];simp
  clear z0 z1 z2 z3 z4 z5 r0 r1 r2 r3 r4 r5 g0 g1 g2 g3 g4 g5 hw12
  have r0:=BR12.cell 0
  have r1:=BR12.cell 1
  have r2:=BR12.cell 2
  have r3:=BR12.cell 3
  have r4:=BR12.cell 4
  have r5:=BR12.cell 5
  have hff:Fresh w w12=Fresh w w3:=by unfold Fresh;rw [hs12]
  refine bodyPost_ret (v:=.agg #[.int .i64 n.lvl,.slice D1 n.high.length j1,.int .i64 n.right,.slice D3 n.keys.length j3,.slice D4 n.vals.length j4,.slice D5 n.kids.length j5]) (by simp [results,Try.results42,go_sem,r0,r1,r2,r3,r4,r5]) rfl ⟨_,_,_,_,_,_,rfl,?_,HKW3.out.trans hk12 (λ b hb e=>by omega)⟩
  rw [hff]
  exact ⟨⟨rfl,HHI.out.keepsB BR3.out ha hk12,rfl⟩,HKY.out.keepsB BR3.out ha hk12,HVS.out.keepsB BR3.out ha hk12,HKI.out.keepsB BR3.out ha hk12⟩
theorem withP (h:IsNd w S c0 c1 c2 c3 c4 c5 n) (hk:Byts w T ck key) (hv:Byts w U cv val) (hs:NdSm 100000000000000 n) (hsk:Sm 0 1 key.length) (hsv:Sm 0 1 val.length) :
    Calls Try.prog 42 #[.agg #[c0,c1,c2,c3,c4,c5],ck,cv] w λ e w'=>∃ d0 d1 d2 d3 d4 d5,e=.returned (.agg #[d0,d1,d2,d3,d4,d5])/\ONd w' (Fresh w w') d0 d1 d2 d3 d4 d5 (wth n key val)/\Keeps Nob w w':=by
  unfold wth
  cases hin:has n.keys key with
  | false=>exact with_new h hk hv hs hsk hsv hin
  | true=>
    rw [if_pos rfl]
    by_cases hi:below n.keys key < n.vals.length
    · exact with_set h hk hv hs hsk hsv hin hi
    · rw [List.set_eq_of_length_le (by omega)]
      exact with_keep h hk hv hs hsk hsv hin hi
end
end Go.Proofs.Ytjcgphhpaenjkaa

import Derived.Test.YtjcgphhpaenjkaaPkB3
set_option maxHeartbeats 64000000
set_option maxRecDepth 100000
set_option linter.unusedVariables false
namespace Go.Proofs.Ytjcgphhpaenjkaa
open Go.RowKit
section
variable {S:Nat->Prop} {w:World} {c0 c1 c2 c3 c4 c5:Value} {n:Nd} {right:Int}
theorem splitP (h:IsNd w S c0 c1 c2 c3 c4 c5 n) (hs:NdSm 64 n) :
  Calls Try.prog 48 #[.agg #[c0,c1,c2,c3,c4,c5],.int .i64 right] w λ e w'=>∃ d0 d1 d2 d3 d4 d5 e0 e1 e2 e3 e4 e5 kv,e=.returned (.tuple #[.agg #[d0,d1,d2,d3,d4,d5],.agg #[e0,e1,e2,e3,e4,e5],kv])/\∃ p,w.heap.size<=p/\∃ q,p<=q/\∃ s,q<=s/\s<=w'.heap.size/\ONd w' (λ b=>w.heap.size<=b/\(b < p\/(q<=b/\b < s))) d0 d1 d2 d3 d4 d5 (spL n right)/\ONd w' (λ b=>p<=b/\b < q) e0 e1 e2 e3 e4 e5 (spR n)/\OBy w' (λ b=>s<=b/\b < w'.heap.size) kv (spK n)/\Keeps Nob w w':=by
 obtain ⟨A1,k1,e1,_,_⟩:=h.1.high.form
 obtain ⟨A3,k3,e3,_,_⟩:=h.2.keys.form
 obtain ⟨A4,k4,e4,_,_⟩:=h.2.vals.form
 obtain ⟨A5,k5,e5,_,_⟩:=h.2.kids.form
 have e0:=h.1.lvl
 have e2:=h.1.right
 subst e0 e1 e2 e3 e4 e5
 have H:=Hd (h.mono (T:=λ b=>b < w.heap.size) (λ b hb _=>hb))
 have HS:Hid (NdSm 64 n):=hs
 have hsz1:n.keys.length<=200000000000000:=by have:=hs.2.1.1;unfold Sm at this;omega
 have hsz2:n.vals.length<=200000000000000:=by have:=hs.2.2.1.1;unfold Sm at this;omega
 have hsz3:n.kids.length<=200000000000000:=by have:=hs.2.2.2;unfold Sm at this;omega
 have ha:Apart 75:=⟨by decide,by decide,by decide⟩
 clear h hs
 unfold iV
 go_enter Try.func48,Try.ntmps48
 go_wp2
 refine code_at (λ w1 hw=>?_)
 have hk:Keeps Nob w w1:=by rw [hw];exact ((Keeps.alloc _ w _).alloc' _).alloc' _
 have BN:Hid (Blk w1 (w.heap.size) 75 #[.int .i64 n.lvl,.slice A1 n.high.length k1,.int .i64 n.right,.slice A3 n.keys.length k3,.slice A4 n.vals.length k4,.slice A5 n.kids.length k5]):=by rw [hw];exact ((Blk.new _ _ _).alloc _).alloc _
 have B1:Hid (Blk w1 (w.heap.size+1) 75 #[.int .i64 0,.slice none 0 0,.int .i64 0,.slice none 0 0,.slice none 0 0,.slice none 0 0]):=by rw [hw];exact (Blk.new' (by simp) _ _).alloc _
 have B2:Hid (Blk w1 (w.heap.size+1+1) 75 #[.int .i64 0,.slice none 0 0,.int .i64 0,.slice none 0 0,.slice none 0 0,.slice none 0 0]):=by rw [hw];exact Blk.new' (by simp) _ _
 replace H:=Hd (H.out.keeps hk (λ _ _ _=>id))
 have szw1:=hk.size
 have lt2:=B2.out.lt
 have K:=Hd hk
 clear hw hk
 refine wp_region_inv (J:=λ a0 L a w=>SpI w1 n (.agg #[.int .i64 n.lvl,.slice A1 n.high.length k1,.int .i64 n.right,.slice A3 n.keys.length k3,.slice A4 n.vals.length k4,.slice A5 n.kids.length k5]) a0 L a w) (by kernel_rfl) (by kernel_rfl) ?_ ?_ ?_
 ·exact ⟨undef,undef,undef,undef,undef,undef,rfl,SpR.start _ _ _ _ _ _ _ _ _⟩
 ·intro L a wi i o ho hdep hun hI
  obtain ⟨x12,x13,x14,x15,x7,x8,rfl,hR⟩:=hI
  rcases i with _|_|_|_|_|_|_|_|i
  ·obtain rfl:=Option.some.inj ho
   have HR:=Hd hR
   have q:=λ i=>(BN.out.keeps hR.kept id).cell i
   have HI:=Hd (H.out.keeps hR.kept (λ _ _ _=>id))
   clear hR
   refine wpOp_list rfl ?_
   unfold spA
   simp only [Act.put,sa_,sb_,sc_]
   go_wp2
   exact ⟨_,_,_,_,_,_,rfl,HR.out.ld12⟩
  ·obtain rfl:=Option.some.inj ho
   have e12:=hR.v12 (hdep {on:=0,ground:=.data} (by simp) rfl)
   subst e12
   have HR:=Hd hR
   have q:=λ i=>(BN.out.keeps hR.kept id).cell i
   have HI:=Hd (H.out.keeps hR.kept (λ _ _ _=>id))
   clear hR
   refine wpOp_list rfl ?_
   unfold spA
   simp only [Act.put,sa_,sb_,sc_]
   go_wp2_with (go_at_call 34;refine (cloneP HI.out (HS.out.mono (by decide))).mono ?_;rintro e wj ⟨d0,d1,d2,d3,d4,d5,rfl,hO,hk,_⟩)
   exact ⟨_,_,_,_,_,_,rfl,HR.out.call1 hun hk hO⟩
  ·obtain rfl:=Option.some.inj ho
   have HR:=Hd hR
   have q:=λ i=>(BN.out.keeps hR.kept id).cell i
   have HI:=Hd (H.out.keeps hR.kept (λ _ _ _=>id))
   clear hR
   refine wpOp_list rfl ?_
   unfold spA
   simp only [Act.put,sa_,sb_,sc_]
   go_wp2
   exact ⟨_,_,_,_,_,_,rfl,HR.out.ld14⟩
  ·obtain rfl:=Option.some.inj ho
   have e14:=hR.v14 (hdep {on:=2,ground:=.data} (by simp) rfl)
   subst e14
   have hl1:L 1:=hdep {on:=1,ground:=.chain} (by simp) rfl
   have HR:=Hd hR
   have q:=λ i=>(BN.out.keeps hR.kept id).cell i
   have HI:=Hd (H.out.keeps hR.kept (λ _ _ _=>id))
   clear hR
   refine wpOp_list rfl ?_
   unfold spA
   simp only [Act.put,sa_,sb_,sc_]
   go_wp2_with (go_at_call 34;refine (cloneP HI.out (HS.out.mono (by decide))).mono ?_;rintro e wj ⟨d0,d1,d2,d3,d4,d5,rfl,hO,hk,_⟩)
   exact ⟨_,_,_,_,_,_,rfl,HR.out.call3 hun hl1 hk hO⟩
  ·obtain rfl:=Option.some.inj ho
   have HR:=Hd hR
   have q:=λ i=>(BN.out.keeps hR.kept id).cell i
   have HI:=Hd (H.out.keeps hR.kept (λ _ _ _=>id))
   clear hR
   refine wpOp_list rfl ?_
   unfold spA
   simp only [Act.put,sa_,sb_,sc_]
   go_wp2
   exact ⟨_,_,_,_,_,_,rfl,HR.out.al4 hun rfl⟩
  ·obtain rfl:=Option.some.inj ho
   have HR:=Hd hR
   have q:=λ i=>(BN.out.keeps hR.kept id).cell i
   have HI:=Hd (H.out.keeps hR.kept (λ _ _ _=>id))
   clear hR
   refine wpOp_list rfl ?_
   unfold spA
   simp only [Act.put,sa_,sb_,sc_]
   go_wp2
   exact ⟨_,_,_,_,_,_,rfl,HR.out.al5 hun rfl⟩
  ·obtain rfl:=Option.some.inj ho
   have hl4:L 4:=hdep {on:=4,ground:=.data} (by simp) rfl
   have hl1:L 1:=hdep {on:=1,ground:=.data} (by simp) rfl
   obtain ⟨X,cs,e7,hX,hbX,hz,_⟩:=hR.bx hl4
   subst e7
   obtain ⟨v0,v1,v2,v3,v4,v5,ec⟩:=size6 hz
   subst ec
   obtain ⟨p,d0,d1,d2,d3,d4,d5,e13,_,_,hO,_⟩:=hR.cl hl1
   subst e13
   obtain ⟨D1,dj1,f1⟩:=Own.form hO.1.high
   obtain ⟨D3,dj3,f3⟩:=OTx.form hO.2.keys
   obtain ⟨D4,dj4,f4⟩:=OTx.form hO.2.vals
   obtain ⟨D5,dj5,f5⟩:=Own.form hO.2.kids
   have f0:=hO.1.lvl
   have f2:=hO.1.right
   unfold iV at f0 f2
   subst f0 f1 f2 f3 f4 f5
   have HR:=Hd hR
   have HB:=Hd hbX
   have q:=λ i=>hbX.cell i
   have g:=λ i=>hbX.frozen i
   clear hR hbX hO
   refine wpOp_list rfl ?_
   unfold spA
   simp only [Act.put,sa_,sb_,sc_]
   go_wp2
   exact ⟨_,_,_,_,_,_,rfl,HR.out.st6 hl1 hl4 HB.out hX (cs':=#[.int .i64 n.lvl,.slice D1 n.high.length dj1,.int .i64 n.right,.slice D3 n.keys.length dj3,.slice D4 n.vals.length dj4,.slice D5 n.kids.length dj5]) ((((((Keeps.setCell _ (M:=λ b=>b=X) rfl _).setCell' (λ _=>rfl) _).setCell' (λ _=>rfl) _).setCell' (λ _=>rfl) _).setCell' (λ _=>rfl) _).setCell' (λ _=>rfl) _) (((((((HB.out.set_ 0 _).set_ 1 _).set_ 2 _).set_ 3 _).set_ 4 _).set_ 5 _)) rfl rfl⟩
  ·obtain rfl:=Option.some.inj ho
   have hl4:L 5:=hdep {on:=5,ground:=.data} (by simp) rfl
   have hl1:L 3:=hdep {on:=3,ground:=.data} (by simp) rfl
   obtain ⟨X,cs,e7,hX,hbX,hz,_⟩:=hR.bY hl4
   subst e7
   obtain ⟨v0,v1,v2,v3,v4,v5,ec⟩:=size6 hz
   subst ec
   have hl0:L 1:=hR.d31 hl1
   obtain ⟨p,c0,c1,c2,c3,c4,c5,e13,_,_,_,h3⟩:=hR.cl hl0
   clear e13
   obtain ⟨d0,d1,d2,d3,d4,d5,e15,hO⟩:=h3 hl1
   subst e15
   obtain ⟨D1,dj1,f1⟩:=Own.form hO.1.high
   obtain ⟨D3,dj3,f3⟩:=OTx.form hO.2.keys
   obtain ⟨D4,dj4,f4⟩:=OTx.form hO.2.vals
   obtain ⟨D5,dj5,f5⟩:=Own.form hO.2.kids
   have f0:=hO.1.lvl
   have f2:=hO.1.right
   unfold iV at f0 f2
   subst f0 f1 f2 f3 f4 f5
   have HR:=Hd hR
   have HB:=Hd hbX
   have q:=λ i=>hbX.cell i
   have g:=λ i=>hbX.frozen i
   clear hR hbX hO
   refine wpOp_list rfl ?_
   unfold spA
   simp only [Act.put,sa_,sb_,sc_]
   go_wp2
   exact ⟨_,_,_,_,_,_,rfl,HR.out.st7 hl1 hl4 HB.out hX (cs':=#[.int .i64 n.lvl,.slice D1 n.high.length dj1,.int .i64 n.right,.slice D3 n.keys.length dj3,.slice D4 n.vals.length dj4,.slice D5 n.kids.length dj5]) ((((((Keeps.setCell _ (M:=λ b=>b=X) rfl _).setCell' (λ _=>rfl) _).setCell' (λ _=>rfl) _).setCell' (λ _=>rfl) _).setCell' (λ _=>rfl) _).setCell' (λ _=>rfl) _) (((((((HB.out.set_ 0 _).set_ 1 _).set_ 2 _).set_ 3 _).set_ 4 _).set_ 5 _)) rfl rfl⟩
  ·exact absurd ho (by simp)
 intro L a wz hall hI
 obtain ⟨x12,x13,x14,x15,x7,x8,rfl,hR⟩:=hI
 obtain ⟨p,d0,d1,d2,d3,d4,d5,e13,hp1,hp2,hO,h3⟩:=hR.cl (hall 1 (by decide))
 obtain ⟨e0,e1,e2,e3,e4,e5,e15,hQ⟩:=h3 (hall 3 (by decide))
 obtain ⟨X,cs,e7,hX,hbX,_,g6⟩:=hR.bx (hall 4 (by decide))
 obtain ⟨Y,ds,e8,hY,hbY,_,g7⟩:=hR.bY (hall 5 (by decide))
 have hne:=hR.ne (hall 4 (by decide)) (hall 5 (by decide))
 have g6:=g6 (hall 6 (by decide))
 have g7:=g7 (hall 7 (by decide))
 subst e7 e8 e13 e15
 injection g6 with g6
 injection g7 with g7
 subst g6 g7
 have hXY:X≠Y:=λ e=>hne (by rw [e])
 clear hne h3
 obtain ⟨D1,dj1,f1⟩:=Own.form hO.1.high
 obtain ⟨D3,dj3,f3⟩:=OTx.form hO.2.keys
 obtain ⟨D4,dj4,f4⟩:=OTx.form hO.2.vals
 obtain ⟨D5,dj5,f5⟩:=Own.form hO.2.kids
 have f0:=hO.1.lvl
 have f2:=hO.1.right
 unfold iV at f0 f2
 subst f0 f1 f2 f3 f4 f5
 obtain ⟨E1,ej1,f1⟩:=Own.form hQ.1.high
 obtain ⟨E3,ej3,f3⟩:=OTx.form hQ.2.keys
 obtain ⟨E4,ej4,f4⟩:=OTx.form hQ.2.vals
 obtain ⟨E5,ej5,f5⟩:=Own.form hQ.2.kids
 have f0:=hQ.1.lvl
 have f2:=hQ.1.right
 unfold iV at f0 f2
 subst f0 f1 f2 f3 f4 f5
 have hk:=hR.kept
 replace BN:=Hd (BN.out.keeps hk id)
 replace B1:=Hd (B1.out.keeps hk id)
 replace B2:=Hd (B2.out.keeps hk id)
 replace H:=Hd (H.out.keeps hk (λ _ _ _=>id))
 have szz:=hk.size
 replace K:=tq_ K hk
 have BX:Hid (Blk wz X 75 #[.int .i64 n.lvl,.slice D1 n.high.length dj1,.int .i64 n.right,.slice D3 n.keys.length dj3,.slice D4 n.vals.length dj4,.slice D5 n.kids.length dj5]):=hbX
 have BY:Hid (Blk wz Y 75 #[.int .i64 n.lvl,.slice E1 n.high.length ej1,.int .i64 n.right,.slice E3 n.keys.length ej3,.slice E4 n.vals.length ej4,.slice E5 n.kids.length ej5]):=hbY
 obtain ⟨q,hq⟩:∃ q,wz.heap.size=q:=⟨_,rfl⟩
 have hpq:p<=q:=by omega
 have L1:Hid (OBy wz (λ b=>w1.heap.size<=b/\b < p) (.slice D1 n.high.length dj1) n.high):=hO.1.high
 have L3:Hid (OTx wz (λ b=>w1.heap.size<=b/\b < p) (.slice D3 n.keys.length dj3) n.keys):=hO.2.keys
 have L4:Hid (OTx wz (λ b=>w1.heap.size<=b/\b < p) (.slice D4 n.vals.length dj4) n.vals):=hO.2.vals
 have L5:Hid (OIn wz (λ b=>w1.heap.size<=b/\b < p) (.slice D5 n.kids.length dj5) n.kids):=hO.2.kids
 have R1:Hid (OBy wz (λ b=>p<=b/\b < q) (.slice E1 n.high.length ej1) n.high):=hQ.1.high.mono (λ b hb hs=>⟨hs,by omega⟩)
 have R3:Hid (OTx wz (λ b=>p<=b/\b < q) (.slice E3 n.keys.length ej3) n.keys):=hQ.2.keys.mono (λ b hb hs=>⟨hs,by omega⟩)
 have R4:Hid (OTx wz (λ b=>p<=b/\b < q) (.slice E4 n.vals.length ej4) n.vals):=hQ.2.vals.mono (λ b hb hs=>⟨hs,by omega⟩)
 have R5:Hid (OIn wz (λ b=>p<=b/\b < q) (.slice E5 n.kids.length ej5) n.kids):=hQ.2.kids.mono (λ b hb hs=>⟨hs,by omega⟩)
 clear hO hQ hbX hbY hR hk hall
 unfold spA
 simp only [Act.put,sa_,sb_,sc_]
 obtain ⟨h,hhd⟩:∃ h,(spM n+1) / 2=h:=⟨_,rfl⟩
 by_cases hl0:n.lvl=0
 ·by_cases hm:n.keys.length < 2
  ·have t0:(n.lvl==0)=true:=by simp [hl0]
   have t1:(n.lvl != 0)=false:=by simp [hl0]
   have t2:(n.keys.length:Int) < 2:=by omega
   have hbd:spBad n:=.inl (by unfold spM;rw [if_pos hl0];exact hm)
   have HBD:=Hd hbd
   clear hl0 hbd
   have hl:spL n right=n:=by unfold spL;rw [if_pos HBD.out]
   have hr:spR n=Nd.zero:=by unfold spR;rw [if_pos HBD.out]
   have hkk:spK n=[]:=by unfold spK;rw [if_pos HBD.out]
   have HLb:=Hd hl
   have HRb:=Hd hr
   have HKb:=Hd hkk
   clear hhd hl hr hkk
   have qBN:=λ i=>BN.out.cell i
   have gBN:=λ i=>BN.out.frozen i
   have lBN:=BN.out.lt
   have qBX:=λ i=>BX.out.cell i
   have gBX:=λ i=>BX.out.frozen i
   have lBX:=BX.out.lt
   have qB1:=λ i=>B1.out.cell i
   have gB1:=λ i=>B1.out.frozen i
   have lB1:=B1.out.lt
   have qB2:=λ i=>B2.out.cell i
   have gB2:=λ i=>B2.out.frozen i
   have lB2:=B2.out.lt
   go_wp2
   refine post_at (λ w2 hw=>?_)
   clear qBN gBN lBN qBX gBX lBX qB1 gB1 lB1 qB2 gB2 lB2
   have K2:Hid (Keeps (λ b=>b=w.heap.size+1\/b=w.heap.size+1+1) wz w2):=by rw [hw];exact (((((((((((Keeps.setCell _ (M:=λ b=>b=w.heap.size+1\/b=w.heap.size+1+1) (.inl rfl) _).setCell' (λ _=>.inl rfl) _).setCell' (λ _=>.inl rfl) _).setCell' (λ _=>.inl rfl) _).setCell' (λ _=>.inl rfl) _).setCell' (λ _=>.inl rfl) _).setCell' (λ _=>.inr rfl) _).setCell' (λ _=>.inr rfl) _).setCell' (λ _=>.inr rfl) _).setCell' (λ _=>.inr rfl) _).setCell' (λ _=>.inr rfl) _).setCell' (λ _=>.inr rfl) _
   have hb1:Blk w2 (w.heap.size+1) 75 #[.int .i64 n.lvl,.slice D1 n.high.length dj1,.int .i64 n.right,.slice D3 n.keys.length dj3,.slice D4 n.vals.length dj4,.slice D5 n.kids.length dj5]:=by rw [hw];exact ((((((((((((B1.out.set_ 0 _).set_ 1 _).set_ 2 _).set_ 3 _).set_ 4 _).set_ 5 _).far (p:=⟨w.heap.size+1+1,0,none⟩) (by show w.heap.size+1≠w.heap.size+1+1;omega) _).far (p:=⟨w.heap.size+1+1,1,none⟩) (by show w.heap.size+1≠w.heap.size+1+1;omega) _).far (p:=⟨w.heap.size+1+1,2,none⟩) (by show w.heap.size+1≠w.heap.size+1+1;omega) _).far (p:=⟨w.heap.size+1+1,3,none⟩) (by show w.heap.size+1≠w.heap.size+1+1;omega) _).far (p:=⟨w.heap.size+1+1,4,none⟩) (by show w.heap.size+1≠w.heap.size+1+1;omega) _).far (p:=⟨w.heap.size+1+1,5,none⟩) (by show w.heap.size+1≠w.heap.size+1+1;omega) _)
   have hb2:Blk w2 (w.heap.size+1+1) 75 #[.int .i64 0,.slice none 0 0,.int .i64 0,.slice none 0 0,.slice none 0 0,.slice none 0 0]:=by rw [hw];exact ((((((((((((B2.out.far (p:=⟨w.heap.size+1,0,none⟩) (by show w.heap.size+1+1≠w.heap.size+1;omega) _).far (p:=⟨w.heap.size+1,1,none⟩) (by show w.heap.size+1+1≠w.heap.size+1;omega) _).far (p:=⟨w.heap.size+1,2,none⟩) (by show w.heap.size+1+1≠w.heap.size+1;omega) _).far (p:=⟨w.heap.size+1,3,none⟩) (by show w.heap.size+1+1≠w.heap.size+1;omega) _).far (p:=⟨w.heap.size+1,4,none⟩) (by show w.heap.size+1+1≠w.heap.size+1;omega) _).far (p:=⟨w.heap.size+1,5,none⟩) (by show w.heap.size+1+1≠w.heap.size+1;omega) _).set_ 0 _).set_ 1 _).set_ 2 _).set_ 3 _).set_ 4 _).set_ 5 _)
   have hszw:w2.heap.size=wz.heap.size:=by rw [hw];simp
   clear hw
   have r0:=hb1.cell 0
   have s0:=hb2.cell 0
   have r1:=hb1.cell 1
   have s1:=hb2.cell 1
   have r2:=hb1.cell 2
   have s2:=hb2.cell 2
   have r3:=hb1.cell 3
   have s3:=hb2.cell 3
   have r4:=hb1.cell 4
   have s4:=hb2.cell 4
   have r5:=hb1.cell 5
   have s5:=hb2.cell 5
   have hsz:w2.heap.size=wz.heap.size:=hszw
   rw [HLb.out,HRb.out,HKb.out]
   refine bodyPost_ret (v:=.tuple #[.agg #[.int .i64 n.lvl,.slice D1 n.high.length dj1,.int .i64 n.right,.slice D3 n.keys.length dj3,.slice D4 n.vals.length dj4,.slice D5 n.kids.length dj5],.agg #[.int .i64 0,.slice none 0 0,.int .i64 0,.slice none 0 0,.slice none 0 0,.slice none 0 0],.slice none 0 0]) (by simp [results,Try.results48,go_sem,r0,r1,r2,r3,r4,r5,s0,s1,s2,s3,s4,s5]) rfl ⟨_,_,_,_,_,_,_,_,_,_,_,_,_,rfl,p,by omega,q,hpq,q,Nat.le_refl _,by omega,⟨⟨rfl,?_,rfl⟩,?_,?_,?_⟩,ONd.zero _ _,OBy.nil _ _,K.out.trans K2.out (λ b hb e=>by rcases e with e|e<;>omega)⟩
   ·exact (L1.out.keeps K2.out (λ b _ hs e=>by have:=hs.1;rcases e with e|e<;>omega)).mono (λ b _ hb=>⟨by have:=hb.1;omega,.inl hb.2⟩)
   ·exact (L3.out.keeps K2.out (λ b _ hs e=>by have:=hs.1;rcases e with e|e<;>omega)).mono (λ b _ hb=>⟨by have:=hb.1;omega,.inl hb.2⟩)
   ·exact (L4.out.keeps K2.out (λ b _ hs e=>by have:=hs.1;rcases e with e|e<;>omega)).mono (λ b _ hb=>⟨by have:=hb.1;omega,.inl hb.2⟩)
   ·exact (L5.out.keeps K2.out (λ b _ hs e=>by have:=hs.1;rcases e with e|e<;>omega)).mono (λ b _ hb=>⟨by have:=hb.1;omega,.inl hb.2⟩)
  ·by_cases hv:n.vals.length < n.keys.length
   ·have t0:(n.lvl==0)=true:=by simp [hl0]
    have t1:(n.lvl != 0)=false:=by simp [hl0]
    have t2:decide ((n.keys.length:Int) < 2)=false:=decide_eq_false (by omega)
    have t3:(n.vals.length:Int) < (n.keys.length:Int):=by omega
    have hbd:spBad n:=.inr (.inl ⟨hl0,hv⟩)
    have HBD:=Hd hbd
    clear hl0 hbd
    have hl:spL n right=n:=by unfold spL;rw [if_pos HBD.out]
    have hr:spR n=Nd.zero:=by unfold spR;rw [if_pos HBD.out]
    have hkk:spK n=[]:=by unfold spK;rw [if_pos HBD.out]
    have HLb:=Hd hl
    have HRb:=Hd hr
    have HKb:=Hd hkk
    clear hhd hl hr hkk
    have qBN:=λ i=>BN.out.cell i
    have gBN:=λ i=>BN.out.frozen i
    have lBN:=BN.out.lt
    have qBX:=λ i=>BX.out.cell i
    have gBX:=λ i=>BX.out.frozen i
    have lBX:=BX.out.lt
    have qB1:=λ i=>B1.out.cell i
    have gB1:=λ i=>B1.out.frozen i
    have lB1:=B1.out.lt
    have qB2:=λ i=>B2.out.cell i
    have gB2:=λ i=>B2.out.frozen i
    have lB2:=B2.out.lt
    go_wp2
    refine post_at (λ w2 hw=>?_)
    clear qBN gBN lBN qBX gBX lBX qB1 gB1 lB1 qB2 gB2 lB2
    have K2:Hid (Keeps (λ b=>b=w.heap.size+1\/b=w.heap.size+1+1) wz w2):=by rw [hw];exact (((((((((((Keeps.setCell _ (M:=λ b=>b=w.heap.size+1\/b=w.heap.size+1+1) (.inl rfl) _).setCell' (λ _=>.inl rfl) _).setCell' (λ _=>.inl rfl) _).setCell' (λ _=>.inl rfl) _).setCell' (λ _=>.inl rfl) _).setCell' (λ _=>.inl rfl) _).setCell' (λ _=>.inr rfl) _).setCell' (λ _=>.inr rfl) _).setCell' (λ _=>.inr rfl) _).setCell' (λ _=>.inr rfl) _).setCell' (λ _=>.inr rfl) _).setCell' (λ _=>.inr rfl) _
    have hb1:Blk w2 (w.heap.size+1) 75 #[.int .i64 n.lvl,.slice D1 n.high.length dj1,.int .i64 n.right,.slice D3 n.keys.length dj3,.slice D4 n.vals.length dj4,.slice D5 n.kids.length dj5]:=by rw [hw];exact ((((((((((((B1.out.set_ 0 _).set_ 1 _).set_ 2 _).set_ 3 _).set_ 4 _).set_ 5 _).far (p:=⟨w.heap.size+1+1,0,none⟩) (by show w.heap.size+1≠w.heap.size+1+1;omega) _).far (p:=⟨w.heap.size+1+1,1,none⟩) (by show w.heap.size+1≠w.heap.size+1+1;omega) _).far (p:=⟨w.heap.size+1+1,2,none⟩) (by show w.heap.size+1≠w.heap.size+1+1;omega) _).far (p:=⟨w.heap.size+1+1,3,none⟩) (by show w.heap.size+1≠w.heap.size+1+1;omega) _).far (p:=⟨w.heap.size+1+1,4,none⟩) (by show w.heap.size+1≠w.heap.size+1+1;omega) _).far (p:=⟨w.heap.size+1+1,5,none⟩) (by show w.heap.size+1≠w.heap.size+1+1;omega) _)
    have hb2:Blk w2 (w.heap.size+1+1) 75 #[.int .i64 0,.slice none 0 0,.int .i64 0,.slice none 0 0,.slice none 0 0,.slice none 0 0]:=by rw [hw];exact ((((((((((((B2.out.far (p:=⟨w.heap.size+1,0,none⟩) (by show w.heap.size+1+1≠w.heap.size+1;omega) _).far (p:=⟨w.heap.size+1,1,none⟩) (by show w.heap.size+1+1≠w.heap.size+1;omega) _).far (p:=⟨w.heap.size+1,2,none⟩) (by show w.heap.size+1+1≠w.heap.size+1;omega) _).far (p:=⟨w.heap.size+1,3,none⟩) (by show w.heap.size+1+1≠w.heap.size+1;omega) _).far (p:=⟨w.heap.size+1,4,none⟩) (by show w.heap.size+1+1≠w.heap.size+1;omega) _).far (p:=⟨w.heap.size+1,5,none⟩) (by show w.heap.size+1+1≠w.heap.size+1;omega) _).set_ 0 _).set_ 1 _).set_ 2 _).set_ 3 _).set_ 4 _).set_ 5 _)
    have hszw:w2.heap.size=wz.heap.size:=by rw [hw];simp
    clear hw
    have r0:=hb1.cell 0
    have s0:=hb2.cell 0
    have r1:=hb1.cell 1
    have s1:=hb2.cell 1
    have r2:=hb1.cell 2
    have s2:=hb2.cell 2
    have r3:=hb1.cell 3
    have s3:=hb2.cell 3
    have r4:=hb1.cell 4
    have s4:=hb2.cell 4
    have r5:=hb1.cell 5
    have s5:=hb2.cell 5
    have hsz:w2.heap.size=wz.heap.size:=hszw
    rw [HLb.out,HRb.out,HKb.out]
    refine bodyPost_ret (v:=.tuple #[.agg #[.int .i64 n.lvl,.slice D1 n.high.length dj1,.int .i64 n.right,.slice D3 n.keys.length dj3,.slice D4 n.vals.length dj4,.slice D5 n.kids.length dj5],.agg #[.int .i64 0,.slice none 0 0,.int .i64 0,.slice none 0 0,.slice none 0 0,.slice none 0 0],.slice none 0 0]) (by simp [results,Try.results48,go_sem,r0,r1,r2,r3,r4,r5,s0,s1,s2,s3,s4,s5]) rfl ⟨_,_,_,_,_,_,_,_,_,_,_,_,_,rfl,p,by omega,q,hpq,q,Nat.le_refl _,by omega,⟨⟨rfl,?_,rfl⟩,?_,?_,?_⟩,ONd.zero _ _,OBy.nil _ _,K.out.trans K2.out (λ b hb e=>by rcases e with e|e<;>omega)⟩
    ·exact (L1.out.keeps K2.out (λ b _ hs e=>by have:=hs.1;rcases e with e|e<;>omega)).mono (λ b _ hb=>⟨by have:=hb.1;omega,.inl hb.2⟩)
    ·exact (L3.out.keeps K2.out (λ b _ hs e=>by have:=hs.1;rcases e with e|e<;>omega)).mono (λ b _ hb=>⟨by have:=hb.1;omega,.inl hb.2⟩)
    ·exact (L4.out.keeps K2.out (λ b _ hs e=>by have:=hs.1;rcases e with e|e<;>omega)).mono (λ b _ hb=>⟨by have:=hb.1;omega,.inl hb.2⟩)
    ·exact (L5.out.keeps K2.out (λ b _ hs e=>by have:=hs.1;rcases e with e|e<;>omega)).mono (λ b _ hb=>⟨by have:=hb.1;omega,.inl hb.2⟩)
   ·have h2:2*h<=spM n+1/\spM n<=2*h:=by rw [<-hhd];omega
    have hM:spM n=n.keys.length:=by unfold spM;rw [if_pos hl0]
    rw [hM] at h2 hhd
    obtain ⟨h2a,h2b⟩:=h2
    have hbd:¬spBad n:=by unfold spBad;rw [hM];omega
    have hsh:spH n=h:=by unfold spH;rw [hM];exact hhd
    obtain ⟨x,hx⟩:∃ x,n.keys[h]?=some x:=⟨_,List.getElem?_eq_getElem (by omega)⟩
    have hkk:spK n=x:=by unfold spK;rw [if_neg hbd,if_pos hl0,hsh,List.getD_eq_getElem?_getD,hx];rfl
    have hl:spL n right={n with high:=spK n,right:=right,keys:=n.keys.take h,vals:=n.vals.take h}:=by unfold spL;rw [if_neg hbd,if_pos hl0,hsh]
    have hr:spR n={n with keys:=n.keys.drop h,vals:=n.vals.drop h}:=by unfold spR;rw [if_neg hbd,if_pos hl0,hsh]
    have HL:=Hd hl
    have HRR:=Hd hr
    have HKK:=Hd hkk
    have hsx:Sm 0 1 x.length:=(HS.out.2.1.2 x (List.mem_of_getElem? hx)).mono (by decide)
    have HSX:=Hd hsx
    obtain ⟨ad,rfl,_,hc⟩:=H.out.2.keys.cells (i:=h) (by omega)
    obtain ⟨u,hu,hbu⟩:=hc _ x hx
    have HU:=Hd (hbu.mono (T:=λ b=>b < w.heap.size) (λ b _ hs=>hs))
    clear hc hbu
    have cR3:=OTx.cap R3.out
    obtain ⟨gR3,oR3,hE⟩:=OTx.some_ R3.out (by omega)
    subst hE
    have cR4:=OTx.cap R4.out
    obtain ⟨gR4,oR4,hE⟩:=OTx.some_ R4.out (by omega)
    subst hE
    have cL3:=OTx.cap L3.out
    have cL4:=OTx.cap L4.out
    have th:((n.keys.length:Int)+1) / 2=(h:Int):=by omega
    have t0:(n.lvl==0)=true:=by simp [hl0]
    have t1:(n.lvl != 0)=false:=by simp [hl0]
    have t2:¬(n.keys.length:Int) < 2:=by omega
    have t3:¬(n.vals.length:Int) < (n.keys.length:Int):=by omega
    have t2b:decide ((n.keys.length:Int) < 2)=false:=decide_eq_false t2
    have t3b:decide ((n.vals.length:Int) < (n.keys.length:Int))=false:=decide_eq_false t3
    have b1:h < n.keys.length:=by omega
    have b2:h<=dj3:=by omega
    have b3:h<=dj4:=by omega
    have b4:h<=n.keys.length:=by omega
    have b5:h<=n.vals.length:=by omega
    have n1:¬ej3=h:=by omega
    have n2:¬ej4=h:=by omega
    have b8:h<=ej3:=by omega
    have b9:h<=ej4:=by omega
    clear hl0 hbd hl hr hkk hhd hsx hx hsh hM
    have qBN:=λ i=>BN.out.cell i
    have gBN:=λ i=>BN.out.frozen i
    have lBN:=BN.out.lt
    go_wp2
    replace HU:=Hd HU.out
    clear qBN gBN lBN
    refine rC_ [0,1,2,3,4,5,6,7,8,9,10,11,12,13,14,15,16,17] 14 (λ W=>W.cell? ⟨X,3,none⟩=some (.slice D3 n.keys.length dj3)/\W.cell? ⟨X,4,none⟩=some (.slice D4 n.vals.length dj4)) ⟨BX.out.cell 3,BX.out.cell 4⟩ ?_
    refine canon_at (λ w2 hw=>?_)
    have hk:Keeps Nob wz w2:=by rw [hw];exact Keeps.drew _ _
    replace BN:=Hd (BN.out.keeps hk id)
    replace B1:=Hd (B1.out.keeps hk id)
    replace B2:=Hd (B2.out.keeps hk id)
    replace H:=Hd (H.out.keeps hk (λ _ _ _=>id))
    replace L1:=Hd (L1.out.keeps hk (λ _ _ _=>id))
    replace L3:=Hd (L3.out.keeps hk (λ _ _ _=>id))
    replace L4:=Hd (L4.out.keeps hk (λ _ _ _=>id))
    replace L5:=Hd (L5.out.keeps hk (λ _ _ _=>id))
    replace R1:=Hd (R1.out.keeps hk (λ _ _ _=>id))
    replace R3:=Hd (R3.out.keeps hk (λ _ _ _=>id))
    replace R4:=Hd (R4.out.keeps hk (λ _ _ _=>id))
    replace R5:=Hd (R5.out.keeps hk (λ _ _ _=>id))
    replace BX:=Hd (BX.out.keeps hk id)
    replace BY:=Hd (BY.out.keeps hk id)
    replace HU:=Hd (HU.out.keeps hk (λ _ _ _=>id))
    have szw2:=hk.size
    replace K:=tq_ K hk
    clear hw hk
    iterate 14
     refine cR_ (v:=?_) rfl ?_ ?_
     rotate_left
     ·intro W hW
      try (obtain ⟨h0,h1⟩:_/\_:=hW)
      go_simp
      try rfl
     simp only [Act.put,sa_,sb_,sc_]
    have qBX:=λ i=>BX.out.cell i
    have gBX:=λ i=>BX.out.frozen i
    have lBX:=BX.out.lt
    refine cA_ rfl ?_
    go_wp2
    refine ⟨.inl (by kernel_rfl),?_⟩
    refine canon_at (λ w3 hw=>?_)
    have hk:Keeps (λ b=>b=X) w2 w3:=by rw [hw];exact Keeps.setCell _ (M:=λ b=>b=X) rfl _
    have hb:Hid (Blk w3 (X) 75 #[.int .i64 n.lvl,.slice D1 n.high.length dj1,.int .i64 n.right,.slice D3 h h,.slice D4 n.vals.length dj4,.slice D5 n.kids.length dj5]):=by rw [hw];exact (BX.out.set_ 3 _)
    replace BN:=Hd (BN.out.keeps hk (by show ¬_=_;omega))
    replace B1:=Hd (B1.out.keeps hk (by show ¬_=_;omega))
    replace B2:=Hd (B2.out.keeps hk (by show ¬_=_;omega))
    replace H:=Hd (H.out.keeps hk (λ b _ hb e=>by have h1:b < w.heap.size:=hb;have h2:b=_:=e;omega))
    replace L1:=Hd (L1.out.keepsB BX.out ha hk)
    replace L3:=Hd (L3.out.keepsB BX.out ha hk)
    replace L4:=Hd (L4.out.keepsB BX.out ha hk)
    replace L5:=Hd (L5.out.keepsB BX.out ha hk)
    replace R1:=Hd (R1.out.keepsB BX.out ha hk)
    replace R3:=Hd (R3.out.keepsB BX.out ha hk)
    replace R4:=Hd (R4.out.keepsB BX.out ha hk)
    replace R5:=Hd (R5.out.keepsB BX.out ha hk)
    replace BY:=Hd (BY.out.keeps hk (by show ¬_=_;omega))
    replace HU:=Hd (HU.out.keeps hk (λ b _ hb e=>by have h1:b < w.heap.size:=hb;have h2:b=_:=e;omega))
    replace BX:=hb
    clear hw hb
    have szw3:=hk.size
    replace K:=Hd (K.out.trans hk (λ b hb e=>by subst e;omega))
    clear hk
    clear qBX gBX lBX
    iterate 2
     refine cR_ (v:=?_) rfl ?_ ?_
     rotate_left
     ·intro W hW
      skip
      go_simp
      try rfl
     simp only [Act.put,sa_,sb_,sc_]
    have qBX:=λ i=>BX.out.cell i
    have gBX:=λ i=>BX.out.frozen i
    have lBX:=BX.out.lt
    refine cA_ rfl ?_
    go_wp2
    refine ⟨.inl (by kernel_rfl),wpCanon_nil ?_⟩
    refine then_at (λ w4 hw=>?_)
    have hk:Keeps (λ b=>b=X) w3 w4:=by rw [hw];exact Keeps.setCell _ (M:=λ b=>b=X) rfl _
    have hb:Hid (Blk w4 (X) 75 #[.int .i64 n.lvl,.slice D1 n.high.length dj1,.int .i64 n.right,.slice D3 h h,.slice D4 h h,.slice D5 n.kids.length dj5]):=by rw [hw];exact (BX.out.set_ 4 _)
    replace BN:=Hd (BN.out.keeps hk (by show ¬_=_;omega))
    replace B1:=Hd (B1.out.keeps hk (by show ¬_=_;omega))
    replace B2:=Hd (B2.out.keeps hk (by show ¬_=_;omega))
    replace H:=Hd (H.out.keeps hk (λ b _ hb e=>by have h1:b < w.heap.size:=hb;have h2:b=_:=e;omega))
    replace L1:=Hd (L1.out.keepsB BX.out ha hk)
    replace L3:=Hd (L3.out.keepsB BX.out ha hk)
    replace L4:=Hd (L4.out.keepsB BX.out ha hk)
    replace L5:=Hd (L5.out.keepsB BX.out ha hk)
    replace R1:=Hd (R1.out.keepsB BX.out ha hk)
    replace R3:=Hd (R3.out.keepsB BX.out ha hk)
    replace R4:=Hd (R4.out.keepsB BX.out ha hk)
    replace R5:=Hd (R5.out.keepsB BX.out ha hk)
    replace BY:=Hd (BY.out.keeps hk (by show ¬_=_;omega))
    replace HU:=Hd (HU.out.keeps hk (λ b _ hb e=>by have h1:b < w.heap.size:=hb;have h2:b=_:=e;omega))
    replace BX:=hb
    clear hw hb
    have szw4:=hk.size
    replace K:=Hd (K.out.trans hk (λ b hb e=>by subst e;omega))
    clear hk
    clear qBX gBX lBX
    go_wp2
    refine rC_ [0,1,2,3,4,5,6,7,8,9,10,11,12,13,14,15] 12 (λ W=>W.cell? ⟨Y,3,none⟩=some (.slice (some ⟨gR3,oR3,none⟩) n.keys.length ej3)/\W.cell? ⟨Y,4,none⟩=some (.slice (some ⟨gR4,oR4,none⟩) n.vals.length ej4)) ⟨BY.out.cell 3,BY.out.cell 4⟩ ?_
    refine canon_at (λ w5 hw=>?_)
    have hk:Keeps Nob w4 w5:=by rw [hw];exact Keeps.drew _ _
    replace BN:=Hd (BN.out.keeps hk id)
    replace B1:=Hd (B1.out.keeps hk id)
    replace B2:=Hd (B2.out.keeps hk id)
    replace H:=Hd (H.out.keeps hk (λ _ _ _=>id))
    replace L1:=Hd (L1.out.keeps hk (λ _ _ _=>id))
    replace L3:=Hd (L3.out.keeps hk (λ _ _ _=>id))
    replace L4:=Hd (L4.out.keeps hk (λ _ _ _=>id))
    replace L5:=Hd (L5.out.keeps hk (λ _ _ _=>id))
    replace R1:=Hd (R1.out.keeps hk (λ _ _ _=>id))
    replace R3:=Hd (R3.out.keeps hk (λ _ _ _=>id))
    replace R4:=Hd (R4.out.keeps hk (λ _ _ _=>id))
    replace R5:=Hd (R5.out.keeps hk (λ _ _ _=>id))
    replace BX:=Hd (BX.out.keeps hk id)
    replace BY:=Hd (BY.out.keeps hk id)
    replace HU:=Hd (HU.out.keeps hk (λ _ _ _=>id))
    have szw5:=hk.size
    replace K:=tq_ K hk
    clear hw hk
    iterate 12
     refine cR_ (v:=?_) rfl ?_ ?_
     rotate_left
     ·intro W hW
      try (obtain ⟨h0,h1⟩:_/\_:=hW)
      go_simp
      try rfl
     simp only [Act.put,sa_,sb_,sc_]
    have qBY:=λ i=>BY.out.cell i
    have gBY:=λ i=>BY.out.frozen i
    have lBY:=BY.out.lt
    refine cA_ rfl ?_
    go_wp2
    refine ⟨.inl (by kernel_rfl),?_⟩
    refine canon_at (λ w6 hw=>?_)
    have hk:Keeps (λ b=>b=Y) w5 w6:=by rw [hw];exact Keeps.setCell _ (M:=λ b=>b=Y) rfl _
    have hb:Hid (Blk w6 (Y) 75 #[.int .i64 n.lvl,.slice E1 n.high.length ej1,.int .i64 n.right,.slice (some ⟨gR3,oR3+h,none⟩) (n.keys.length-h) (ej3-h),.slice (some ⟨gR4,oR4,none⟩) n.vals.length ej4,.slice E5 n.kids.length ej5]):=by rw [hw];exact (BY.out.set_ 3 _)
    replace BN:=Hd (BN.out.keeps hk (by show ¬_=_;omega))
    replace B1:=Hd (B1.out.keeps hk (by show ¬_=_;omega))
    replace B2:=Hd (B2.out.keeps hk (by show ¬_=_;omega))
    replace H:=Hd (H.out.keeps hk (λ b _ hb e=>by have h1:b < w.heap.size:=hb;have h2:b=_:=e;omega))
    replace L1:=Hd (L1.out.keepsB BY.out ha hk)
    replace L3:=Hd (L3.out.keepsB BY.out ha hk)
    replace L4:=Hd (L4.out.keepsB BY.out ha hk)
    replace L5:=Hd (L5.out.keepsB BY.out ha hk)
    replace R1:=Hd (R1.out.keepsB BY.out ha hk)
    replace R3:=Hd (R3.out.keepsB BY.out ha hk)
    replace R4:=Hd (R4.out.keepsB BY.out ha hk)
    replace R5:=Hd (R5.out.keepsB BY.out ha hk)
    replace BX:=Hd (BX.out.keeps hk (by show ¬_=_;omega))
    replace HU:=Hd (HU.out.keeps hk (λ b _ hb e=>by have h1:b < w.heap.size:=hb;have h2:b=_:=e;omega))
    replace BY:=hb
    clear hw hb
    have szw6:=hk.size
    replace K:=Hd (K.out.trans hk (λ b hb e=>by subst e;omega))
    clear hk
    clear qBY gBY lBY
    iterate 2
     refine cR_ (v:=?_) rfl ?_ ?_
     rotate_left
     ·intro W hW
      skip
      go_simp
      try rfl
     simp only [Act.put,sa_,sb_,sc_]
    have qBY:=λ i=>BY.out.cell i
    have gBY:=λ i=>BY.out.frozen i
    have lBY:=BY.out.lt
    refine cA_ rfl ?_
    go_wp2
    refine ⟨.inl (by kernel_rfl),wpCanon_nil ?_⟩
    refine then_at (λ w7 hw=>?_)
    have hk:Keeps (λ b=>b=Y) w6 w7:=by rw [hw];exact Keeps.setCell _ (M:=λ b=>b=Y) rfl _
    have hb:Hid (Blk w7 (Y) 75 #[.int .i64 n.lvl,.slice E1 n.high.length ej1,.int .i64 n.right,.slice (some ⟨gR3,oR3+h,none⟩) (n.keys.length-h) (ej3-h),.slice (some ⟨gR4,oR4+h,none⟩) (n.vals.length-h) (ej4-h),.slice E5 n.kids.length ej5]):=by rw [hw];exact (BY.out.set_ 4 _)
    replace BN:=Hd (BN.out.keeps hk (by show ¬_=_;omega))
    replace B1:=Hd (B1.out.keeps hk (by show ¬_=_;omega))
    replace B2:=Hd (B2.out.keeps hk (by show ¬_=_;omega))
    replace H:=Hd (H.out.keeps hk (λ b _ hb e=>by have h1:b < w.heap.size:=hb;have h2:b=_:=e;omega))
    replace L1:=Hd (L1.out.keepsB BY.out ha hk)
    replace L3:=Hd (L3.out.keepsB BY.out ha hk)
    replace L4:=Hd (L4.out.keepsB BY.out ha hk)
    replace L5:=Hd (L5.out.keepsB BY.out ha hk)
    replace R1:=Hd (R1.out.keepsB BY.out ha hk)
    replace R3:=Hd (R3.out.keepsB BY.out ha hk)
    replace R4:=Hd (R4.out.keepsB BY.out ha hk)
    replace R5:=Hd (R5.out.keepsB BY.out ha hk)
    replace BX:=Hd (BX.out.keeps hk (by show ¬_=_;omega))
    replace HU:=Hd (HU.out.keeps hk (λ b _ hb e=>by have h1:b < w.heap.size:=hb;have h2:b=_:=e;omega))
    replace BY:=hb
    clear hw hb
    have szw7:=hk.size
    replace K:=Hd (K.out.trans hk (λ b hb e=>by subst e;omega))
    clear hk
    clear qBY gBY lBY
    go_wp2
    refine rC_ [0,1,2,3,5,4,6,7,8] 8 (λ W=>W.cell? ⟨w.heap.size,0,none⟩=some (.int .i64 n.lvl)) (BN.out.cell 0) ?_
    refine canon_at (λ w8 hw=>?_)
    have hk:Keeps Nob w7 w8:=by rw [hw];exact Keeps.drew _ _
    replace BN:=Hd (BN.out.keeps hk id)
    replace B1:=Hd (B1.out.keeps hk id)
    replace B2:=Hd (B2.out.keeps hk id)
    replace H:=Hd (H.out.keeps hk (λ _ _ _=>id))
    replace L1:=Hd (L1.out.keeps hk (λ _ _ _=>id))
    replace L3:=Hd (L3.out.keeps hk (λ _ _ _=>id))
    replace L4:=Hd (L4.out.keeps hk (λ _ _ _=>id))
    replace L5:=Hd (L5.out.keeps hk (λ _ _ _=>id))
    replace R1:=Hd (R1.out.keeps hk (λ _ _ _=>id))
    replace R3:=Hd (R3.out.keeps hk (λ _ _ _=>id))
    replace R4:=Hd (R4.out.keeps hk (λ _ _ _=>id))
    replace R5:=Hd (R5.out.keeps hk (λ _ _ _=>id))
    replace BX:=Hd (BX.out.keeps hk id)
    replace BY:=Hd (BY.out.keeps hk id)
    replace HU:=Hd (HU.out.keeps hk (λ _ _ _=>id))
    have szw8:=hk.size
    replace K:=tq_ K hk
    clear hw hk
    iterate 5
     refine cR_ (v:=?_) rfl ?_ ?_
     rotate_left
     ·intro W hW
      try (replace hW:World.cell? _ _=some _:=hW)
      go_simp
      try rfl
     simp only [Act.put,sa_,sb_,sc_]
    refine cA_ rfl ?_
    go_wp2_with (go_at_call 18;refine (cloneB HU.out HSX.out).mono ?_;rintro e w9 ⟨v,rfl,hU,hk⟩)
    obtain ⟨Bw9,jw9,hf⟩:=Own.form hU
    subst hf
    replace BN:=Hd (BN.out.keeps hk id)
    replace B1:=Hd (B1.out.keeps hk id)
    replace B2:=Hd (B2.out.keeps hk id)
    replace H:=Hd (H.out.keeps hk (λ _ _ _=>id))
    replace L1:=Hd (L1.out.keeps hk (λ _ _ _=>id))
    replace L3:=Hd (L3.out.keeps hk (λ _ _ _=>id))
    replace L4:=Hd (L4.out.keeps hk (λ _ _ _=>id))
    replace L5:=Hd (L5.out.keeps hk (λ _ _ _=>id))
    replace R1:=Hd (R1.out.keeps hk (λ _ _ _=>id))
    replace R3:=Hd (R3.out.keeps hk (λ _ _ _=>id))
    replace R4:=Hd (R4.out.keeps hk (λ _ _ _=>id))
    replace R5:=Hd (R5.out.keeps hk (λ _ _ _=>id))
    replace BX:=Hd (BX.out.keeps hk id)
    replace BY:=Hd (BY.out.keeps hk id)
    replace HU:=Hd (HU.out.keeps hk (λ _ _ _=>id))
    have szw9:=hk.size
    replace K:=tq_ K hk
    clear hk
    obtain ⟨s,hs⟩:∃ s,w9.heap.size=s:=⟨_,rfl⟩
    have HH:Hid (OBy w9 (λ b=>q<=b/\b < s) (.slice Bw9 x.length jw9) x):=hU.mono (λ b _ hb=>⟨by have:=hb.1;omega,by have:=hb.2;omega⟩)
    clear hU
    refine ⟨.inr (BN.out.cell 0),?_⟩
    iterate 2
     refine cR_ (v:=?_) rfl ?_ ?_
     rotate_left
     ·intro W hW
      skip
      go_simp
      try rfl
     simp only [Act.put,sa_,sb_,sc_]
    have qBX:=λ i=>BX.out.cell i
    have gBX:=λ i=>BX.out.frozen i
    have lBX:=BX.out.lt
    refine cA_ rfl ?_
    go_wp2
    refine ⟨.inl (by kernel_rfl),wpCanon_nil ?_⟩
    refine then_at (λ w10 hw=>?_)
    have hk:Keeps (λ b=>b=X) w9 w10:=by rw [hw];exact ((Keeps.setCell _ (M:=λ b=>b=X) rfl _).setCell' (λ _=>rfl) _).setCell' (λ _=>rfl) _
    have hb:Hid (Blk w10 (X) 75 #[.int .i64 n.lvl,.slice Bw9 x.length jw9,.int .i64 right,.slice D3 h h,.slice D4 h h,.slice D5 n.kids.length dj5]):=by rw [hw];exact (((BX.out.set_ 0 _).set_ 1 _).set_ 2 _)
    replace BN:=Hd (BN.out.keeps hk (by show ¬_=_;omega))
    replace B1:=Hd (B1.out.keeps hk (by show ¬_=_;omega))
    replace B2:=Hd (B2.out.keeps hk (by show ¬_=_;omega))
    replace H:=Hd (H.out.keeps hk (λ b _ hb e=>by have h1:b < w.heap.size:=hb;have h2:b=_:=e;omega))
    replace L1:=Hd (L1.out.keepsB BX.out ha hk)
    replace L3:=Hd (L3.out.keepsB BX.out ha hk)
    replace L4:=Hd (L4.out.keepsB BX.out ha hk)
    replace L5:=Hd (L5.out.keepsB BX.out ha hk)
    replace R1:=Hd (R1.out.keepsB BX.out ha hk)
    replace R3:=Hd (R3.out.keepsB BX.out ha hk)
    replace R4:=Hd (R4.out.keepsB BX.out ha hk)
    replace R5:=Hd (R5.out.keepsB BX.out ha hk)
    replace BY:=Hd (BY.out.keeps hk (by show ¬_=_;omega))
    replace HU:=Hd (HU.out.keeps hk (λ b _ hb e=>by have h1:b < w.heap.size:=hb;have h2:b=_:=e;omega))
    replace HH:=Hd (HH.out.keepsB BX.out ha hk)
    replace BX:=hb
    clear hw hb
    have szw10:=hk.size
    replace K:=Hd (K.out.trans hk (λ b hb e=>by subst e;omega))
    clear hk
    clear qBX gBX lBX
    go_wp2
    refine rC_ [0,1,2,3,4,5,6] 5 (λ W=>W.cell? ⟨X,0,none⟩=some (.int .i64 n.lvl)/\W.cell? ⟨X,1,none⟩=some (.slice Bw9 x.length jw9)/\W.cell? ⟨X,2,none⟩=some (.int .i64 right)/\W.cell? ⟨X,3,none⟩=some (.slice D3 h h)/\W.cell? ⟨X,4,none⟩=some (.slice D4 h h)/\W.cell? ⟨X,5,none⟩=some (.slice D5 n.kids.length dj5)/\W.cell? ⟨Y,0,none⟩=some (.int .i64 n.lvl)/\W.cell? ⟨Y,1,none⟩=some (.slice E1 n.high.length ej1)/\W.cell? ⟨Y,2,none⟩=some (.int .i64 n.right)/\W.cell? ⟨Y,3,none⟩=some (.slice (some ⟨gR3,oR3+h,none⟩) (n.keys.length-h) (ej3-h))/\W.cell? ⟨Y,4,none⟩=some (.slice (some ⟨gR4,oR4+h,none⟩) (n.vals.length-h) (ej4-h))/\W.cell? ⟨Y,5,none⟩=some (.slice E5 n.kids.length ej5)) ⟨BX.out.cell 0,BX.out.cell 1,BX.out.cell 2,BX.out.cell 3,BX.out.cell 4,BX.out.cell 5,BY.out.cell 0,BY.out.cell 1,BY.out.cell 2,BY.out.cell 3,BY.out.cell 4,BY.out.cell 5⟩ ?_
    refine canon_at (λ w11 hw=>?_)
    have hk:Keeps Nob w10 w11:=by rw [hw];exact Keeps.drew _ _
    replace BN:=Hd (BN.out.keeps hk id)
    replace B1:=Hd (B1.out.keeps hk id)
    replace B2:=Hd (B2.out.keeps hk id)
    replace H:=Hd (H.out.keeps hk (λ _ _ _=>id))
    replace L1:=Hd (L1.out.keeps hk (λ _ _ _=>id))
    replace L3:=Hd (L3.out.keeps hk (λ _ _ _=>id))
    replace L4:=Hd (L4.out.keeps hk (λ _ _ _=>id))
    replace L5:=Hd (L5.out.keeps hk (λ _ _ _=>id))
    replace R1:=Hd (R1.out.keeps hk (λ _ _ _=>id))
    replace R3:=Hd (R3.out.keeps hk (λ _ _ _=>id))
    replace R4:=Hd (R4.out.keeps hk (λ _ _ _=>id))
    replace R5:=Hd (R5.out.keeps hk (λ _ _ _=>id))
    replace BX:=Hd (BX.out.keeps hk id)
    replace BY:=Hd (BY.out.keeps hk id)
    replace HU:=Hd (HU.out.keeps hk (λ _ _ _=>id))
    replace HH:=Hd (HH.out.keeps hk (λ _ _ _=>id))
    have szw11:=hk.size
    replace K:=tq_ K hk
    clear hw hk
    iterate 3
     refine cR_ (v:=?_) rfl ?_ ?_
     rotate_left
     ·intro W hW
      try (obtain ⟨h0,h1,h2,h3,h4,h5,h6,h7,h8,h9,h10,h11⟩:_/\_/\_/\_/\_/\_/\_/\_/\_/\_/\_/\_:=hW)
      go_simp
      try rfl
     simp only [Act.put,sa_,sb_,sc_]
    refine cA_ rfl ?_
    go_wp2_with (go_at_call 18;refine (cloneB HU.out HSX.out).mono ?_;rintro e w12 ⟨v,rfl,hU,hk⟩)
    obtain ⟨Bw12,jw12,hf⟩:=Own.form hU
    subst hf
    replace BN:=Hd (BN.out.keeps hk id)
    replace B1:=Hd (B1.out.keeps hk id)
    replace B2:=Hd (B2.out.keeps hk id)
    replace H:=Hd (H.out.keeps hk (λ _ _ _=>id))
    replace L1:=Hd (L1.out.keeps hk (λ _ _ _=>id))
    replace L3:=Hd (L3.out.keeps hk (λ _ _ _=>id))
    replace L4:=Hd (L4.out.keeps hk (λ _ _ _=>id))
    replace L5:=Hd (L5.out.keeps hk (λ _ _ _=>id))
    replace R1:=Hd (R1.out.keeps hk (λ _ _ _=>id))
    replace R3:=Hd (R3.out.keeps hk (λ _ _ _=>id))
    replace R4:=Hd (R4.out.keeps hk (λ _ _ _=>id))
    replace R5:=Hd (R5.out.keeps hk (λ _ _ _=>id))
    replace BX:=Hd (BX.out.keeps hk id)
    replace BY:=Hd (BY.out.keeps hk id)
    replace HU:=Hd (HU.out.keeps hk (λ _ _ _=>id))
    replace HH:=Hd (HH.out.keeps hk (λ _ _ _=>id))
    have szw12:=hk.size
    replace K:=tq_ K hk
    clear hk
    have HV:Hid (OBy w12 (λ b=>s<=b) (.slice Bw12 x.length jw12) x):=hU.mono (λ b _ hb=>by have:=hb.1;omega)
    clear hU
    refine ⟨.inr ⟨BX.out.cell 0,BX.out.cell 1,BX.out.cell 2,BX.out.cell 3,BX.out.cell 4,BX.out.cell 5,BY.out.cell 0,BY.out.cell 1,BY.out.cell 2,BY.out.cell 3,BY.out.cell 4,BY.out.cell 5⟩,?_⟩
    have qB1:=λ i=>B1.out.cell i
    have gB1:=λ i=>B1.out.frozen i
    have lB1:=B1.out.lt
    refine cA_ rfl ?_
    go_wp2
    have hk:Keeps (λ b=>b=w.heap.size+1) w12 _:=(((((Keeps.setCell w12 (M:=λ b=>b=w.heap.size+1) (p:=⟨w.heap.size+1,0,none⟩) rfl (.int .i64 n.lvl)).setCell' (p:=⟨w.heap.size+1,1,none⟩) (λ _=>rfl) (.slice Bw9 x.length jw9)).setCell' (p:=⟨w.heap.size+1,2,none⟩) (λ _=>rfl) (.int .i64 right)).setCell' (p:=⟨w.heap.size+1,3,none⟩) (λ _=>rfl) (.slice D3 h h)).setCell' (p:=⟨w.heap.size+1,4,none⟩) (λ _=>rfl) (.slice D4 h h)).setCell' (p:=⟨w.heap.size+1,5,none⟩) (λ _=>rfl) (.slice D5 n.kids.length dj5)
    refine ⟨.inr ⟨(BX.out.keeps hk (by show ¬_=_;omega)).cell 0,(BX.out.keeps hk (by show ¬_=_;omega)).cell 1,(BX.out.keeps hk (by show ¬_=_;omega)).cell 2,(BX.out.keeps hk (by show ¬_=_;omega)).cell 3,(BX.out.keeps hk (by show ¬_=_;omega)).cell 4,(BX.out.keeps hk (by show ¬_=_;omega)).cell 5,(BY.out.keeps hk (by show ¬_=_;omega)).cell 0,(BY.out.keeps hk (by show ¬_=_;omega)).cell 1,(BY.out.keeps hk (by show ¬_=_;omega)).cell 2,(BY.out.keeps hk (by show ¬_=_;omega)).cell 3,(BY.out.keeps hk (by show ¬_=_;omega)).cell 4,(BY.out.keeps hk (by show ¬_=_;omega)).cell 5⟩,?_⟩
    clear hk
    refine canon_at (λ w14 hw=>?_)
    have hk:Keeps (λ b=>b=w.heap.size+1) w12 w14:=by rw [hw];exact (((((Keeps.setCell _ (M:=λ b=>b=w.heap.size+1) rfl _).setCell' (λ _=>rfl) _).setCell' (λ _=>rfl) _).setCell' (λ _=>rfl) _).setCell' (λ _=>rfl) _).setCell' (λ _=>rfl) _
    have hb:Hid (Blk w14 (w.heap.size+1) 75 #[.int .i64 n.lvl,.slice Bw9 x.length jw9,.int .i64 right,.slice D3 h h,.slice D4 h h,.slice D5 n.kids.length dj5]):=by rw [hw];exact ((((((B1.out.set_ 0 _).set_ 1 _).set_ 2 _).set_ 3 _).set_ 4 _).set_ 5 _)
    replace BN:=Hd (BN.out.keeps hk (by show ¬_=_;omega))
    replace B2:=Hd (B2.out.keeps hk (by show ¬_=_;omega))
    replace H:=Hd (H.out.keeps hk (λ b _ hb e=>by have h1:b < w.heap.size:=hb;have h2:b=_:=e;omega))
    replace L1:=Hd (L1.out.keepsB B1.out ha hk)
    replace L3:=Hd (L3.out.keepsB B1.out ha hk)
    replace L4:=Hd (L4.out.keepsB B1.out ha hk)
    replace L5:=Hd (L5.out.keepsB B1.out ha hk)
    replace R1:=Hd (R1.out.keepsB B1.out ha hk)
    replace R3:=Hd (R3.out.keepsB B1.out ha hk)
    replace R4:=Hd (R4.out.keepsB B1.out ha hk)
    replace R5:=Hd (R5.out.keepsB B1.out ha hk)
    replace BX:=Hd (BX.out.keeps hk (by show ¬_=_;omega))
    replace BY:=Hd (BY.out.keeps hk (by show ¬_=_;omega))
    replace HU:=Hd (HU.out.keeps hk (λ b _ hb e=>by have h1:b < w.heap.size:=hb;have h2:b=_:=e;omega))
    replace HH:=Hd (HH.out.keepsB B1.out ha hk)
    replace HV:=Hd (HV.out.keepsB B1.out ha hk)
    replace B1:=hb
    clear hw hb
    have szw14:=hk.size
    replace K:=Hd (K.out.trans hk (λ b hb e=>by subst e;omega))
    clear hk
    clear qB1 gB1 lB1
    have qB2:=λ i=>B2.out.cell i
    have gB2:=λ i=>B2.out.frozen i
    have lB2:=B2.out.lt
    refine cA_ rfl ?_
    go_wp2
    refine ⟨.inl (by kernel_rfl),?_⟩
    refine canon_at (λ w15 hw=>?_)
    have hk:Keeps (λ b=>b=w.heap.size+1+1) w14 w15:=by rw [hw];exact (((((Keeps.setCell _ (M:=λ b=>b=w.heap.size+1+1) rfl _).setCell' (λ _=>rfl) _).setCell' (λ _=>rfl) _).setCell' (λ _=>rfl) _).setCell' (λ _=>rfl) _).setCell' (λ _=>rfl) _
    have hb:Hid (Blk w15 (w.heap.size+1+1) 75 #[.int .i64 n.lvl,.slice E1 n.high.length ej1,.int .i64 n.right,.slice (some ⟨gR3,oR3+h,none⟩) (n.keys.length-h) (ej3-h),.slice (some ⟨gR4,oR4+h,none⟩) (n.vals.length-h) (ej4-h),.slice E5 n.kids.length ej5]):=by rw [hw];exact ((((((B2.out.set_ 0 _).set_ 1 _).set_ 2 _).set_ 3 _).set_ 4 _).set_ 5 _)
    replace BN:=Hd (BN.out.keeps hk (by show ¬_=_;omega))
    replace B1:=Hd (B1.out.keeps hk (by show ¬_=_;omega))
    replace H:=Hd (H.out.keeps hk (λ b _ hb e=>by have h1:b < w.heap.size:=hb;have h2:b=_:=e;omega))
    replace L1:=Hd (L1.out.keepsB B2.out ha hk)
    replace L3:=Hd (L3.out.keepsB B2.out ha hk)
    replace L4:=Hd (L4.out.keepsB B2.out ha hk)
    replace L5:=Hd (L5.out.keepsB B2.out ha hk)
    replace R1:=Hd (R1.out.keepsB B2.out ha hk)
    replace R3:=Hd (R3.out.keepsB B2.out ha hk)
    replace R4:=Hd (R4.out.keepsB B2.out ha hk)
    replace R5:=Hd (R5.out.keepsB B2.out ha hk)
    replace BX:=Hd (BX.out.keeps hk (by show ¬_=_;omega))
    replace BY:=Hd (BY.out.keeps hk (by show ¬_=_;omega))
    replace HU:=Hd (HU.out.keeps hk (λ b _ hb e=>by have h1:b < w.heap.size:=hb;have h2:b=_:=e;omega))
    replace HH:=Hd (HH.out.keepsB B2.out ha hk)
    replace HV:=Hd (HV.out.keepsB B2.out ha hk)
    replace B2:=hb
    clear hw hb
    have szw15:=hk.size
    replace K:=Hd (K.out.trans hk (λ b hb e=>by subst e;omega))
    clear hk
    clear qB2 gB2 lB2
    iterate 1
     refine cR_ (v:=?_) rfl ?_ ?_
     rotate_left
     ·intro W hW
      skip
      go_simp
      try rfl
     simp only [Act.put,sa_,sb_,sc_]
    refine wpCanon_nil ?_
    go_wp2
    have r0:=B1.out.cell 0
    have s0:=B2.out.cell 0
    have r1:=B1.out.cell 1
    have s1:=B2.out.cell 1
    have r2:=B1.out.cell 2
    have s2:=B2.out.cell 2
    have r3:=B1.out.cell 3
    have s3:=B2.out.cell 3
    have r4:=B1.out.cell 4
    have s4:=B2.out.cell 4
    have r5:=B1.out.cell 5
    have s5:=B2.out.cell 5
    rw [HL.out,HRR.out,HKK.out]
    refine bodyPost_ret (v:=.tuple #[.agg #[.int .i64 n.lvl,.slice Bw9 x.length jw9,.int .i64 right,.slice D3 h h,.slice D4 h h,.slice D5 n.kids.length dj5],.agg #[.int .i64 n.lvl,.slice E1 n.high.length ej1,.int .i64 n.right,.slice (some ⟨gR3,oR3+h,none⟩) (n.keys.length-h) (ej3-h),.slice (some ⟨gR4,oR4+h,none⟩) (n.vals.length-h) (ej4-h),.slice E5 n.kids.length ej5],.slice Bw12 x.length jw12]) (by simp [results,Try.results48,go_sem,r0,r1,r2,r3,r4,r5,s0,s1,s2,s3,s4,s5]) rfl ⟨_,_,_,_,_,_,_,_,_,_,_,_,_,rfl,p,by omega,q,hpq,s,by omega,by omega,⟨⟨rfl,?_,rfl⟩,?_,?_,?_⟩,⟨⟨rfl,?_,rfl⟩,?_,?_,?_⟩,?_,K.out⟩
    ·exact HH.out.mono (λ b _ hb=>⟨by have:=hb.1;omega,.inr hb⟩)
    ·exact (L3.out.cut b4).mono (λ b _ hb=>⟨by have:=hb.1;omega,.inl hb.2⟩)
    ·exact (L4.out.cut b5).mono (λ b _ hb=>⟨by have:=hb.1;omega,.inl hb.2⟩)
    ·exact (L5.out).mono (λ b _ hb=>⟨by have:=hb.1;omega,.inl hb.2⟩)
    ·exact R1.out
    ·exact R3.out.tail b4
    ·exact R4.out.tail b5
    ·exact R5.out
    ·exact HV.out.mono (λ b hb hs=>⟨hs,hb⟩)
 ·by_cases hm:n.kids.length < 2
  ·have t0:(n.lvl==0)=false:=by simp [hl0]
   have t1:(n.lvl != 0)=true:=by simp [hl0]
   have t2:(n.kids.length:Int) < 2:=by omega
   have hbd:spBad n:=.inl (by unfold spM;rw [if_neg hl0];exact hm)
   have HBD:=Hd hbd
   clear hl0 hbd
   have hl:spL n right=n:=by unfold spL;rw [if_pos HBD.out]
   have hr:spR n=Nd.zero:=by unfold spR;rw [if_pos HBD.out]
   have hkk:spK n=[]:=by unfold spK;rw [if_pos HBD.out]
   have HLb:=Hd hl
   have HRb:=Hd hr
   have HKb:=Hd hkk
   clear hhd hl hr hkk
   have qBN:=λ i=>BN.out.cell i
   have gBN:=λ i=>BN.out.frozen i
   have lBN:=BN.out.lt
   have qBX:=λ i=>BX.out.cell i
   have gBX:=λ i=>BX.out.frozen i
   have lBX:=BX.out.lt
   have qB1:=λ i=>B1.out.cell i
   have gB1:=λ i=>B1.out.frozen i
   have lB1:=B1.out.lt
   have qB2:=λ i=>B2.out.cell i
   have gB2:=λ i=>B2.out.frozen i
   have lB2:=B2.out.lt
   go_wp2
   refine post_at (λ w2 hw=>?_)
   clear qBN gBN lBN qBX gBX lBX qB1 gB1 lB1 qB2 gB2 lB2
   have K2:Hid (Keeps (λ b=>b=w.heap.size+1\/b=w.heap.size+1+1) wz w2):=by rw [hw];exact (((((((((((Keeps.setCell _ (M:=λ b=>b=w.heap.size+1\/b=w.heap.size+1+1) (.inl rfl) _).setCell' (λ _=>.inl rfl) _).setCell' (λ _=>.inl rfl) _).setCell' (λ _=>.inl rfl) _).setCell' (λ _=>.inl rfl) _).setCell' (λ _=>.inl rfl) _).setCell' (λ _=>.inr rfl) _).setCell' (λ _=>.inr rfl) _).setCell' (λ _=>.inr rfl) _).setCell' (λ _=>.inr rfl) _).setCell' (λ _=>.inr rfl) _).setCell' (λ _=>.inr rfl) _
   have hb1:Blk w2 (w.heap.size+1) 75 #[.int .i64 n.lvl,.slice D1 n.high.length dj1,.int .i64 n.right,.slice D3 n.keys.length dj3,.slice D4 n.vals.length dj4,.slice D5 n.kids.length dj5]:=by rw [hw];exact ((((((((((((B1.out.set_ 0 _).set_ 1 _).set_ 2 _).set_ 3 _).set_ 4 _).set_ 5 _).far (p:=⟨w.heap.size+1+1,0,none⟩) (by show w.heap.size+1≠w.heap.size+1+1;omega) _).far (p:=⟨w.heap.size+1+1,1,none⟩) (by show w.heap.size+1≠w.heap.size+1+1;omega) _).far (p:=⟨w.heap.size+1+1,2,none⟩) (by show w.heap.size+1≠w.heap.size+1+1;omega) _).far (p:=⟨w.heap.size+1+1,3,none⟩) (by show w.heap.size+1≠w.heap.size+1+1;omega) _).far (p:=⟨w.heap.size+1+1,4,none⟩) (by show w.heap.size+1≠w.heap.size+1+1;omega) _).far (p:=⟨w.heap.size+1+1,5,none⟩) (by show w.heap.size+1≠w.heap.size+1+1;omega) _)
   have hb2:Blk w2 (w.heap.size+1+1) 75 #[.int .i64 0,.slice none 0 0,.int .i64 0,.slice none 0 0,.slice none 0 0,.slice none 0 0]:=by rw [hw];exact ((((((((((((B2.out.far (p:=⟨w.heap.size+1,0,none⟩) (by show w.heap.size+1+1≠w.heap.size+1;omega) _).far (p:=⟨w.heap.size+1,1,none⟩) (by show w.heap.size+1+1≠w.heap.size+1;omega) _).far (p:=⟨w.heap.size+1,2,none⟩) (by show w.heap.size+1+1≠w.heap.size+1;omega) _).far (p:=⟨w.heap.size+1,3,none⟩) (by show w.heap.size+1+1≠w.heap.size+1;omega) _).far (p:=⟨w.heap.size+1,4,none⟩) (by show w.heap.size+1+1≠w.heap.size+1;omega) _).far (p:=⟨w.heap.size+1,5,none⟩) (by show w.heap.size+1+1≠w.heap.size+1;omega) _).set_ 0 _).set_ 1 _).set_ 2 _).set_ 3 _).set_ 4 _).set_ 5 _)
   have hszw:w2.heap.size=wz.heap.size:=by rw [hw];simp
   clear hw
   have r0:=hb1.cell 0
   have s0:=hb2.cell 0
   have r1:=hb1.cell 1
   have s1:=hb2.cell 1
   have r2:=hb1.cell 2
   have s2:=hb2.cell 2
   have r3:=hb1.cell 3
   have s3:=hb2.cell 3
   have r4:=hb1.cell 4
   have s4:=hb2.cell 4
   have r5:=hb1.cell 5
   have s5:=hb2.cell 5
   have hsz:w2.heap.size=wz.heap.size:=hszw
   rw [HLb.out,HRb.out,HKb.out]
   refine bodyPost_ret (v:=.tuple #[.agg #[.int .i64 n.lvl,.slice D1 n.high.length dj1,.int .i64 n.right,.slice D3 n.keys.length dj3,.slice D4 n.vals.length dj4,.slice D5 n.kids.length dj5],.agg #[.int .i64 0,.slice none 0 0,.int .i64 0,.slice none 0 0,.slice none 0 0,.slice none 0 0],.slice none 0 0]) (by simp [results,Try.results48,go_sem,r0,r1,r2,r3,r4,r5,s0,s1,s2,s3,s4,s5]) rfl ⟨_,_,_,_,_,_,_,_,_,_,_,_,_,rfl,p,by omega,q,hpq,q,Nat.le_refl _,by omega,⟨⟨rfl,?_,rfl⟩,?_,?_,?_⟩,ONd.zero _ _,OBy.nil _ _,K.out.trans K2.out (λ b hb e=>by rcases e with e|e<;>omega)⟩
   ·exact (L1.out.keeps K2.out (λ b _ hs e=>by have:=hs.1;rcases e with e|e<;>omega)).mono (λ b _ hb=>⟨by have:=hb.1;omega,.inl hb.2⟩)
   ·exact (L3.out.keeps K2.out (λ b _ hs e=>by have:=hs.1;rcases e with e|e<;>omega)).mono (λ b _ hb=>⟨by have:=hb.1;omega,.inl hb.2⟩)
   ·exact (L4.out.keeps K2.out (λ b _ hs e=>by have:=hs.1;rcases e with e|e<;>omega)).mono (λ b _ hb=>⟨by have:=hb.1;omega,.inl hb.2⟩)
   ·exact (L5.out.keeps K2.out (λ b _ hs e=>by have:=hs.1;rcases e with e|e<;>omega)).mono (λ b _ hb=>⟨by have:=hb.1;omega,.inl hb.2⟩)
  ·by_cases hv:n.keys.length < n.kids.length-1
   ·have t0:(n.lvl==0)=false:=by simp [hl0]
    have t1:(n.lvl != 0)=true:=by simp [hl0]
    have t2:decide ((n.kids.length:Int) < 2)=false:=decide_eq_false (by omega)
    have t3:(n.keys.length:Int) < (n.kids.length:Int)-1:=by omega
    have hbd:spBad n:=.inr (.inr ⟨hl0,hv⟩)
    have HBD:=Hd hbd
    clear hl0 hbd
    have hl:spL n right=n:=by unfold spL;rw [if_pos HBD.out]
    have hr:spR n=Nd.zero:=by unfold spR;rw [if_pos HBD.out]
    have hkk:spK n=[]:=by unfold spK;rw [if_pos HBD.out]
    have HLb:=Hd hl
    have HRb:=Hd hr
    have HKb:=Hd hkk
    clear hhd hl hr hkk
    have qBN:=λ i=>BN.out.cell i
    have gBN:=λ i=>BN.out.frozen i
    have lBN:=BN.out.lt
    have qBX:=λ i=>BX.out.cell i
    have gBX:=λ i=>BX.out.frozen i
    have lBX:=BX.out.lt
    have qB1:=λ i=>B1.out.cell i
    have gB1:=λ i=>B1.out.frozen i
    have lB1:=B1.out.lt
    have qB2:=λ i=>B2.out.cell i
    have gB2:=λ i=>B2.out.frozen i
    have lB2:=B2.out.lt
    go_wp2
    refine post_at (λ w2 hw=>?_)
    clear qBN gBN lBN qBX gBX lBX qB1 gB1 lB1 qB2 gB2 lB2
    have K2:Hid (Keeps (λ b=>b=w.heap.size+1\/b=w.heap.size+1+1) wz w2):=by rw [hw];exact (((((((((((Keeps.setCell _ (M:=λ b=>b=w.heap.size+1\/b=w.heap.size+1+1) (.inl rfl) _).setCell' (λ _=>.inl rfl) _).setCell' (λ _=>.inl rfl) _).setCell' (λ _=>.inl rfl) _).setCell' (λ _=>.inl rfl) _).setCell' (λ _=>.inl rfl) _).setCell' (λ _=>.inr rfl) _).setCell' (λ _=>.inr rfl) _).setCell' (λ _=>.inr rfl) _).setCell' (λ _=>.inr rfl) _).setCell' (λ _=>.inr rfl) _).setCell' (λ _=>.inr rfl) _
    have hb1:Blk w2 (w.heap.size+1) 75 #[.int .i64 n.lvl,.slice D1 n.high.length dj1,.int .i64 n.right,.slice D3 n.keys.length dj3,.slice D4 n.vals.length dj4,.slice D5 n.kids.length dj5]:=by rw [hw];exact ((((((((((((B1.out.set_ 0 _).set_ 1 _).set_ 2 _).set_ 3 _).set_ 4 _).set_ 5 _).far (p:=⟨w.heap.size+1+1,0,none⟩) (by show w.heap.size+1≠w.heap.size+1+1;omega) _).far (p:=⟨w.heap.size+1+1,1,none⟩) (by show w.heap.size+1≠w.heap.size+1+1;omega) _).far (p:=⟨w.heap.size+1+1,2,none⟩) (by show w.heap.size+1≠w.heap.size+1+1;omega) _).far (p:=⟨w.heap.size+1+1,3,none⟩) (by show w.heap.size+1≠w.heap.size+1+1;omega) _).far (p:=⟨w.heap.size+1+1,4,none⟩) (by show w.heap.size+1≠w.heap.size+1+1;omega) _).far (p:=⟨w.heap.size+1+1,5,none⟩) (by show w.heap.size+1≠w.heap.size+1+1;omega) _)
    have hb2:Blk w2 (w.heap.size+1+1) 75 #[.int .i64 0,.slice none 0 0,.int .i64 0,.slice none 0 0,.slice none 0 0,.slice none 0 0]:=by rw [hw];exact ((((((((((((B2.out.far (p:=⟨w.heap.size+1,0,none⟩) (by show w.heap.size+1+1≠w.heap.size+1;omega) _).far (p:=⟨w.heap.size+1,1,none⟩) (by show w.heap.size+1+1≠w.heap.size+1;omega) _).far (p:=⟨w.heap.size+1,2,none⟩) (by show w.heap.size+1+1≠w.heap.size+1;omega) _).far (p:=⟨w.heap.size+1,3,none⟩) (by show w.heap.size+1+1≠w.heap.size+1;omega) _).far (p:=⟨w.heap.size+1,4,none⟩) (by show w.heap.size+1+1≠w.heap.size+1;omega) _).far (p:=⟨w.heap.size+1,5,none⟩) (by show w.heap.size+1+1≠w.heap.size+1;omega) _).set_ 0 _).set_ 1 _).set_ 2 _).set_ 3 _).set_ 4 _).set_ 5 _)
    have hszw:w2.heap.size=wz.heap.size:=by rw [hw];simp
    clear hw
    have r0:=hb1.cell 0
    have s0:=hb2.cell 0
    have r1:=hb1.cell 1
    have s1:=hb2.cell 1
    have r2:=hb1.cell 2
    have s2:=hb2.cell 2
    have r3:=hb1.cell 3
    have s3:=hb2.cell 3
    have r4:=hb1.cell 4
    have s4:=hb2.cell 4
    have r5:=hb1.cell 5
    have s5:=hb2.cell 5
    have hsz:w2.heap.size=wz.heap.size:=hszw
    rw [HLb.out,HRb.out,HKb.out]
    refine bodyPost_ret (v:=.tuple #[.agg #[.int .i64 n.lvl,.slice D1 n.high.length dj1,.int .i64 n.right,.slice D3 n.keys.length dj3,.slice D4 n.vals.length dj4,.slice D5 n.kids.length dj5],.agg #[.int .i64 0,.slice none 0 0,.int .i64 0,.slice none 0 0,.slice none 0 0,.slice none 0 0],.slice none 0 0]) (by simp [results,Try.results48,go_sem,r0,r1,r2,r3,r4,r5,s0,s1,s2,s3,s4,s5]) rfl ⟨_,_,_,_,_,_,_,_,_,_,_,_,_,rfl,p,by omega,q,hpq,q,Nat.le_refl _,by omega,⟨⟨rfl,?_,rfl⟩,?_,?_,?_⟩,ONd.zero _ _,OBy.nil _ _,K.out.trans K2.out (λ b hb e=>by rcases e with e|e<;>omega)⟩
    ·exact (L1.out.keeps K2.out (λ b _ hs e=>by have:=hs.1;rcases e with e|e<;>omega)).mono (λ b _ hb=>⟨by have:=hb.1;omega,.inl hb.2⟩)
    ·exact (L3.out.keeps K2.out (λ b _ hs e=>by have:=hs.1;rcases e with e|e<;>omega)).mono (λ b _ hb=>⟨by have:=hb.1;omega,.inl hb.2⟩)
    ·exact (L4.out.keeps K2.out (λ b _ hs e=>by have:=hs.1;rcases e with e|e<;>omega)).mono (λ b _ hb=>⟨by have:=hb.1;omega,.inl hb.2⟩)
    ·exact (L5.out.keeps K2.out (λ b _ hs e=>by have:=hs.1;rcases e with e|e<;>omega)).mono (λ b _ hb=>⟨by have:=hb.1;omega,.inl hb.2⟩)
   ·have h2:2*h<=spM n+1/\spM n<=2*h:=by rw [<-hhd];omega
    have hM:spM n=n.kids.length:=by unfold spM;rw [if_neg hl0]
    rw [hM] at h2 hhd
    obtain ⟨h2a,h2b⟩:=h2
    have hbd:¬spBad n:=by unfold spBad;rw [hM];omega
    have hsh:spH n=h:=by unfold spH;rw [hM];exact hhd
    obtain ⟨x,hx⟩:∃ x,n.keys[(h-1)]?=some x:=⟨_,List.getElem?_eq_getElem (by omega)⟩
    have hkk:spK n=x:=by unfold spK;rw [if_neg hbd,if_neg hl0,hsh,List.getD_eq_getElem?_getD,hx];rfl
    have hl:spL n right={n with high:=spK n,right:=right,keys:=n.keys.take (h-1),kids:=n.kids.take h}:=by unfold spL;rw [if_neg hbd,if_neg hl0,hsh]
    have hr:spR n={n with keys:=n.keys.drop h,kids:=n.kids.drop h}:=by unfold spR;rw [if_neg hbd,if_neg hl0,hsh]
    have HL:=Hd hl
    have HRR:=Hd hr
    have HKK:=Hd hkk
    have hsx:Sm 0 1 x.length:=(HS.out.2.1.2 x (List.mem_of_getElem? hx)).mono (by decide)
    have HSX:=Hd hsx
    obtain ⟨ad,rfl,_,hc⟩:=H.out.2.keys.cells (i:=(h-1)) (by omega)
    obtain ⟨u,hu,hbu⟩:=hc _ x hx
    have HU:=Hd (hbu.mono (T:=λ b=>b < w.heap.size) (λ b _ hs=>hs))
    clear hc hbu
    have cR3:=OTx.cap R3.out
    obtain ⟨gR3,oR3,hE⟩:=OTx.some_ R3.out (by omega)
    subst hE
    have cR5:=OIn.cap R5.out
    obtain ⟨gR5,oR5,hE⟩:=OIn.some_ R5.out (by omega)
    subst hE
    have cL3:=OTx.cap L3.out
    have cL5:=OIn.cap L5.out
    have th:((n.kids.length:Int)+1) / 2=(h:Int):=by omega
    have t0:(n.lvl==0)=false:=by simp [hl0]
    have t1:(n.lvl != 0)=true:=by simp [hl0]
    have t2:¬(n.kids.length:Int) < 2:=by omega
    have t3:¬(n.keys.length:Int) < (n.kids.length:Int)-1:=by omega
    have t2b:decide ((n.kids.length:Int) < 2)=false:=decide_eq_false t2
    have t3b:decide ((n.keys.length:Int) < (n.kids.length:Int)-1)=false:=decide_eq_false t3
    have b1:h-1 < n.keys.length:=by omega
    have b2:h<=dj3:=by omega
    have b3:h<=dj5:=by omega
    have b4:h<=n.keys.length:=by omega
    have b5:h<=n.kids.length:=by omega
    obtain ⟨AE,hae⟩:∃ AE:Option Addr,AE=(if ej3=h then some ⟨gR3,oR3,none⟩ else some ⟨gR3,oR3+h,none⟩):=⟨_,rfl⟩
    have HAE:=Hd hae
    clear hae
    have b6:((h:Int)-1)=((h-1:Nat):Int):=by omega
    have b7:h-1<=dj3:=by omega
    have b10:IntKind.i64.wrap ((h-1:Nat):Int)=((h-1:Nat):Int):=by simp [IntKind.wrap,IntKind.bits,IntKind.signed];omega
    have n2:¬ej5=h:=by omega
    have b8:h<=ej3:=by omega
    have b9:h<=ej5:=by omega
    clear hl0 hbd hl hr hkk hhd hsx hx hsh hM
    have qBN:=λ i=>BN.out.cell i
    have gBN:=λ i=>BN.out.frozen i
    have lBN:=BN.out.lt
    go_wp2
    replace HU:=Hd HU.out
    clear qBN gBN lBN
    refine rC_ [0,1,2,3,4,5,6,7,8,9,10,11,12,13,14,15,16,17,18,19] 16 (λ W=>W.cell? ⟨X,3,none⟩=some (.slice D3 n.keys.length dj3)/\W.cell? ⟨X,5,none⟩=some (.slice D5 n.kids.length dj5)) ⟨BX.out.cell 3,BX.out.cell 5⟩ ?_
    refine canon_at (λ w2 hw=>?_)
    have hk:Keeps Nob wz w2:=by rw [hw];exact Keeps.drew _ _
    replace BN:=Hd (BN.out.keeps hk id)
    replace B1:=Hd (B1.out.keeps hk id)
    replace B2:=Hd (B2.out.keeps hk id)
    replace H:=Hd (H.out.keeps hk (λ _ _ _=>id))
    replace L1:=Hd (L1.out.keeps hk (λ _ _ _=>id))
    replace L3:=Hd (L3.out.keeps hk (λ _ _ _=>id))
    replace L4:=Hd (L4.out.keeps hk (λ _ _ _=>id))
    replace L5:=Hd (L5.out.keeps hk (λ _ _ _=>id))
    replace R1:=Hd (R1.out.keeps hk (λ _ _ _=>id))
    replace R3:=Hd (R3.out.keeps hk (λ _ _ _=>id))
    replace R4:=Hd (R4.out.keeps hk (λ _ _ _=>id))
    replace R5:=Hd (R5.out.keeps hk (λ _ _ _=>id))
    replace BX:=Hd (BX.out.keeps hk id)
    replace BY:=Hd (BY.out.keeps hk id)
    replace HU:=Hd (HU.out.keeps hk (λ _ _ _=>id))
    have szw2:=hk.size
    replace K:=tq_ K hk
    clear hw hk
    iterate 16
     refine cR_ (v:=?_) rfl ?_ ?_
     rotate_left
     ·intro W hW
      try (obtain ⟨h0,h1⟩:_/\_:=hW)
      go_simp
      try rfl
     simp only [Act.put,sa_,sb_,sc_]
    have qBX:=λ i=>BX.out.cell i
    have gBX:=λ i=>BX.out.frozen i
    have lBX:=BX.out.lt
    refine cA_ rfl ?_
    go_wp2
    refine ⟨.inl (by kernel_rfl),?_⟩
    refine canon_at (λ w3 hw=>?_)
    have hk:Keeps (λ b=>b=X) w2 w3:=by rw [hw];exact Keeps.setCell _ (M:=λ b=>b=X) rfl _
    have hb:Hid (Blk w3 (X) 75 #[.int .i64 n.lvl,.slice D1 n.high.length dj1,.int .i64 n.right,.slice D3 (h-1) (h-1),.slice D4 n.vals.length dj4,.slice D5 n.kids.length dj5]):=by rw [hw];exact (BX.out.set_ 3 _)
    replace BN:=Hd (BN.out.keeps hk (by show ¬_=_;omega))
    replace B1:=Hd (B1.out.keeps hk (by show ¬_=_;omega))
    replace B2:=Hd (B2.out.keeps hk (by show ¬_=_;omega))
    replace H:=Hd (H.out.keeps hk (λ b _ hb e=>by have h1:b < w.heap.size:=hb;have h2:b=_:=e;omega))
    replace L1:=Hd (L1.out.keepsB BX.out ha hk)
    replace L3:=Hd (L3.out.keepsB BX.out ha hk)
    replace L4:=Hd (L4.out.keepsB BX.out ha hk)
    replace L5:=Hd (L5.out.keepsB BX.out ha hk)
    replace R1:=Hd (R1.out.keepsB BX.out ha hk)
    replace R3:=Hd (R3.out.keepsB BX.out ha hk)
    replace R4:=Hd (R4.out.keepsB BX.out ha hk)
    replace R5:=Hd (R5.out.keepsB BX.out ha hk)
    replace BY:=Hd (BY.out.keeps hk (by show ¬_=_;omega))
    replace HU:=Hd (HU.out.keeps hk (λ b _ hb e=>by have h1:b < w.heap.size:=hb;have h2:b=_:=e;omega))
    replace BX:=hb
    clear hw hb
    have szw3:=hk.size
    replace K:=Hd (K.out.trans hk (λ b hb e=>by subst e;omega))
    clear hk
    clear qBX gBX lBX
    iterate 2
     refine cR_ (v:=?_) rfl ?_ ?_
     rotate_left
     ·intro W hW
      skip
      go_simp
      try rfl
     simp only [Act.put,sa_,sb_,sc_]
    have qBX:=λ i=>BX.out.cell i
    have gBX:=λ i=>BX.out.frozen i
    have lBX:=BX.out.lt
    refine cA_ rfl ?_
    go_wp2
    refine ⟨.inl (by kernel_rfl),wpCanon_nil ?_⟩
    refine then_at (λ w4 hw=>?_)
    have hk:Keeps (λ b=>b=X) w3 w4:=by rw [hw];exact Keeps.setCell _ (M:=λ b=>b=X) rfl _
    have hb:Hid (Blk w4 (X) 75 #[.int .i64 n.lvl,.slice D1 n.high.length dj1,.int .i64 n.right,.slice D3 (h-1) (h-1),.slice D4 n.vals.length dj4,.slice D5 h h]):=by rw [hw];exact (BX.out.set_ 5 _)
    replace BN:=Hd (BN.out.keeps hk (by show ¬_=_;omega))
    replace B1:=Hd (B1.out.keeps hk (by show ¬_=_;omega))
    replace B2:=Hd (B2.out.keeps hk (by show ¬_=_;omega))
    replace H:=Hd (H.out.keeps hk (λ b _ hb e=>by have h1:b < w.heap.size:=hb;have h2:b=_:=e;omega))
    replace L1:=Hd (L1.out.keepsB BX.out ha hk)
    replace L3:=Hd (L3.out.keepsB BX.out ha hk)
    replace L4:=Hd (L4.out.keepsB BX.out ha hk)
    replace L5:=Hd (L5.out.keepsB BX.out ha hk)
    replace R1:=Hd (R1.out.keepsB BX.out ha hk)
    replace R3:=Hd (R3.out.keepsB BX.out ha hk)
    replace R4:=Hd (R4.out.keepsB BX.out ha hk)
    replace R5:=Hd (R5.out.keepsB BX.out ha hk)
    replace BY:=Hd (BY.out.keeps hk (by show ¬_=_;omega))
    replace HU:=Hd (HU.out.keeps hk (λ b _ hb e=>by have h1:b < w.heap.size:=hb;have h2:b=_:=e;omega))
    replace BX:=hb
    clear hw hb
    have szw4:=hk.size
    replace K:=Hd (K.out.trans hk (λ b hb e=>by subst e;omega))
    clear hk
    clear qBX gBX lBX
    go_wp2
    refine rC_ [0,1,2,3,4,5,6,7,8,9,10,11,12,13,14,15] 12 (λ W=>W.cell? ⟨Y,3,none⟩=some (.slice (some ⟨gR3,oR3,none⟩) n.keys.length ej3)/\W.cell? ⟨Y,5,none⟩=some (.slice (some ⟨gR5,oR5,none⟩) n.kids.length ej5)) ⟨BY.out.cell 3,BY.out.cell 5⟩ ?_
    refine canon_at (λ w5 hw=>?_)
    have hk:Keeps Nob w4 w5:=by rw [hw];exact Keeps.drew _ _
    replace BN:=Hd (BN.out.keeps hk id)
    replace B1:=Hd (B1.out.keeps hk id)
    replace B2:=Hd (B2.out.keeps hk id)
    replace H:=Hd (H.out.keeps hk (λ _ _ _=>id))
    replace L1:=Hd (L1.out.keeps hk (λ _ _ _=>id))
    replace L3:=Hd (L3.out.keeps hk (λ _ _ _=>id))
    replace L4:=Hd (L4.out.keeps hk (λ _ _ _=>id))
    replace L5:=Hd (L5.out.keeps hk (λ _ _ _=>id))
    replace R1:=Hd (R1.out.keeps hk (λ _ _ _=>id))
    replace R3:=Hd (R3.out.keeps hk (λ _ _ _=>id))
    replace R4:=Hd (R4.out.keeps hk (λ _ _ _=>id))
    replace R5:=Hd (R5.out.keeps hk (λ _ _ _=>id))
    replace BX:=Hd (BX.out.keeps hk id)
    replace BY:=Hd (BY.out.keeps hk id)
    replace HU:=Hd (HU.out.keeps hk (λ _ _ _=>id))
    have szw5:=hk.size
    replace K:=tq_ K hk
    clear hw hk
    iterate 4
     refine cR_ (v:=?_) rfl ?_ ?_
     rotate_left
     ·intro W hW
      try (obtain ⟨h0,h1⟩:_/\_:=hW)
      go_simp
      try rfl
     simp only [Act.put,sa_,sb_,sc_]
    refine wpCanon_read (v:=.slice AE (n.keys.length-h) (ej3-h)) rfl (by kernel_rfl) (by rfl) ?_ ?_
    ·intro W hW
     go_simp
     exact HAE.out.symm
    simp only [Act.put,sa_,sb_,sc_]
    iterate 7
     refine cR_ (v:=?_) rfl ?_ ?_
     rotate_left
     ·intro W hW
      try (obtain ⟨h0,h1⟩:_/\_:=hW)
      go_simp
      try rfl
     simp only [Act.put,sa_,sb_,sc_]
    have qBY:=λ i=>BY.out.cell i
    have gBY:=λ i=>BY.out.frozen i
    have lBY:=BY.out.lt
    refine cA_ rfl ?_
    go_wp2
    refine ⟨.inl (by kernel_rfl),?_⟩
    refine canon_at (λ w6 hw=>?_)
    have hk:Keeps (λ b=>b=Y) w5 w6:=by rw [hw];exact Keeps.setCell _ (M:=λ b=>b=Y) rfl _
    have hb:Hid (Blk w6 (Y) 75 #[.int .i64 n.lvl,.slice E1 n.high.length ej1,.int .i64 n.right,.slice AE (n.keys.length-h) (ej3-h),.slice E4 n.vals.length ej4,.slice (some ⟨gR5,oR5,none⟩) n.kids.length ej5]):=by rw [hw];exact (BY.out.set_ 3 _)
    replace BN:=Hd (BN.out.keeps hk (by show ¬_=_;omega))
    replace B1:=Hd (B1.out.keeps hk (by show ¬_=_;omega))
    replace B2:=Hd (B2.out.keeps hk (by show ¬_=_;omega))
    replace H:=Hd (H.out.keeps hk (λ b _ hb e=>by have h1:b < w.heap.size:=hb;have h2:b=_:=e;omega))
    replace L1:=Hd (L1.out.keepsB BY.out ha hk)
    replace L3:=Hd (L3.out.keepsB BY.out ha hk)
    replace L4:=Hd (L4.out.keepsB BY.out ha hk)
    replace L5:=Hd (L5.out.keepsB BY.out ha hk)
    replace R1:=Hd (R1.out.keepsB BY.out ha hk)
    replace R3:=Hd (R3.out.keepsB BY.out ha hk)
    replace R4:=Hd (R4.out.keepsB BY.out ha hk)
    replace R5:=Hd (R5.out.keepsB BY.out ha hk)
    replace BX:=Hd (BX.out.keeps hk (by show ¬_=_;omega))
    replace HU:=Hd (HU.out.keeps hk (λ b _ hb e=>by have h1:b < w.heap.size:=hb;have h2:b=_:=e;omega))
    replace BY:=hb
    clear hw hb
    have szw6:=hk.size
    replace K:=Hd (K.out.trans hk (λ b hb e=>by subst e;omega))
    clear hk
    clear qBY gBY lBY
    iterate 2
     refine cR_ (v:=?_) rfl ?_ ?_
     rotate_left
     ·intro W hW
      skip
      go_simp
      try rfl
     simp only [Act.put,sa_,sb_,sc_]
    have qBY:=λ i=>BY.out.cell i
    have gBY:=λ i=>BY.out.frozen i
    have lBY:=BY.out.lt
    refine cA_ rfl ?_
    go_wp2
    refine ⟨.inl (by kernel_rfl),wpCanon_nil ?_⟩
    refine then_at (λ w7 hw=>?_)
    have hk:Keeps (λ b=>b=Y) w6 w7:=by rw [hw];exact Keeps.setCell _ (M:=λ b=>b=Y) rfl _
    have hb:Hid (Blk w7 (Y) 75 #[.int .i64 n.lvl,.slice E1 n.high.length ej1,.int .i64 n.right,.slice AE (n.keys.length-h) (ej3-h),.slice E4 n.vals.length ej4,.slice (some ⟨gR5,oR5+h,none⟩) (n.kids.length-h) (ej5-h)]):=by rw [hw];exact (BY.out.set_ 5 _)
    replace BN:=Hd (BN.out.keeps hk (by show ¬_=_;omega))
    replace B1:=Hd (B1.out.keeps hk (by show ¬_=_;omega))
    replace B2:=Hd (B2.out.keeps hk (by show ¬_=_;omega))
    replace H:=Hd (H.out.keeps hk (λ b _ hb e=>by have h1:b < w.heap.size:=hb;have h2:b=_:=e;omega))
    replace L1:=Hd (L1.out.keepsB BY.out ha hk)
    replace L3:=Hd (L3.out.keepsB BY.out ha hk)
    replace L4:=Hd (L4.out.keepsB BY.out ha hk)
    replace L5:=Hd (L5.out.keepsB BY.out ha hk)
    replace R1:=Hd (R1.out.keepsB BY.out ha hk)
    replace R3:=Hd (R3.out.keepsB BY.out ha hk)
    replace R4:=Hd (R4.out.keepsB BY.out ha hk)
    replace R5:=Hd (R5.out.keepsB BY.out ha hk)
    replace BX:=Hd (BX.out.keeps hk (by show ¬_=_;omega))
    replace HU:=Hd (HU.out.keeps hk (λ b _ hb e=>by have h1:b < w.heap.size:=hb;have h2:b=_:=e;omega))
    replace BY:=hb
    clear hw hb
    have szw7:=hk.size
    replace K:=Hd (K.out.trans hk (λ b hb e=>by subst e;omega))
    clear hk
    clear qBY gBY lBY
    go_wp2
    refine rC_ [0,1,2,3,5,4,6,7,8] 8 (λ W=>W.cell? ⟨w.heap.size,0,none⟩=some (.int .i64 n.lvl)) (BN.out.cell 0) ?_
    refine canon_at (λ w8 hw=>?_)
    have hk:Keeps Nob w7 w8:=by rw [hw];exact Keeps.drew _ _
    replace BN:=Hd (BN.out.keeps hk id)
    replace B1:=Hd (B1.out.keeps hk id)
    replace B2:=Hd (B2.out.keeps hk id)
    replace H:=Hd (H.out.keeps hk (λ _ _ _=>id))
    replace L1:=Hd (L1.out.keeps hk (λ _ _ _=>id))
    replace L3:=Hd (L3.out.keeps hk (λ _ _ _=>id))
    replace L4:=Hd (L4.out.keeps hk (λ _ _ _=>id))
    replace L5:=Hd (L5.out.keeps hk (λ _ _ _=>id))
    replace R1:=Hd (R1.out.keeps hk (λ _ _ _=>id))
    replace R3:=Hd (R3.out.keeps hk (λ _ _ _=>id))
    replace R4:=Hd (R4.out.keeps hk (λ _ _ _=>id))
    replace R5:=Hd (R5.out.keeps hk (λ _ _ _=>id))
    replace BX:=Hd (BX.out.keeps hk id)
    replace BY:=Hd (BY.out.keeps hk id)
    replace HU:=Hd (HU.out.keeps hk (λ _ _ _=>id))
    have szw8:=hk.size
    replace K:=tq_ K hk
    clear hw hk
    iterate 5
     refine cR_ (v:=?_) rfl ?_ ?_
     rotate_left
     ·intro W hW
      try (replace hW:World.cell? _ _=some _:=hW)
      go_simp
      try rfl
     simp only [Act.put,sa_,sb_,sc_]
    refine cA_ rfl ?_
    go_wp2_with (go_at_call 18;refine (cloneB HU.out HSX.out).mono ?_;rintro e w9 ⟨v,rfl,hU,hk⟩)
    obtain ⟨Bw9,jw9,hf⟩:=Own.form hU
    subst hf
    replace BN:=Hd (BN.out.keeps hk id)
    replace B1:=Hd (B1.out.keeps hk id)
    replace B2:=Hd (B2.out.keeps hk id)
    replace H:=Hd (H.out.keeps hk (λ _ _ _=>id))
    replace L1:=Hd (L1.out.keeps hk (λ _ _ _=>id))
    replace L3:=Hd (L3.out.keeps hk (λ _ _ _=>id))
    replace L4:=Hd (L4.out.keeps hk (λ _ _ _=>id))
    replace L5:=Hd (L5.out.keeps hk (λ _ _ _=>id))
    replace R1:=Hd (R1.out.keeps hk (λ _ _ _=>id))
    replace R3:=Hd (R3.out.keeps hk (λ _ _ _=>id))
    replace R4:=Hd (R4.out.keeps hk (λ _ _ _=>id))
    replace R5:=Hd (R5.out.keeps hk (λ _ _ _=>id))
    replace BX:=Hd (BX.out.keeps hk id)
    replace BY:=Hd (BY.out.keeps hk id)
    replace HU:=Hd (HU.out.keeps hk (λ _ _ _=>id))
    have szw9:=hk.size
    replace K:=tq_ K hk
    clear hk
    obtain ⟨s,hs⟩:∃ s,w9.heap.size=s:=⟨_,rfl⟩
    have HH:Hid (OBy w9 (λ b=>q<=b/\b < s) (.slice Bw9 x.length jw9) x):=hU.mono (λ b _ hb=>⟨by have:=hb.1;omega,by have:=hb.2;omega⟩)
    clear hU
    refine ⟨.inr (BN.out.cell 0),?_⟩
    iterate 2
     refine cR_ (v:=?_) rfl ?_ ?_
     rotate_left
     ·intro W hW
      skip
      go_simp
      try rfl
     simp only [Act.put,sa_,sb_,sc_]
    have qBX:=λ i=>BX.out.cell i
    have gBX:=λ i=>BX.out.frozen i
    have lBX:=BX.out.lt
    refine cA_ rfl ?_
    go_wp2
    refine ⟨.inl (by kernel_rfl),wpCanon_nil ?_⟩
    refine then_at (λ w10 hw=>?_)
    have hk:Keeps (λ b=>b=X) w9 w10:=by rw [hw];exact ((Keeps.setCell _ (M:=λ b=>b=X) rfl _).setCell' (λ _=>rfl) _).setCell' (λ _=>rfl) _
    have hb:Hid (Blk w10 (X) 75 #[.int .i64 n.lvl,.slice Bw9 x.length jw9,.int .i64 right,.slice D3 (h-1) (h-1),.slice D4 n.vals.length dj4,.slice D5 h h]):=by rw [hw];exact (((BX.out.set_ 0 _).set_ 1 _).set_ 2 _)
    replace BN:=Hd (BN.out.keeps hk (by show ¬_=_;omega))
    replace B1:=Hd (B1.out.keeps hk (by show ¬_=_;omega))
    replace B2:=Hd (B2.out.keeps hk (by show ¬_=_;omega))
    replace H:=Hd (H.out.keeps hk (λ b _ hb e=>by have h1:b < w.heap.size:=hb;have h2:b=_:=e;omega))
    replace L1:=Hd (L1.out.keepsB BX.out ha hk)
    replace L3:=Hd (L3.out.keepsB BX.out ha hk)
    replace L4:=Hd (L4.out.keepsB BX.out ha hk)
    replace L5:=Hd (L5.out.keepsB BX.out ha hk)
    replace R1:=Hd (R1.out.keepsB BX.out ha hk)
    replace R3:=Hd (R3.out.keepsB BX.out ha hk)
    replace R4:=Hd (R4.out.keepsB BX.out ha hk)
    replace R5:=Hd (R5.out.keepsB BX.out ha hk)
    replace BY:=Hd (BY.out.keeps hk (by show ¬_=_;omega))
    replace HU:=Hd (HU.out.keeps hk (λ b _ hb e=>by have h1:b < w.heap.size:=hb;have h2:b=_:=e;omega))
    replace HH:=Hd (HH.out.keepsB BX.out ha hk)
    replace BX:=hb
    clear hw hb
    have szw10:=hk.size
    replace K:=Hd (K.out.trans hk (λ b hb e=>by subst e;omega))
    clear hk
    clear qBX gBX lBX
    go_wp2
    refine rC_ [0,1,2,3,4,5,6] 5 (λ W=>W.cell? ⟨X,0,none⟩=some (.int .i64 n.lvl)/\W.cell? ⟨X,1,none⟩=some (.slice Bw9 x.length jw9)/\W.cell? ⟨X,2,none⟩=some (.int .i64 right)/\W.cell? ⟨X,3,none⟩=some (.slice D3 (h-1) (h-1))/\W.cell? ⟨X,4,none⟩=some (.slice D4 n.vals.length dj4)/\W.cell? ⟨X,5,none⟩=some (.slice D5 h h)/\W.cell? ⟨Y,0,none⟩=some (.int .i64 n.lvl)/\W.cell? ⟨Y,1,none⟩=some (.slice E1 n.high.length ej1)/\W.cell? ⟨Y,2,none⟩=some (.int .i64 n.right)/\W.cell? ⟨Y,3,none⟩=some (.slice AE (n.keys.length-h) (ej3-h))/\W.cell? ⟨Y,4,none⟩=some (.slice E4 n.vals.length ej4)/\W.cell? ⟨Y,5,none⟩=some (.slice (some ⟨gR5,oR5+h,none⟩) (n.kids.length-h) (ej5-h))) ⟨BX.out.cell 0,BX.out.cell 1,BX.out.cell 2,BX.out.cell 3,BX.out.cell 4,BX.out.cell 5,BY.out.cell 0,BY.out.cell 1,BY.out.cell 2,BY.out.cell 3,BY.out.cell 4,BY.out.cell 5⟩ ?_
    refine canon_at (λ w11 hw=>?_)
    have hk:Keeps Nob w10 w11:=by rw [hw];exact Keeps.drew _ _
    replace BN:=Hd (BN.out.keeps hk id)
    replace B1:=Hd (B1.out.keeps hk id)
    replace B2:=Hd (B2.out.keeps hk id)
    replace H:=Hd (H.out.keeps hk (λ _ _ _=>id))
    replace L1:=Hd (L1.out.keeps hk (λ _ _ _=>id))
    replace L3:=Hd (L3.out.keeps hk (λ _ _ _=>id))
    replace L4:=Hd (L4.out.keeps hk (λ _ _ _=>id))
    replace L5:=Hd (L5.out.keeps hk (λ _ _ _=>id))
    replace R1:=Hd (R1.out.keeps hk (λ _ _ _=>id))
    replace R3:=Hd (R3.out.keeps hk (λ _ _ _=>id))
    replace R4:=Hd (R4.out.keeps hk (λ _ _ _=>id))
    replace R5:=Hd (R5.out.keeps hk (λ _ _ _=>id))
    replace BX:=Hd (BX.out.keeps hk id)
    replace BY:=Hd (BY.out.keeps hk id)
    replace HU:=Hd (HU.out.keeps hk (λ _ _ _=>id))
    replace HH:=Hd (HH.out.keeps hk (λ _ _ _=>id))
    have szw11:=hk.size
    replace K:=tq_ K hk
    clear hw hk
    iterate 3
     refine cR_ (v:=?_) rfl ?_ ?_
     rotate_left
     ·intro W hW
      try (obtain ⟨h0,h1,h2,h3,h4,h5,h6,h7,h8,h9,h10,h11⟩:_/\_/\_/\_/\_/\_/\_/\_/\_/\_/\_/\_:=hW)
      go_simp
      try rfl
     simp only [Act.put,sa_,sb_,sc_]
    refine cA_ rfl ?_
    go_wp2_with (go_at_call 18;refine (cloneB HU.out HSX.out).mono ?_;rintro e w12 ⟨v,rfl,hU,hk⟩)
    obtain ⟨Bw12,jw12,hf⟩:=Own.form hU
    subst hf
    replace BN:=Hd (BN.out.keeps hk id)
    replace B1:=Hd (B1.out.keeps hk id)
    replace B2:=Hd (B2.out.keeps hk id)
    replace H:=Hd (H.out.keeps hk (λ _ _ _=>id))
    replace L1:=Hd (L1.out.keeps hk (λ _ _ _=>id))
    replace L3:=Hd (L3.out.keeps hk (λ _ _ _=>id))
    replace L4:=Hd (L4.out.keeps hk (λ _ _ _=>id))
    replace L5:=Hd (L5.out.keeps hk (λ _ _ _=>id))
    replace R1:=Hd (R1.out.keeps hk (λ _ _ _=>id))
    replace R3:=Hd (R3.out.keeps hk (λ _ _ _=>id))
    replace R4:=Hd (R4.out.keeps hk (λ _ _ _=>id))
    replace R5:=Hd (R5.out.keeps hk (λ _ _ _=>id))
    replace BX:=Hd (BX.out.keeps hk id)
    replace BY:=Hd (BY.out.keeps hk id)
    replace HU:=Hd (HU.out.keeps hk (λ _ _ _=>id))
    replace HH:=Hd (HH.out.keeps hk (λ _ _ _=>id))
    have szw12:=hk.size
    replace K:=tq_ K hk
    clear hk
    have HV:Hid (OBy w12 (λ b=>s<=b) (.slice Bw12 x.length jw12) x):=hU.mono (λ b _ hb=>by have:=hb.1;omega)
    clear hU
    refine ⟨.inr ⟨BX.out.cell 0,BX.out.cell 1,BX.out.cell 2,BX.out.cell 3,BX.out.cell 4,BX.out.cell 5,BY.out.cell 0,BY.out.cell 1,BY.out.cell 2,BY.out.cell 3,BY.out.cell 4,BY.out.cell 5⟩,?_⟩
    have qB1:=λ i=>B1.out.cell i
    have gB1:=λ i=>B1.out.frozen i
    have lB1:=B1.out.lt
    refine cA_ rfl ?_
    go_wp2
    have hk:Keeps (λ b=>b=w.heap.size+1) w12 _:=(((((Keeps.setCell w12 (M:=λ b=>b=w.heap.size+1) (p:=⟨w.heap.size+1,0,none⟩) rfl (.int .i64 n.lvl)).setCell' (p:=⟨w.heap.size+1,1,none⟩) (λ _=>rfl) (.slice Bw9 x.length jw9)).setCell' (p:=⟨w.heap.size+1,2,none⟩) (λ _=>rfl) (.int .i64 right)).setCell' (p:=⟨w.heap.size+1,3,none⟩) (λ _=>rfl) (.slice D3 (h-1) (h-1))).setCell' (p:=⟨w.heap.size+1,4,none⟩) (λ _=>rfl) (.slice D4 n.vals.length dj4)).setCell' (p:=⟨w.heap.size+1,5,none⟩) (λ _=>rfl) (.slice D5 h h)
    refine ⟨.inr ⟨(BX.out.keeps hk (by show ¬_=_;omega)).cell 0,(BX.out.keeps hk (by show ¬_=_;omega)).cell 1,(BX.out.keeps hk (by show ¬_=_;omega)).cell 2,(BX.out.keeps hk (by show ¬_=_;omega)).cell 3,(BX.out.keeps hk (by show ¬_=_;omega)).cell 4,(BX.out.keeps hk (by show ¬_=_;omega)).cell 5,(BY.out.keeps hk (by show ¬_=_;omega)).cell 0,(BY.out.keeps hk (by show ¬_=_;omega)).cell 1,(BY.out.keeps hk (by show ¬_=_;omega)).cell 2,(BY.out.keeps hk (by show ¬_=_;omega)).cell 3,(BY.out.keeps hk (by show ¬_=_;omega)).cell 4,(BY.out.keeps hk (by show ¬_=_;omega)).cell 5⟩,?_⟩
    clear hk
    refine canon_at (λ w14 hw=>?_)
    have hk:Keeps (λ b=>b=w.heap.size+1) w12 w14:=by rw [hw];exact (((((Keeps.setCell _ (M:=λ b=>b=w.heap.size+1) rfl _).setCell' (λ _=>rfl) _).setCell' (λ _=>rfl) _).setCell' (λ _=>rfl) _).setCell' (λ _=>rfl) _).setCell' (λ _=>rfl) _
    have hb:Hid (Blk w14 (w.heap.size+1) 75 #[.int .i64 n.lvl,.slice Bw9 x.length jw9,.int .i64 right,.slice D3 (h-1) (h-1),.slice D4 n.vals.length dj4,.slice D5 h h]):=by rw [hw];exact ((((((B1.out.set_ 0 _).set_ 1 _).set_ 2 _).set_ 3 _).set_ 4 _).set_ 5 _)
    replace BN:=Hd (BN.out.keeps hk (by show ¬_=_;omega))
    replace B2:=Hd (B2.out.keeps hk (by show ¬_=_;omega))
    replace H:=Hd (H.out.keeps hk (λ b _ hb e=>by have h1:b < w.heap.size:=hb;have h2:b=_:=e;omega))
    replace L1:=Hd (L1.out.keepsB B1.out ha hk)
    replace L3:=Hd (L3.out.keepsB B1.out ha hk)
    replace L4:=Hd (L4.out.keepsB B1.out ha hk)
    replace L5:=Hd (L5.out.keepsB B1.out ha hk)
    replace R1:=Hd (R1.out.keepsB B1.out ha hk)
    replace R3:=Hd (R3.out.keepsB B1.out ha hk)
    replace R4:=Hd (R4.out.keepsB B1.out ha hk)
    replace R5:=Hd (R5.out.keepsB B1.out ha hk)
    replace BX:=Hd (BX.out.keeps hk (by show ¬_=_;omega))
    replace BY:=Hd (BY.out.keeps hk (by show ¬_=_;omega))
    replace HU:=Hd (HU.out.keeps hk (λ b _ hb e=>by have h1:b < w.heap.size:=hb;have h2:b=_:=e;omega))
    replace HH:=Hd (HH.out.keepsB B1.out ha hk)
    replace HV:=Hd (HV.out.keepsB B1.out ha hk)
    replace B1:=hb
    clear hw hb
    have szw14:=hk.size
    replace K:=Hd (K.out.trans hk (λ b hb e=>by subst e;omega))
    clear hk
    clear qB1 gB1 lB1
    have qB2:=λ i=>B2.out.cell i
    have gB2:=λ i=>B2.out.frozen i
    have lB2:=B2.out.lt
    refine cA_ rfl ?_
    go_wp2
    refine ⟨.inl (by kernel_rfl),?_⟩
    refine canon_at (λ w15 hw=>?_)
    have hk:Keeps (λ b=>b=w.heap.size+1+1) w14 w15:=by rw [hw];exact (((((Keeps.setCell _ (M:=λ b=>b=w.heap.size+1+1) rfl _).setCell' (λ _=>rfl) _).setCell' (λ _=>rfl) _).setCell' (λ _=>rfl) _).setCell' (λ _=>rfl) _).setCell' (λ _=>rfl) _
    have hb:Hid (Blk w15 (w.heap.size+1+1) 75 #[.int .i64 n.lvl,.slice E1 n.high.length ej1,.int .i64 n.right,.slice AE (n.keys.length-h) (ej3-h),.slice E4 n.vals.length ej4,.slice (some ⟨gR5,oR5+h,none⟩) (n.kids.length-h) (ej5-h)]):=by rw [hw];exact ((((((B2.out.set_ 0 _).set_ 1 _).set_ 2 _).set_ 3 _).set_ 4 _).set_ 5 _)
    replace BN:=Hd (BN.out.keeps hk (by show ¬_=_;omega))
    replace B1:=Hd (B1.out.keeps hk (by show ¬_=_;omega))
    replace H:=Hd (H.out.keeps hk (λ b _ hb e=>by have h1:b < w.heap.size:=hb;have h2:b=_:=e;omega))
    replace L1:=Hd (L1.out.keepsB B2.out ha hk)
    replace L3:=Hd (L3.out.keepsB B2.out ha hk)
    replace L4:=Hd (L4.out.keepsB B2.out ha hk)
    replace L5:=Hd (L5.out.keepsB B2.out ha hk)
    replace R1:=Hd (R1.out.keepsB B2.out ha hk)
    replace R3:=Hd (R3.out.keepsB B2.out ha hk)
    replace R4:=Hd (R4.out.keepsB B2.out ha hk)
    replace R5:=Hd (R5.out.keepsB B2.out ha hk)
    replace BX:=Hd (BX.out.keeps hk (by show ¬_=_;omega))
    replace BY:=Hd (BY.out.keeps hk (by show ¬_=_;omega))
    replace HU:=Hd (HU.out.keeps hk (λ b _ hb e=>by have h1:b < w.heap.size:=hb;have h2:b=_:=e;omega))
    replace HH:=Hd (HH.out.keepsB B2.out ha hk)
    replace HV:=Hd (HV.out.keepsB B2.out ha hk)
    replace B2:=hb
    clear hw hb
    have szw15:=hk.size
    replace K:=Hd (K.out.trans hk (λ b hb e=>by subst e;omega))
    clear hk
    clear qB2 gB2 lB2
    iterate 1
     refine cR_ (v:=?_) rfl ?_ ?_
     rotate_left
     ·intro W hW
      skip
      go_simp
      try rfl
     simp only [Act.put,sa_,sb_,sc_]
    refine wpCanon_nil ?_
    go_wp2
    have r0:=B1.out.cell 0
    have s0:=B2.out.cell 0
    have r1:=B1.out.cell 1
    have s1:=B2.out.cell 1
    have r2:=B1.out.cell 2
    have s2:=B2.out.cell 2
    have r3:=B1.out.cell 3
    have s3:=B2.out.cell 3
    have r4:=B1.out.cell 4
    have s4:=B2.out.cell 4
    have r5:=B1.out.cell 5
    have s5:=B2.out.cell 5
    rw [HL.out,HRR.out,HKK.out]
    refine bodyPost_ret (v:=.tuple #[.agg #[.int .i64 n.lvl,.slice Bw9 x.length jw9,.int .i64 right,.slice D3 (h-1) (h-1),.slice D4 n.vals.length dj4,.slice D5 h h],.agg #[.int .i64 n.lvl,.slice E1 n.high.length ej1,.int .i64 n.right,.slice AE (n.keys.length-h) (ej3-h),.slice E4 n.vals.length ej4,.slice (some ⟨gR5,oR5+h,none⟩) (n.kids.length-h) (ej5-h)],.slice Bw12 x.length jw12]) (by simp [results,Try.results48,go_sem,r0,r1,r2,r3,r4,r5,s0,s1,s2,s3,s4,s5]) rfl ⟨_,_,_,_,_,_,_,_,_,_,_,_,_,rfl,p,by omega,q,hpq,s,by omega,by omega,⟨⟨rfl,?_,rfl⟩,?_,?_,?_⟩,⟨⟨rfl,?_,rfl⟩,?_,?_,?_⟩,?_,K.out⟩
    ·exact HH.out.mono (λ b _ hb=>⟨by have:=hb.1;omega,.inr hb⟩)
    ·exact (L3.out.cut (by omega)).mono (λ b _ hb=>⟨by have:=hb.1;omega,.inl hb.2⟩)
    ·exact (L4.out).mono (λ b _ hb=>⟨by have:=hb.1;omega,.inl hb.2⟩)
    ·exact (L5.out.cut b5).mono (λ b _ hb=>⟨by have:=hb.1;omega,.inl hb.2⟩)
    ·exact R1.out
    ·exact OTx.tailE R3.out b4 HAE.out
    ·exact R4.out
    ·exact R5.out.tail b5
    ·exact HV.out.mono (λ b hb hs=>⟨hs,hb⟩)
end
end Go.Proofs.Ytjcgphhpaenjkaa

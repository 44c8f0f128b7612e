import Derived.Test.YtjcgphhpaenjkaaPkE9
set_option maxHeartbeats 64000000
set_option maxRecDepth 100000
set_option linter.unusedVariables false
namespace Go.Proofs.Ytjcgphhpaenjkaa
open Go.RowKit
def Rq (w0:World) (N6:Nat):Nat->Prop:=λ x=>x < w0.heap.size\/x=N6
def confC (C:Cf):Array Value:=#[.int .i64 C.nodes,.int .i64 C.leaf,.int .i64 C.inner,.int .i64 C.fill,.int .i64 C.block]
structure Oc (w0 w:World) (C:Cf) (k p N6:Nat) (A:Ar) (us:List Pu) (es:List En):Prop where
 la:LaR (Rq w0 N6) w p A
 cq:Cq w0 (λ x=>x < w0.heap.size) C k (1000*k) A us es
 box:Blk w N6 23 (confC C)
 wide:Wide64 A
 far:w0.heap.size<=N6
 old:Keeps Nob w0 w
theorem cc_fit (c:Cf):Cc {fitC c with nodes:=600}:=by
 obtain ⟨h1,h2,h3,h4,h5,h6,h7,h8,h9,h10⟩:=fitC_bd c
 refine ⟨?_,rfl,⟨h3,h4⟩,⟨h5,h6⟩⟩
 unfold confOk
 simp only [Bool.and_eq_true,decide_eq_true_eq]
 omega
theorem Cq.idle {w0:World} {S0:Nat->Prop} {C:Cf} {j c d:Nat} {A:Ar} {us:List Pu} {es:List En} (h:Cq w0 S0 C j c A us es) (hd:c<=d):Cq w0 S0 C j d A us es:=
 ⟨h.sn.idle hd,h.fr,h.kids,h.lvs,h.root,h.wh⟩
theorem Oc.begin {w0 w w':World} {C:Cf} {k p N6 m:Nat} {kv vv:Value} {A:Ar} {us:List Pu} {es:List En} {R:Nat->Prop} {key val:List UInt8} (h:Oc w0 w C k p N6 A us es) (hC:Cc C) (hk:k<=59) (hl:LnR R w' p m C A (Pm.new key val)) (hkv:Byts w0 (λ x=>x < w0.heap.size) kv key) (hvv:Byts w0 (λ x=>x < w0.heap.size) vv val) :
  ∃ u:Pu,u.X=Pm.new key val/\Alc w0 (λ x=>x < w0.heap.size) C k us.length (1000*k+1) w' R p m 988 A (us++[u]) es u:=by
 obtain ⟨u,hX,h1,h2⟩:∃ u:Pu,u.X=Pm.new key val/\u.kv=kv/\u.vv=vv:=⟨{X:=Pm.new key val,Y:=Pm.new key val,kv:=kv,vv:=vv,mx:=0,dx:=0,Sx:=λ _=>False,my:=0,dy:=0,Sy:=λ _=>False},rfl,rfl,rfl⟩
 exact ⟨u,hX,h.cq.begin hC hk hX h1 h2 hkv hvv,by rw [hX];exact hl,h.wide,by simp⟩
theorem drw_ {w w':World} (h:w'=w.drew):Keeps Nob w w':=by rw [h];exact Keeps.drew _ _
def sbA:Addr->Nat->Addr
 | a,0=>a
 | a,j+1=>⟨a.block,a.off+(j+1),none⟩
theorem add_farA (a:Addr) (i j:Nat) (hj:j≠0):a.add (i+j)=⟨(a.add i).block,(a.add i).off+j,none⟩:=by
 rw [<-add_add_]
 generalize a.add i=b
 unfold Addr.add
 rw [if_neg hj]
section
variable {α:Type} {k m:Nat} {R:World->Nat->Array Value->α->Prop} {w w':World} {lo:Nat} {v:Value} {os:List α} {G:Nat->Prop}
theorem rowAt_at {A:Option Addr} {n c i:Nat} {o:α} (h:RowAt k m R w lo (.slice A n c) os) (hi:os[i]?=some o):∃ ad cs,A=some ad/\ad.block < lo/\R w lo cs o/\∀ (j:Nat) x,cs[j]?=some x->w.cell? (sbA (ad.add (i*k)) j)=some x:=by
 obtain ⟨A',c',e,_,_,_,h⟩:=h
 injection e with e1 _ _
 subst e1
 obtain ⟨ad,ea,hlo,hc⟩:=h (by intro e;subst e;simp at hi)
 obtain ⟨cs,ho,hcs⟩:=hc i o hi
 refine ⟨ad,cs,ea,hlo,ho,λ j x hx=>?_⟩
 have:=hcs j x hx
 cases j with
 | zero=>exact this
 | succ j=>rw [add_farA _ _ _ (by omega)] at this;exact this
end
def kidsTo (A:Ar) (i:Nat):Nat:=sumS Kd (A.sl.take i)
theorem kidsTo_succ {A:Ar} {i:Nat} {s:Sl} (h:A.sl[i]?=some s):kidsTo A (i+1)=kidsTo A i+s.nd.kids.length:=by
 unfold kidsTo sumS
 rw [List.take_add_one,h]
 simp [Kd]
theorem kidsTo_le {A:Ar} {i:Nat}:kidsTo A i<=sumS Kd A.sl:=by
 have:sumS Kd A.sl=sumS Kd (A.sl.take i)+sumS Kd (A.sl.drop i):=by
  unfold sumS
  rw [<-List.sum_append_nat,<-List.map_append,List.take_append_drop]
 unfold kidsTo;omega
section
variable {w:World} {v:Value} {os:List E1} {c:Cf}
theorem pcompl_ok (h:E1At w w.heap.size v os) (h0:I64 c.nodes) (h1:I64 c.leaf) (h2:I64 c.inner) (h3:I64 c.fill) (h4:I64 c.block):Calls Try.prog 4 #[cfV c,v] w λ e w'=>e=.returned (.bool true)/\Keeps Nob w w':=by
 have HO:=Hd h
 obtain ⟨SA,sc,hv,hc1,hc2,hc3,_⟩:=h
 subst hv
 have HH:=λ wx=>head14 wx
 have HF:=Hd (λ wx=>fit14 wx c h0 h1 h2 h3 h4)
 have hos:os.length < 3000000000000:=by omega
 clear hc1 hc2 hc3 h0 h1 h2 h3 h4
 unfold cfV at *
 go_enter Try.func4,Try.ntmps4
 go_upto_region 1 with (fail)
 refine code_at (λ w1 hw=>?_)
 have hk1:Keeps Nob w w1:=by rw [hw];exact Keeps.alloc Nob _ _
 obtain ⟨N,hN⟩:∃ N,w.heap.size=N:=⟨_,rfl⟩
 have hb:Blk w1 N 23 #[.int .i64 c.nodes,.int .i64 c.leaf,.int .i64 c.inner,.int .i64 c.fill,.int .i64 c.block]:=by rw [hw,<-hN];exact Blk.new _ _ _
 rw [hN]
 clear hw hN
 have HK:=Hd hk1
 have HBL:=Hd hb
 clear hk1 hb
 go_wp2_with fail
 refine (HH _).mono ?_
 rintro e w2 ⟨rfl,hk⟩
 replace HK:=tq_ HK hk
 replace HBL:=Hd (HBL.out.keeps hk id)
 have q0:w2.cell? ⟨N,0,none⟩=some (.int .i64 c.nodes):=HBL.out.cell 0
 have q1:w2.cell? ⟨N,1,none⟩=some (.int .i64 c.leaf):=HBL.out.cell 1
 have q2:w2.cell? ⟨N,2,none⟩=some (.int .i64 c.inner):=HBL.out.cell 2
 have q3:w2.cell? ⟨N,3,none⟩=some (.int .i64 c.fill):=HBL.out.cell 3
 have q4:w2.cell? ⟨N,4,none⟩=some (.int .i64 c.block):=HBL.out.cell 4
 clear hk HH HBL
 go_wp2_with fail
 clear q0 q1 q2 q3 q4
 refine (HF.out _).mono ?_
 rintro e w3 ⟨rfl,hk⟩
 replace HK:=tq_ HK hk
 clear HF hk
 have HC:=Hd (cc_fit c)
 obtain ⟨C0,hC0⟩:∃ C,fitC c=C:=⟨_,rfl⟩
 rw [hC0] at HC ⊢
 clear hC0
 go_upto_region 3 with (fail)
 refine code_at (λ w4 hw=>?_)
 have hk4:Keeps Nob w3 w4:=by rw [hw];exact Keeps.alloc Nob _ _
 obtain ⟨N6,hN6⟩:∃ N,w3.heap.size=N:=⟨_,rfl⟩
 have hb6:Blk w4 N6 23 (confC C0):=by rw [hw,<-hN6];exact Blk.new _ _ _
 have HNL:Hid (w.heap.size<=N6/\N6 < w4.heap.size):=⟨by rw [<-hN6];exact HK.out.size,hb6.lt⟩
 rw [hN6]
 clear hw hN6
 replace HK:=Hd (HK.out.trans hk4 (λ _ _ h=>h))
 have HB6:=Hd hb6
 clear hk4 hb6
 have q0:w4.cell? ⟨N6,0,none⟩=some (.int .i64 C0.nodes):=HB6.out.cell 0
 have g0:=HB6.out.frozen 0
 go_upto_region 4 with (fail)
 refine code_at (λ w5 hw=>?_)
 have hk5:Keeps (λ x=>x=N6) w4 w5:=by rw [hw];exact Keeps.setCell _ (M:=λ x=>x=N6) rfl _
 obtain ⟨C,hC⟩:∃ C,{C0 with nodes:=600}=C:=⟨_,rfl⟩
 have hb5:Blk w5 N6 23 (confC C):=by rw [hw,<-hC];exact HB6.out.set_ 0 _
 rw [hC] at HC
 have HN5:Hid (w5.heap.size=w4.heap.size):=by rw [hw];exact Hd (by simp)
 replace HK:=Hd (HK.out.trans hk5 (λ x hx e=>by have e2:x=N6:=e;have:=HNL.out.1;omega))
 replace HB6:=Hd hb5
 clear hw hk5 hb5 q0 g0 hC
 have FN:=LaR.new (R:=Rq w N6) 600 (by decide) (by decide) w5 (λ x hx=>by rcases hx with h|h;exact Nat.lt_of_lt_of_le h HK.out.size;rw [h,HN5.out];exact HNL.out.2)
 unfold iV pV at FN
 have q0:w5.cell? ⟨N6,0,none⟩=some (.int .i64 600):=by rw [HB6.out.cell 0];show some (Value.int .i64 C.nodes)=_;rw [HC.out.nodes]
 go_wp2_with fail
 clear q0
 refine FN.mono ?_
 rintro e w6 ⟨p,rfl,hla,hk⟩
 replace HK:=tq_ HK hk
 replace HB6:=Hd (HB6.out.keeps hk id)
 have HS:Hid (Oc w w6 C 0 p N6 (ar0 600) [] []):=Hd ⟨hla,Cq.start 0 HC.out,HB6.out,λ s hs=>by rw [show s=⟨0,Nd.zero⟩ from List.mem_singleton.1 hs];exact ⟨(k64_small (x:=0) (by decide) (by decide):K64 0),λ k hk=>absurd hk List.not_mem_nil⟩,HNL.out.1,HK.out⟩
 clear FN hla hk HK HB6 HNL HN5
 go_wp2
 go_loopw [9] (λ i wr=>∃ k:Nat,k<=os.length/\k<=60/\i=.int .i64 k/\∃ A us es,Oc w wr C k p N6 A us es) (λ i _=>60-(intOf i).toNat)
 case atStart=>exact ⟨0,Nat.zero_le _,Nat.zero_le _,rfl,_,_,_,HS.out⟩
 clear HS
 obtain ⟨k,hk,hk60,rfl,A,us,es,hs⟩:=hrel
 have HS:=Hd hs
 clear hs
 by_cases hlt:k < os.length/\k < 60
 ·obtain ⟨hlt,h60⟩:=hlt
  obtain ⟨o,ho⟩:∃ o,os[k]?=some o:=⟨_,List.getElem?_eq_getElem hlt⟩
  obtain ⟨ad,cs,rfl,hlo,hop,hcs⟩:=rowAt_at HO.out ho
  obtain ⟨kv,vv,rfl,⟨hkey,hval⟩,zk,zv⟩:=hop
  obtain ⟨KA,kc,rfl,_,_⟩:=hkey.form
  obtain ⟨VA,vc,rfl,_,_⟩:=hval.form
  have HKEY:=Hd hkey
  have HVAL:=Hd hval
  have HZ:=Hd (And.intro zk zv)
  have HCL:Hid (∀ W,Keeps Nob w W->W.cell? (ad.add (k*2))=some (.slice KA o.key.length kc)/\W.cell? ⟨(ad.add (k*2)).block,(ad.add (k*2)).off+1,none⟩=some (.slice VA o.val.length vc)):=Hd (λ W hW=>⟨hW.cell (hcs 0 _ rfl) id,hW.cell (hcs 1 _ rfl) id⟩)
  clear hcs hlo ho hkey hval zk zv
  obtain ⟨e0,e1⟩:=HCL.out wr HS.out.old
  have HB:=Hd HS.out.box
  have HL:=Hd HS.out.la
  go_upto_region 10 with (fail)
  refine rC_ [0,1,2,3,4,5,6,7,8,9,10,11,12,13] 99 (λ W=>W.cell? (ad.add (k*2))=some (.slice KA o.key.length kc)/\W.cell? ⟨(ad.add (k*2)).block,(ad.add (k*2)).off+1,none⟩=some (.slice VA o.val.length vc)/\W.cell? ⟨N6,0,none⟩=some (.int .i64 C.nodes)/\W.cell? ⟨N6,1,none⟩=some (.int .i64 C.leaf)/\W.cell? ⟨N6,2,none⟩=some (.int .i64 C.inner)/\W.cell? ⟨N6,3,none⟩=some (.int .i64 C.fill)/\W.cell? ⟨N6,4,none⟩=some (.int .i64 C.block)) ?_ ?_
  ·exact ⟨e0,e1,HB.out.cell 0,HB.out.cell 1,HB.out.cell 2,HB.out.cell 3,HB.out.cell 4⟩
  refine canon_at (λ w7 hw=>?_)
  have hk7:Keeps Nob wr w7:=by rw [hw];exact Keeps.drew _ _
  have HK6:=Hd hk7
  replace HB:=Hd (HB.out.keeps hk7 id)
  replace HL:=Hd (HL.out.nob hk7)
  clear hw hk7 e0 e1
  iterate 12
   refine cR_ (v:=?_) rfl ?_ ?_
   rotate_left
   ·intro W hW
    try (obtain ⟨z1,z2,z3,z4,z5,z6,z7⟩:_/\_/\_/\_/\_/\_/\_:=hW)
    go_simp
    try rfl
   simp only [Act.put,sa_,sb_,sc_]
  refine cA_ rfl ?_
  have hk7:=HS.out.old.trans HK6.out (λ _ _ h=>h)
  have FN:=HL.out.put (C:=C) (HKEY.out.keeps hk7 (λ _ _ _=>id)) (HVAL.out.keeps hk7 (λ _ _ _=>id)) (HZ.out.1.mono (by decide)) (HZ.out.2.mono (by decide))
  unfold pV at FN
  clear hk7
  go_wp2_with (go_at_call 8;refine FN.mono ?_;rintro e w8 ⟨m,rfl,hl,hk8⟩)
  replace HK6:=Hd (HK6.out.trans hk8 (λ _ _ h=>h))
  replace HB:=Hd (HB.out.keeps hk8 id)
  obtain ⟨u,hX,ha⟩:=HS.out.begin HC.out (by omega) hl HKEY.out HVAL.out
  have HX:=Hd hX
  have HA:=Hd ha
  clear FN hl hk8 hX ha HL
  have hk7:=HS.out.old.trans HK6.out (λ _ _ h=>h)
  refine ⟨.inr ⟨(HCL.out w8 hk7).1,(HCL.out w8 hk7).2,HB.out.cell 0,HB.out.cell 1,HB.out.cell 2,HB.out.cell 3,HB.out.cell 4⟩,?_⟩
  clear hk7
  iterate 1
   refine cR_ (v:=?_) rfl ?_ ?_
   rotate_left
   ·intro W hW
    try (obtain ⟨z1,z2,z3,z4,z5,z6,z7⟩:_/\_/\_/\_/\_/\_/\_:=hW)
    go_simp
    try rfl
   simp only [Act.put,sa_,sb_,sc_]
  refine wpCanon_nil ?_
  have hnx:=(pnew_nx o.key o.val).1
  have FA:=aloneC HA.out HC.out (by omega) (by omega) (by rw [HX.out];omega) (by rw [HX.out];rcases Nat.lt_or_ge (Pm.new o.key o.val).nx 1 with h|h;rw [show (Pm.new o.key o.val).nx=0 by omega];rfl;rw [show (Pm.new o.key o.val).nx=1 by omega];rfl)
  unfold pV at FA
  clear hnx
  go_wp2_with fail
  refine FA.mono ?_
  rintro e w9 ⟨n,B,A2,us2,es2,u2,rfl,hn6,h20,ha2,hkr⟩
  have HS2:Hid (Oc w w9 C (k+1) p N6 A2 us2 es2):=Hd ⟨ha2.ln.arena,(ha2.run.done h20).idle (by omega),HB.out.keeps hkr (λ hn=>hn (.inr rfl)),ha2.wide,HS.out.far,(HS.out.old.trans HK6.out (λ _ _ h=>h)).trans hkr (λ x hx hn=>hn (.inl hx))⟩
  clear FA h20 ha2 hkr HA HX HB HK6 HCL HKEY HVAL HZ
  go_wp2
  go_roundw
  case rel=>exact ⟨k+1,by omega,by omega,by go_num,A2,us2,es2,HS2.out⟩
  case measure=>simp [intOf];omega
 ·have hrep:=HS.out.cq.report HC.out
  have FC:=HS.out.la.check (C:=C) HS.out.wide
  obtain ⟨r,hr⟩:∃ r,checkM A C.nodes C.leaf C.inner C.fill C.block=r:=⟨_,rfl⟩
  rw [hr] at FC hrep
  clear hr
  obtain ⟨r1,r2,r3,r4,r5,r6⟩:=r
  obtain ⟨e1,e5⟩:=hrep
  have e1:r1=true:=e1
  have e5:r5=A.sl.length:=e5
  subst e1 e5
  unfold pV rpV at FC
  have hle:=kidsTo_le (A:=A) (i:=A.sl.length)
  have hkid:=HS.out.cq.kids
  have h600:A.sl.length<=600:=by
   obtain ⟨V,lv,ls,es',hD,_⟩:=HS.out.cq.wh
   have:=hD.room;have:=HC.out.nodes;omega
  have HB:=Hd HS.out.box
  have q0:wr.cell? ⟨N6,0,none⟩=some (.int .i64 C.nodes):=HB.out.cell 0
  have q1:wr.cell? ⟨N6,1,none⟩=some (.int .i64 C.leaf):=HB.out.cell 1
  have q2:wr.cell? ⟨N6,2,none⟩=some (.int .i64 C.inner):=HB.out.cell 2
  have q3:wr.cell? ⟨N6,3,none⟩=some (.int .i64 C.fill):=HB.out.cell 3
  have q4:wr.cell? ⟨N6,4,none⟩=some (.int .i64 C.block):=HB.out.cell 4
  rcases Nat.lt_or_ge k os.length with h1|h1
  focus
   have h2:¬k < 60:=λ h=>hlt ⟨h1,h⟩
   clear hlt
   go_wp2_with fail
  rotate_left
  focus
   clear hlt
   go_wp2_with fail
  all_goals
   refine FC.mono ?_
   rintro e w15 ⟨rfl,hk15⟩
   clear FC q0 q1 q2 q3 q4 HB h1
   have f0:=(Blk.new w15 42 #[.bool false,.int .i64 0,.int .i64 0,.int .i64 0,.int .i64 0,.int .i64 0]).frozen 0
   have z0:=(Blk.new w15 42 #[.bool false,.int .i64 0,.int .i64 0,.int .i64 0,.int .i64 0,.int .i64 0]).cell 0
   have f1:=λ (v0:Value)=>((Blk.new w15 42 #[.bool false,.int .i64 0,.int .i64 0,.int .i64 0,.int .i64 0,.int .i64 0]).set_ 0 v0).frozen 1
   have z1:=λ (v0:Value)=>((Blk.new w15 42 #[.bool false,.int .i64 0,.int .i64 0,.int .i64 0,.int .i64 0,.int .i64 0]).set_ 0 v0).cell 1
   have f2:=λ (v0 v1:Value)=>(((Blk.new w15 42 #[.bool false,.int .i64 0,.int .i64 0,.int .i64 0,.int .i64 0,.int .i64 0]).set_ 0 v0).set_ 1 v1).frozen 2
   have z2:=λ (v0 v1:Value)=>(((Blk.new w15 42 #[.bool false,.int .i64 0,.int .i64 0,.int .i64 0,.int .i64 0,.int .i64 0]).set_ 0 v0).set_ 1 v1).cell 2
   have f3:=λ (v0 v1 v2:Value)=>((((Blk.new w15 42 #[.bool false,.int .i64 0,.int .i64 0,.int .i64 0,.int .i64 0,.int .i64 0]).set_ 0 v0).set_ 1 v1).set_ 2 v2).frozen 3
   have z3:=λ (v0 v1 v2:Value)=>((((Blk.new w15 42 #[.bool false,.int .i64 0,.int .i64 0,.int .i64 0,.int .i64 0,.int .i64 0]).set_ 0 v0).set_ 1 v1).set_ 2 v2).cell 3
   have f4:=λ (v0 v1 v2 v3:Value)=>(((((Blk.new w15 42 #[.bool false,.int .i64 0,.int .i64 0,.int .i64 0,.int .i64 0,.int .i64 0]).set_ 0 v0).set_ 1 v1).set_ 2 v2).set_ 3 v3).frozen 4
   have z4:=λ (v0 v1 v2 v3:Value)=>(((((Blk.new w15 42 #[.bool false,.int .i64 0,.int .i64 0,.int .i64 0,.int .i64 0,.int .i64 0]).set_ 0 v0).set_ 1 v1).set_ 2 v2).set_ 3 v3).cell 4
   have f5:=λ (v0 v1 v2 v3 v4:Value)=>((((((Blk.new w15 42 #[.bool false,.int .i64 0,.int .i64 0,.int .i64 0,.int .i64 0,.int .i64 0]).set_ 0 v0).set_ 1 v1).set_ 2 v2).set_ 3 v3).set_ 4 v4).frozen 5
   have z5:=λ (v0 v1 v2 v3 v4:Value)=>((((((Blk.new w15 42 #[.bool false,.int .i64 0,.int .i64 0,.int .i64 0,.int .i64 0,.int .i64 0]).set_ 0 v0).set_ 1 v1).set_ 2 v2).set_ 3 v3).set_ 4 v4).cell 5
   go_upto_region 15 with (fail)
   clear f0 z0 f1 z1 f2 z2 f3 z3 f4 z4 f5 z5
   obtain ⟨NR,hNR⟩:∃ N,w15.heap.size=N:=⟨_,rfl⟩
   rw [hNR]
   refine code_at (λ w16 hw=>?_)
   have hb:Blk w16 NR 42 #[.bool true,.int .i64 r2,.int .i64 r3,.int .i64 r4,.int .i64 A.sl.length,.int .i64 r6]:=by rw [hw,<-hNR];exact Blk.new _ _ _
   have hkz:Keeps Nob w15 w16:=by rw [hw];exact Keeps.alloc _ _ _
   have HLA:Hid (LaR (Rq w N6) w16 p A):=Hd ((HS.out.la.nob hk15).nob hkz)
   have HKK:Hid (Keeps Nob w w16):=Hd ((HS.out.old.trans hk15 (λ _ _ h=>h)).trans hkz (λ _ _ h=>h))
   have HR:=Hd hb
   have HG:Hid (∀ (i:Nat) s,A.sl[i]?=some s->A.get ((i:Int)+1)=some s):=Hd (λ i s hs=>by
    unfold Ar.get
    rw [if_pos (by omega),show ((i:Int)+1-1).toNat=i by omega]
    exact hs)
   have HTOT:Hid (kidsTo A A.sl.length+1=A.sl.length):=Hd (by unfold kidsTo;rw [List.take_length];exact hkid)
   clear hw hb hkz hk15 hNR hle hkid HS HO HC hk
   go_wp2
   go_loopw [13,14] (λ kv iv wt=>∃ i:Nat,i<=A.sl.length/\kv=.int .i64 (kidsTo A i)/\iv=.int .i64 ((i:Int)+1)/\LaR (Rq w N6) wt p A/\Blk wt NR 42 #[.bool true,.int .i64 r2,.int .i64 r3,.int .i64 r4,.int .i64 A.sl.length,.int .i64 r6]/\Keeps Nob w wt) (λ _ iv _=>700-(intOf iv).toNat)
   case atStart=>exact ⟨0,Nat.zero_le _,by simp [kidsTo,sumS],rfl,HLA.out,HR.out,HKK.out⟩
   clear HLA HR HKK
   obtain ⟨i,hi,rfl,rfl,hla,hbr,hkr⟩:=hrel
   have HLA:=Hd hla
   have HR:=Hd hbr
   have HKK:=Hd hkr
   have FU:=hla.used
   unfold pV iV at FU
   clear hla hbr hkr
   by_cases hlt2:i < A.sl.length
   ·obtain ⟨s,hs⟩:∃ s,A.sl[i]?=some s:=⟨_,List.getElem?_eq_getElem hlt2⟩
    have hg:=HG.out i s hs
    have FB:=HLA.out.body (ix:=(i:Int)+1)
    rw [show opErr A ((i:Int)+1)=0 by unfold opErr;rw [hg],opNd_some hg] at FB
    have hsum:=kidsTo_succ hs
    have hle2:kidsTo A (i+1)<=600:=by
     have h1:=kidsTo_le (A:=A) (i:=i+1)
     have h2:=HTOT.out
     have h3:kidsTo A A.sl.length=sumS Kd A.sl:=by unfold kidsTo;rw [List.take_length]
     omega
    have HSUM:=Hd hsum
    have hkb:(kidsTo A i:Int)+s.nd.kids.length<=600:=by omega
    have hik:(i:Int)+1<=A.sl.length:=by omega
    unfold pV iV at FB
    clear hs hg hsum hle2
    go_wp2_with (go_at_call 13;refine FU.mono ?_;rintro e wu ⟨rfl,rfl⟩)
    refine FB.mono ?_
    rintro e w19 ⟨d0,d1,d2,rfl,ho,hk19⟩
    obtain ⟨Y3,j3,f3⟩:=OTx.form ho.keys
    obtain ⟨Y4,j4,f4⟩:=OTx.form ho.vals
    obtain ⟨Y5,j5,f5⟩:=Own.form ho.kids
    subst f3 f4 f5
    replace HLA:=Hd (HLA.out.nob hk19)
    replace HR:=Hd (HR.out.keeps hk19 id)
    replace HKK:=Hd (HKK.out.trans hk19 (λ _ _ h=>h))
    clear FB FU ho hk19
    have f0:=(Blk.new w19 49 #[.slice none 0 0,.slice none 0 0,.slice none 0 0]).frozen 0
    have z0:=(Blk.new w19 49 #[.slice none 0 0,.slice none 0 0,.slice none 0 0]).cell 0
    have f1:=λ (v0:Value)=>((Blk.new w19 49 #[.slice none 0 0,.slice none 0 0,.slice none 0 0]).set_ 0 v0).frozen 1
    have z1:=λ (v0:Value)=>((Blk.new w19 49 #[.slice none 0 0,.slice none 0 0,.slice none 0 0]).set_ 0 v0).cell 1
    have f2:=λ (v0 v1:Value)=>(((Blk.new w19 49 #[.slice none 0 0,.slice none 0 0,.slice none 0 0]).set_ 0 v0).set_ 1 v1).frozen 2
    have z2:=λ (v0 v1:Value)=>(((Blk.new w19 49 #[.slice none 0 0,.slice none 0 0,.slice none 0 0]).set_ 0 v0).set_ 1 v1).cell 2
    go_upto_region 20 with (fail)
    clear f0 z0 f1 z1 f2 z2
    obtain ⟨NB,hNB⟩:∃ N,w19.heap.size=N:=⟨_,rfl⟩
    rw [hNB]
    refine code_at (λ w20 hw=>?_)
    have hb:Blk w20 NB 49 #[.slice Y3 s.nd.keys.length j3,.slice Y4 s.nd.vals.length j4,.slice Y5 s.nd.kids.length j5]:=by rw [hw,<-hNB];exact Blk.new _ _ _
    have hkz:Keeps Nob w19 w20:=by rw [hw];exact Keeps.alloc _ _ _
    replace HLA:=Hd (HLA.out.nob hkz)
    replace HR:=Hd (HR.out.keeps hkz id)
    replace HKK:=Hd (HKK.out.trans hkz (λ _ _ h=>h))
    have z2:=hb.cell 2
    clear hw hkz hNB
    go_wp2
    go_roundw
    case rel=>exact ⟨i+1,by omega,by rw [HSUM.out];go_num,by go_num,HLA.out,HR.out,HKK.out⟩
    case measure=>simp [intOf];omega
   ·obtain rfl:i=A.sl.length:=by omega
    go_wp2_with (go_at_call 13;refine FU.mono ?_;rintro e wu ⟨rfl,rfl⟩)
    refine rC_ [0,1,2,3,4,5,6,7,8,9,10,11,12,13,14,15,16] 99 (λ W=>W.cell? ⟨NR,0,none⟩=some (.bool true)/\W.cell? ⟨NR,4,none⟩=some (.int .i64 A.sl.length)) ⟨HR.out.cell 0,HR.out.cell 4⟩ ?_
    refine canon_at (λ w21 hw=>?_)
    have hk21:=drw_ hw
    replace HLA:=Hd (HLA.out.nob hk21)
    replace HR:=Hd (HR.out.keeps hk21 id)
    replace HKK:=Hd (HKK.out.trans hk21 (λ _ _ h=>h))
    have hws:IntKind.i64.wrap ((A.sl.length:Int)-1)=(kidsTo A A.sl.length:Int):=by
     have:=HTOT.out
     rw [IntKind.wrap_i64];omega
    clear hw hk21 FU
    have FU:=HLA.out.used
    unfold pV iV at FU
    iterate 6
     refine cR_ (v:=?_) rfl ?_ ?_
     rotate_left
     ·intro W hW
      try (obtain ⟨z1,z2⟩:_/\_:=hW)
      go_simp
      try rfl
     simp only [Act.put,sa_,sb_,sc_]
    refine cA_ rfl ?_
    go_wp2_with (go_at_call 13;refine FU.mono ?_;rintro e wu ⟨rfl,rfl⟩)
    refine ⟨.inr ⟨HR.out.cell 0,HR.out.cell 4⟩,?_⟩
    iterate 5
     refine cR_ (v:=?_) rfl ?_ ?_
     rotate_left
     ·intro W hW
      try (obtain ⟨z1,z2⟩:_/\_:=hW)
      go_simp
      try rfl
     simp only [Act.put,sa_,sb_,sc_]
    refine cA_ rfl ?_
    go_wp2_with (go_at_call 13;refine FU.mono ?_;rintro e wu ⟨rfl,rfl⟩)
    refine ⟨.inr ⟨HR.out.cell 0,HR.out.cell 4⟩,?_⟩
    iterate 4
     refine cR_ (v:=?_) rfl ?_ ?_
     rotate_left
     ·intro W hW
      try (obtain ⟨z1,z2⟩:_/\_:=hW)
      go_simp
      try simp only [hws,decide_true]
      try rfl
     simp only [Act.put,sa_,sb_,sc_]
    refine wpCanon_nil ?_
    go_wp2
    go_ret
    exact ⟨rfl,HKK.out⟩
end
end Go.Proofs.Ytjcgphhpaenjkaa

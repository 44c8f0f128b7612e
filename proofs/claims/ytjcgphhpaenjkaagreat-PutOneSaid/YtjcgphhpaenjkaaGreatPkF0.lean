import Derived.Test.YtjcgphhpaenjkaaGreatPkE9
import Derived.Test.YtjcgphhpaenjkaaGreatPkA6
import Derived.Test.YtjcgphhpaenjkaaGreatPkD7
import Derived.Test.YtjcgphhpaenjkaaGreatPkE8
import Derived.Test.YtjcgphhpaenjkaaGreatPkE3
import Derived.BigQuiet
import Derived.Deep.Cut
set_option maxHeartbeats 64000000
set_option maxRecDepth 100000
set_option linter.unusedVariables false
namespace Go.Proofs.YtjcgphhpaenjkaaGreat
open Go.RowKit
def Rk (w0:World) (N6:Nat) (mv:Value):Nat->Prop:=λ x=>x < w0.heap.size\/x=N6\/mv.ownBlock=some x
def confC (C:Cf):Array Value:=#[.int .i64 C.nodes,.int .i64 C.leaf,.int .i64 C.inner,.int .i64 C.fill,.int .i64 C.block]
structure Ost (w0 w:World) (C:Cf) (k p N6:Nat) (mv:Value) (A:Ar) (us:List Pu) (es:List En):Prop where
 la:LaR (Rk w0 N6 mv) w p A
 sn:Sn14 w0 (λ x=>x < w0.heap.size) C (1000*k) A us es
 fr:∀ ix s,A.get ix=some s->s.word % 2=0/\Two s.nd
 row:Own w (λ x=>mv.ownBlock=some x) 46 2 mv es.length (enCells es)
 box:Blk w N6 23 (confC C)
 wide:Wide64 A
 far:w0.heap.size<=N6/\¬mv.ownBlock=some N6
 len:us.length<=k
 old:Keeps Nob w0 w
theorem new_nx (key val:List UInt8):(Pm.new key val).nx<=1/\(Pm.new key val).level=0/\(Pm.new key val).there=false/\(Pm.new key val).sep=key/\((Pm.new key val).nx=0 ↔ ¬(keyFit key=true/\valFit val=true))/\((Pm.new key val).nx=1->(Pm.new key val).D=some (Mc.new key 0)):=by
 unfold Pm.new
 split
 ·rename_i h
  exact ⟨Nat.le_refl _,rfl,rfl,rfl,⟨λ e=>(by cases e),λ e=>absurd h e⟩,λ _=>rfl⟩
 ·rename_i h
  exact ⟨Nat.zero_le _,rfl,rfl,rfl,⟨λ _=>h,λ _=>rfl⟩,λ e=>(by cases e)⟩
theorem Ost.begin {w0 w w':World} {C:Cf} {k p N6 m:Nat} {mv kv vv:Value} {A:Ar} {us:List Pu} {es:List En} {R:Nat->Prop} {key val:List UInt8} (h:Ost w0 w C k p N6 mv A us es) (hC:Cf14 C) (hl:LnR R w' p m C A (Pm.new key val)) (hk:Byts w0 (λ x=>x < w0.heap.size) kv key) (hv:Byts w0 (λ x=>x < w0.heap.size) vv val) :
  ∃ u:Pu,u.X=Pm.new key val/\Alo w0 (λ x=>x < w0.heap.size) C us.length A es ⟨kv,vv,key,val⟩ (1000*k+1) w' R p m 600 A (us++[u]) es u:=by
 obtain ⟨u,hX,hkv,hvv⟩:∃ u:Pu,u.X=Pm.new key val/\u.kv=kv/\u.vv=vv:=⟨{X:=Pm.new key val,Y:=Pm.new key val,kv:=kv,vv:=vv,mx:=0,dx:=0,Sx:=λ _=>False,my:=0,dy:=0,Sy:=λ _=>False},rfl,rfl,rfl⟩
 obtain ⟨n1,n2,n3,n4,n5,n6⟩:=new_nx key val
 have hS:=h.sn.new (u:=u) hX hkv hvv hk hv
 have hf:FreeOk A u.X:=⟨λ ix s hs _=>h.fr ix s hs,twos_no (.inl (by rw [hX];omega))⟩
 have hat:(us++[u])[us.length]?=some u:=by simp
 have hkey:u.X.key=key/\u.X.val=val:=by rw [hX];unfold Pm.new;split<;>exact ⟨rfl,rfl⟩
 refine ⟨u,hX,hS,hat,by rw [hX];exact hl,hf,?_,?_,by rw [hkv,hvv,hkey.1,hkey.2],h.wide,by simp⟩
 ·rcases Nat.eq_zero_or_pos u.X.nx with hz|hz
  ·unfold Bud;rw [hz];show 1<=600;decide
  ·have h1:u.X.nx=1:=by rw [hX] at hz ⊢;omega
   have hlev:u.X.level=0:=by rw [hX];exact n2
   have:=Bud.start hS hC (List.mem_of_getElem? hat) hf h1 (by rw [hX] at h1 ⊢;rw [n6 h1,n4,n2]) (by rw [hlev];exact Int.le_refl _)
   rw [hlev] at this
   exact this
 ·exact .low (by rw [hX];omega) (by rw [hX,n2];omega) rfl rfl (by rw [hX];exact n3) (λ hz=>by rw [hX] at hz;exact n5.1 hz)
section
variable {w:World} {v:Value} {os:List E1} {c:Cf}
theorem pone_ok (h:E1At w w.heap.size v os) (h0:I64 c.nodes) (h1:I64 c.leaf) (h2:I64 c.inner) (h3:I64 c.fill) (h4:I64 c.block):Calls Tryz.prog 9 #[cfV c,v] w λ e w'=>e=.returned (.bool true)/\Keeps Nob w w':=by
 have HO:=Hd h
 obtain ⟨SA,sc,hv,hc1,hc2,hc3,_⟩:=h
 subst hv
 have HH:=λ wx=>head14 wx
 have HF:=Hd (λ wx=>fit14 wx c h0 h1 h2 h3 h4)
 have hos:os.length < 3000000000000:=by omega
 clear hc1 hc2 hc3 h0 h1 h2 h3 h4
 unfold cfV at *
 go_enter Tryz.func9,Tryz.ntmps9
 go_upto_region 1 with (fail)
 refine code_at (λ w1 hw=>?_)
 have hk1:Keeps Nob w w1:=by rw [hw];exact Keeps.alloc Nob _ _
 obtain ⟨N,hN⟩:∃ N,w.heap.size=N:=⟨_,rfl⟩
 have hb:Blk w1 N 23 #[.int .i64 c.nodes,.int .i64 c.leaf,.int .i64 c.inner,.int .i64 c.fill,.int .i64 c.block]:=by rw [hw,<-hN];exact Blk.new _ _ _
 rw [hN]
 clear hw hN
 have HK:=Hd hk1
 have HBL:=Hd hb
 clear hk1 hb
 go_wp2_with fail
 refine (HH _).mono ?_
 rintro e w2 ⟨rfl,hk⟩
 replace HK:=tq_ HK hk
 replace HBL:=Hd (HBL.out.keeps hk id)
 have q0:w2.cell? ⟨N,0,none⟩=some (.int .i64 c.nodes):=HBL.out.cell 0
 have q1:w2.cell? ⟨N,1,none⟩=some (.int .i64 c.leaf):=HBL.out.cell 1
 have q2:w2.cell? ⟨N,2,none⟩=some (.int .i64 c.inner):=HBL.out.cell 2
 have q3:w2.cell? ⟨N,3,none⟩=some (.int .i64 c.fill):=HBL.out.cell 3
 have q4:w2.cell? ⟨N,4,none⟩=some (.int .i64 c.block):=HBL.out.cell 4
 clear hk HH HBL
 go_wp2_with fail
 clear q0 q1 q2 q3 q4
 refine (HF.out _).mono ?_
 rintro e w3 ⟨rfl,hk⟩
 replace HK:=tq_ HK hk
 clear HF hk
 obtain ⟨z1,z2,_⟩:=fitC_bd c
 obtain ⟨n0,hn0⟩:∃ n:Nat,(fitC c).nodes.toNat=n:=⟨_,rfl⟩
 have HC:=Hd (cf14_fit c)
 have hni:(n0:Int)=(fitC c).nodes:=by omega
 obtain ⟨C,hC⟩:∃ C,fitC c=C:=⟨_,rfl⟩
 rw [hC] at HC hni z1 z2 ⊢
 clear hC hn0
 go_upto_region 3 with (fail)
 refine code_at (λ w4 hw=>?_)
 have hk4:Keeps Nob w3 w4:=by rw [hw];exact Keeps.alloc Nob _ _
 obtain ⟨N6,hN6⟩:∃ N,w3.heap.size=N:=⟨_,rfl⟩
 have hb6:Blk w4 N6 23 (confC C):=by rw [hw,<-hN6];exact Blk.new _ _ _
 have HNL:Hid (w.heap.size<=N6/\N6 < w4.heap.size):=⟨by rw [<-hN6];exact HK.out.size,hb6.lt⟩
 rw [hN6]
 clear hw hN6
 replace HK:=Hd (HK.out.trans hk4 (λ _ _ h=>h))
 have HB6:=Hd hb6
 clear hk4 hb6
 have q0:w4.cell? ⟨N6,0,none⟩=some (.int .i64 n0):=by rw [hni];exact HB6.out.cell 0
 have FN:=LaR.new (R:=Rk w N6 (.slice none 0 0)) n0 (by omega) (by omega) w4 (λ x hx=>by rcases hx with h|h|h;exact Nat.lt_of_lt_of_le h HK.out.size;rw [h];exact HNL.out.2;cases h)
 unfold iV pV at FN
 have HNI:=Hd hni
 clear hni z1 z2
 go_wp2_with fail
 clear q0
 refine FN.mono ?_
 rintro e w5 ⟨p,rfl,hla,hk⟩
 replace HK:=tq_ HK hk
 replace HB6:=Hd (HB6.out.keeps hk id)
 have HS:Hid (Ost w w5 C 0 p N6 (.slice none 0 0) (ar0 n0) [] []):=Hd ⟨hla,Sn14.start 0 HC.out HNI.out,λ ix s hs=>by
  have:s=⟨0,Nd.zero⟩:=by
   obtain ⟨i,_,h2,_⟩:=get_some hs
   exact List.mem_singleton.1 (List.mem_of_getElem? h2)
  rw [this];exact ⟨rfl,λ hh=>absurd rfl hh⟩,Own.nil _ _ _ _,HB6.out,λ s hs=>by rw [show s=⟨0,Nd.zero⟩ from List.mem_singleton.1 hs];exact ⟨(k64_small (x:=0) (by decide) (by decide):K64 0),λ k hk=>absurd hk List.not_mem_nil⟩,⟨HNL.out.1,λ h=>by cases h⟩,Nat.le_refl _,HK.out⟩
 clear FN hla hk HK HB6 HNL HNI
 go_wp2
 go_loopw [9,10] (λ mz i wr=>∃ k:Nat,k<=os.length/\i=.int .i64 k/\∃ mv A us es,mv=mz/\Ost w wr C k p N6 mv A us es) (λ _ i _=>os.length-(intOf i).toNat)
 case atStart=>exact ⟨0,Nat.zero_le _,rfl,_,_,_,_,rfl,HS.out⟩
 clear HS
 obtain ⟨k,hk,rfl,mv,A,us,es,rfl,hs⟩:=hrel
 have HS:=Hd hs
 clear hs
 rcases Nat.lt_or_ge k os.length with hlt|hlt
 ·obtain ⟨o,ho⟩:∃ o,os[k]?=some o:=⟨_,List.getElem?_eq_getElem hlt⟩
  obtain ⟨ad,cs,rfl,hlo,hop,hcs⟩:=HO.out.at_ ho
  obtain ⟨kv,vv,rfl,⟨hkey,hval⟩,zk,zv⟩:=hop
  obtain ⟨KA,kc,rfl,_,_⟩:=hkey.form
  obtain ⟨VA,vc,rfl,_,_⟩:=hval.form
  have HKEY:=Hd hkey
  have HVAL:=Hd hval
  have HZ:=Hd (And.intro zk zv)
  have HCL:Hid (∀ W,Keeps Nob w W->W.cell? (ad.add (k*2))=some (.slice KA o.key.length kc)/\W.cell? ⟨(ad.add (k*2)).block,(ad.add (k*2)).off+1,none⟩=some (.slice VA o.val.length vc)):=Hd (λ W hW=>⟨hW.cell (hcs 0 _ rfl) id,hW.cell (hcs 1 _ rfl) id⟩)
  clear hcs hlo ho hkey hval zk zv
  have FW:=HS.out.la.words (by have h1:=HC.out.nodes;obtain ⟨_,_,_,hD⟩:=HS.out.sn.dinv;have:=hD.room;omega)
  unfold pV at FW
  go_wp2_with (go_at_call 55;refine FW.mono ?_;rintro e w6 ⟨wv,rfl,how,hk6⟩)
  obtain ⟨WA,wc,rfl⟩:=how.form
  have HW:=Hd (Own.self how)
  have HWF:Hid (∀ x,(Value.slice WA A.sl.length wc).ownBlock=some x->wr.heap.size<=x/\x < w6.heap.size):=Hd (λ x hx=>Own.blk how hx)
  obtain ⟨R1,hR1⟩:∃ R1:Nat->Prop,R1=λ x=>Rk w N6 mv x\/(Value.slice WA A.sl.length wc).ownBlock=some x:=⟨_,rfl⟩
  have HR1:=Hd hR1
  have HL:Hid (LaR R1 w6 p A):=Hd (HS.out.la.take hk6 (λ x hx=>by rw [hR1] at hx;exact hx.imp id (λ h=>HWF.out x h)))
  have HK6:=Hd hk6
  clear FW hk6 how hR1
  have hk7:=HS.out.old.trans HK6.out (λ _ _ h=>h)
  obtain ⟨e0,e1⟩:=HCL.out w6 hk7
  have HB:=Hd (HS.out.box.keeps HK6.out id)
  clear hk7
  refine rC_ [0,1,2,3,4,5,6,7,8,9,10,11,12,13] 99 (λ W=>W.cell? (ad.add (k*2))=some (.slice KA o.key.length kc)/\W.cell? ⟨(ad.add (k*2)).block,(ad.add (k*2)).off+1,none⟩=some (.slice VA o.val.length vc)/\W.cell? ⟨N6,0,none⟩=some (.int .i64 C.nodes)/\W.cell? ⟨N6,1,none⟩=some (.int .i64 C.leaf)/\W.cell? ⟨N6,2,none⟩=some (.int .i64 C.inner)/\W.cell? ⟨N6,3,none⟩=some (.int .i64 C.fill)/\W.cell? ⟨N6,4,none⟩=some (.int .i64 C.block)) ?_ ?_
  ·exact ⟨e0,e1,HB.out.cell 0,HB.out.cell 1,HB.out.cell 2,HB.out.cell 3,HB.out.cell 4⟩
  refine canon_at (λ w7 hw=>?_)
  have hk7:Keeps Nob w6 w7:=by rw [hw];exact Keeps.drew _ _
  replace HK6:=Hd (HK6.out.trans hk7 (λ _ _ h=>h))
  replace HB:=Hd (HB.out.keeps hk7 id)
  replace HL:=Hd (HL.out.nob hk7)
  replace HW:=Hd (HW.out.keeps hk7 (λ _ _ _=>id))
  clear hw hk7 e0 e1
  iterate 12
   refine cR_ (v:=?_) rfl ?_ ?_
   rotate_left
   ·intro W hW
    try (obtain ⟨z1,z2,z3,z4,z5,z6,z7⟩:_/\_/\_/\_/\_/\_/\_:=hW)
    go_simp
    try rfl
   simp only [Act.put,sa_,sb_,sc_]
  refine cA_ rfl ?_
  have hk7:=HS.out.old.trans HK6.out (λ _ _ h=>h)
  have FN:=HL.out.put (C:=C) (HKEY.out.keeps hk7 (λ _ _ _=>id)) (HVAL.out.keeps hk7 (λ _ _ _=>id)) (HZ.out.1.mono (by decide)) (HZ.out.2.mono (by decide))
  unfold pV at FN
  clear hk7
  go_wp2_with (go_at_call 47;refine FN.mono ?_;rintro e w8 ⟨m,rfl,hl,hk8⟩)
  replace HK6:=Hd (HK6.out.trans hk8 (λ _ _ h=>h))
  replace HB:=Hd (HB.out.keeps hk8 id)
  replace HW:=Hd (HW.out.keeps hk8 (λ _ _ _=>id))
  obtain ⟨u,hX,ha⟩:=HS.out.begin HC.out hl HKEY.out HVAL.out
  have HX:=Hd hX
  have HA:=Hd ha
  clear FN hl hk8 hX ha HL
  have hk7:=HS.out.old.trans HK6.out (λ _ _ h=>h)
  refine ⟨.inr ⟨(HCL.out w8 hk7).1,(HCL.out w8 hk7).2,HB.out.cell 0,HB.out.cell 1,HB.out.cell 2,HB.out.cell 3,HB.out.cell 4⟩,?_⟩
  clear hk7
  iterate 1
   refine cR_ (v:=?_) rfl ?_ ?_
   rotate_left
   ·intro W hW
    try (obtain ⟨z1,z2,z3,z4,z5,z6,z7⟩:_/\_/\_/\_/\_/\_/\_:=hW)
    go_simp
    try rfl
   simp only [Act.put,sa_,sb_,sc_]
  refine wpCanon_nil ?_
  have hnx:=new_nx o.key o.val
  have FA:=aloneR HA.out HC.out (by omega) (by rw [HX.out];omega) (by rw [HX.out];rcases Nat.lt_or_ge (Pm.new o.key o.val).nx 1 with h|h;rw [show (Pm.new o.key o.val).nx=0 by omega];rfl;rw [show (Pm.new o.key o.val).nx=1 by omega];rfl)
  unfold pV at FA
  clear hnx
  go_wp2_with fail
  refine FA.mono ?_
  rintro e w9 ⟨n,B,A2,us2,es2,u2,rfl,hn6,hz1,h20,ha2,hkr⟩
  clear FA
  have hnr:∀ x,x < w.heap.size->¬¬R1 x:=λ x hx hn=>hn (by rw [HR1.out];exact .inl (.inl hx))
  have HK9:Hid (Keeps Nob w w9):=Hd ((HS.out.old.trans HK6.out (λ _ _ h=>h)).trans hkr (λ x hx hn=>(hnr x hx hn).elim))
  have HROW:Hid (Own w9 (λ x=>mv.ownBlock=some x) 46 2 mv es.length (enCells es)):=Hd ((HS.out.row.keeps HK6.out (λ _ _ _=>id)).keeps hkr (λ x _ hx hn=>hn (by rw [HR1.out];exact .inl (.inr (.inr hx)))))
  have HWW:Hid (Own w9 (λ x=>(Value.slice WA A.sl.length wc).ownBlock=some x) 54 1 (.slice WA A.sl.length wc) A.sl.length (A.sl.map wV)):=Hd (HW.out.keeps hkr (λ x _ hx hn=>hn (by rw [HR1.out];exact .inr hx)))
  replace HB:=Hd (HB.out.keeps hkr (λ hn=>hn (by rw [HR1.out];exact .inl (.inr (.inl rfl)))))
  have HLA:Hid (LaR (Rk w N6 mv) w9 p A2):=by
   obtain ⟨G,hJ,hR⟩:=ha2.ln.arena
   exact ⟨G,hJ,λ x hx hr=>hR x hx (by rw [HR1.out];exact .inl hr)⟩
  have FB:=ha2.ln.ask
  rw [show u2.X.out=(u2.X.there,u2.X.err) by unfold Pm.out;rw [if_pos h20]] at FB
  have HS2:=Hd ha2.sn
  have HWD:=Hd ha2.wide
  have HSZ:=Hd ha2.sz
  have HEV:=Hd (ha2.free.even (holds_no (.inr (.inr (.inr (by omega))))))
  have HFAR:=Hd HS.out.far
  have HFR:Hid (∀ ix s,A2.get ix=some s->s.word % 2=0/\Two s.nd):=Hd (λ ix s hs=>ha2.free.free ix s hs (by rw [holds_no (.inr (.inr (.inr (by omega))))];exact List.not_mem_nil))
  have HEL:Hid (heldFrom 1 A2.sl=[]):=Hd (ha2.free.held (.inr (.inr (.inr (by omega)))))
  have ht:=ha2.tale
  unfold Tale at ht
  rw [if_pos h20] at ht
  obtain ⟨th,hth⟩:∃ x,u2.X.there=x:=⟨_,rfl⟩
  obtain ⟨er,her⟩:∃ x,u2.X.err=x:=⟨_,rfl⟩
  rw [hth,her] at ht FB
  have HZ1:Hid (¬Fit2 ⟨.slice KA o.key.length kc,.slice VA o.val.length vc,o.key,o.val⟩->n=1):=Hd (λ hf=>hz1 (by rw [HX.out];exact (new_nx o.key o.val).2.2.2.2.1.2 hf))
  have FK:=λ wx h=>keyFitR (w:=wx) (S:=λ b=>b < w.heap.size) (a:=.slice KA o.key.length kc) (x:=o.key) h
  have FV:=λ wx h=>valFitR (w:=wx) (S:=λ b=>b < w.heap.size) (vv:=.slice VA o.val.length vc) (val:=o.val) h
  clear hkr hth her h20 ha2 HA HX hz1 hnr HR1 HWF HW HK6
  unfold iV at FB
  have hus:us.length<=k:=HS.out.len
  have hes:es.length<=us.length:=Nat.le_trans HS.out.sn.len (List.length_filter_le _ _)
  have HTX:=Hd HS.out.sn.txt
  go_wp2_with fail
  refine FB.mono ?_
  rintro e w10 ⟨rfl,hk10⟩
  replace HK9:=Hd (HK9.out.trans hk10 (λ _ _ h=>h))
  replace HROW:=Hd (HROW.out.keeps hk10 (λ _ _ _=>id))
  replace HWW:=Hd (HWW.out.keeps hk10 (λ _ _ _=>id))
  replace HB:=Hd (HB.out.keeps hk10 id)
  replace HLA:=Hd (HLA.out.nob hk10)
  clear FB hk10
  have FHS:=hasER (key:=o.key) HROW.out (λ e he=>(HTX.out e he).1.keeps HK9.out (λ _ _ _=>id)) (HKEY.out.keeps HK9.out (λ _ _ _=>id)) (by omega)
  obtain ⟨e0,e1⟩:=HCL.out w10 HK9.out
  have hkw:=HKEY.out.keeps HK9.out (λ _ _ _=>id)
  have hvw:=HVAL.out.keeps HK9.out (λ _ _ _=>id)
  have hlen:A2.sl.length<=65536:=by have h1:=HC.out.nodes;obtain ⟨_,_,_,hD⟩:=HS2.out.dinv;have:=hD.room;omega
  rcases ht with ⟨rfl,rfl,t3,t4,t5⟩|⟨rfl,rfl,t3,t4,t5,t6,t7⟩|⟨rfl,t2,t3,t4⟩
  focus
   have hn1:=HZ1.out t5
   subst hn1 t3 t4
   have hc:keyFit o.key=false\/(keyFit o.key=true/\valFit o.val=false):=by
    cases h1:keyFit o.key with
    | false=>exact .inl rfl
    | true=>
     cases h2:valFit o.val with
     | false=>exact .inr ⟨rfl,rfl⟩
     | true=>exact absurd ⟨h1,h2⟩ t5
   clear t5 HZ1
   rcases hc with hf|⟨hf,hg⟩
   all_goals
    rw [hf] at FK
    try rw [hg] at FV
    clear hf
    try clear hg
    go_wp2_with (first|(go_at_call 27;refine (FK _ hkw).mono ?_;rintro e wk ⟨rfl,rfl⟩)|(go_at_call 50;refine (FV _ hvw).mono ?_;rintro e wk ⟨rfl,rfl⟩))
    refine FHS.mono ?_
    rintro e w11 ⟨rfl,hk11⟩
    replace HK9:=Hd (HK9.out.trans hk11 (λ _ _ h=>h))
    replace HROW:=Hd (HROW.out.keeps hk11 (λ _ _ _=>id))
    replace HB:=Hd (HB.out.keeps hk11 id)
    replace HLA:=Hd (HLA.out.nob hk11)
    replace HWW:=Hd (HWW.out.keeps hk11 (λ _ _ _=>id))
    clear hk11 FHS FK FV hkw hvw e0 e1
    have FW2:=HLA.out.words hlen
    unfold pV at FW2
    go_wp2_with fail
    refine FW2.mono ?_
    rintro e w12 ⟨wv2,rfl,how2,hk12⟩
    obtain ⟨WB,wd,rfl⟩:=how2.form
    replace HK9:=Hd (HK9.out.trans hk12 (λ _ _ h=>h))
    replace HROW:=Hd (HROW.out.keeps hk12 (λ _ _ _=>id))
    replace HB:=Hd (HB.out.keeps hk12 id)
    replace HLA:=Hd (HLA.out.nob hk12)
    replace HWW:=Hd (HWW.out.keeps hk12 (λ _ _ _=>id))
    clear hk12 FW2
    have FSW:=sameWR (l:=A2.sl) rfl HWW.out how2 hlen
    clear how2
    go_wp2_with fail
    refine FSW.mono ?_
    rintro e wz ⟨rfl,hk13⟩
    replace HK9:=Hd (HK9.out.trans hk13 (λ _ _ h=>h))
    replace HROW:=Hd (HROW.out.keeps hk13 (λ _ _ _=>id))
    replace HB:=Hd (HB.out.keeps hk13 id)
    replace HLA:=Hd (HLA.out.nob hk13)
    clear hk13 FSW HWW
    go_wp2_with fail
  rotate_left 2
  focus
   have hf:keyFit o.key=true:=t7.1
   have hg:valFit o.val=true:=t7.2
   clear t7
   rw [hf] at FK
   rw [hg] at FV
   rw [t3] at FHS
   subst t6
   have hfull:(A2.nodes:Int)-A2.sl.length=0:=by omega
   have HT4:=Hd t4
   have HLN:=Hd hlen
   clear hf hg t3 t5 HZ1 t4 hlen
   go_wp2_with (first|(go_at_call 27;refine (FK _ hkw).mono ?_;rintro e wk ⟨rfl,rfl⟩)|(go_at_call 50;refine (FV _ hvw).mono ?_;rintro e wk ⟨rfl,rfl⟩))
   refine FHS.mono ?_
   rintro e w11 ⟨rfl,hk11⟩
   replace HK9:=Hd (HK9.out.trans hk11 (λ _ _ h=>h))
   replace HROW:=Hd (HROW.out.keeps hk11 (λ _ _ _=>id))
   replace HB:=Hd (HB.out.keeps hk11 id)
   replace HLA:=Hd (HLA.out.nob hk11)
   replace HWW:=Hd (HWW.out.keeps hk11 (λ _ _ _=>id))
   clear hk11 FHS FK FV hkw hvw e0 e1
   have FW2:=HLA.out.words HLN.out
   rw [HT4.out] at FW2
   unfold pV at FW2
   go_wp2_with fail
   refine FW2.mono ?_
   rintro e w12 ⟨wv2,rfl,how2,hk12⟩
   obtain ⟨WB,wd,rfl⟩:=how2.form
   replace HK9:=Hd (HK9.out.trans hk12 (λ _ _ h=>h))
   replace HROW:=Hd (HROW.out.keeps hk12 (λ _ _ _=>id))
   replace HB:=Hd (HB.out.keeps hk12 id)
   replace HLA:=Hd (HLA.out.nob hk12)
   replace HWW:=Hd (HWW.out.keeps hk12 (λ _ _ _=>id))
   clear hk12 FW2
   have FSW:=sameWR (l:=A.sl) rfl HWW.out how2 (by rw [<-HT4.out];exact HLN.out)
   clear how2
   go_wp2_with fail
   refine FSW.mono ?_
   rintro e w13 ⟨rfl,hk13⟩
   replace HK9:=Hd (HK9.out.trans hk13 (λ _ _ h=>h))
   replace HROW:=Hd (HROW.out.keeps hk13 (λ _ _ _=>id))
   replace HB:=Hd (HB.out.keeps hk13 id)
   replace HLA:=Hd (HLA.out.nob hk13)
   clear hk13 FSW HWW
   have FL:=HLA.out.left
   rw [hfull] at FL
   unfold pV iV at FL
   clear hfull
   go_wp2_with fail
   refine FL.mono ?_
   rintro e wz ⟨rfl,hk14⟩
   replace HK9:=Hd (HK9.out.trans hk14 (λ _ _ h=>h))
   replace HROW:=Hd (HROW.out.keeps hk14 (λ _ _ _=>id))
   replace HB:=Hd (HB.out.keeps hk14 id)
   replace HLA:=Hd (HLA.out.nob hk14)
   clear hk14 FL HT4 HLN
   go_wp2_with fail
  rotate_left
  focus
   have hf:keyFit o.key=true:=t4.1
   have hg:valFit o.val=true:=t4.2
   clear t4
   rw [hf] at FK
   rw [hg] at FV
   obtain ⟨hd,hhd⟩:∃ x,hasE es o.key=x:=⟨_,rfl⟩
   rw [hhd] at t2 FHS
   subst t2
   clear hf hg hhd HZ1
   go_wp2_with (first|(go_at_call 27;refine (FK _ hkw).mono ?_;rintro e wk ⟨rfl,rfl⟩)|(go_at_call 50;refine (FV _ hvw).mono ?_;rintro e wk ⟨rfl,rfl⟩))
   refine FHS.mono ?_
   rintro e w11 ⟨rfl,hk11⟩
   replace HK9:=Hd (HK9.out.trans hk11 (λ _ _ h=>h))
   replace HROW:=Hd (HROW.out.keeps hk11 (λ _ _ _=>id))
   replace HB:=Hd (HB.out.keeps hk11 id)
   replace HLA:=Hd (HLA.out.nob hk11)
   replace HWW:=Hd (HWW.out.keeps hk11 (λ _ _ _=>id))
   clear hk11 FHS FK FV hkw hvw e0 e1 HWW
   have hbb:(th != th)=false:=by cases th<;>rfl
   go_wp2_with fail
   clear hbb
   obtain ⟨e0,e1⟩:=HCL.out w11 HK9.out
   refine rC_ [0,1,2,3,4,5,6,7,8,9,10,11,12] 99 (λ W=>W.cell? (ad.add (k*2))=some (.slice KA o.key.length kc)/\W.cell? ⟨(ad.add (k*2)).block,(ad.add (k*2)).off+1,none⟩=some (.slice VA o.val.length vc)) ?_ ?_
   ·exact ⟨e0,e1⟩
   refine canon_at (λ w12 hw=>?_)
   have hk12:Keeps Nob w11 w12:=by rw [hw];exact Keeps.drew _ _
   replace HK9:=Hd (HK9.out.trans hk12 (λ _ _ h=>h))
   replace HROW:=Hd (HROW.out.keeps hk12 (λ _ _ _=>id))
   replace HB:=Hd (HB.out.keeps hk12 id)
   replace HLA:=Hd (HLA.out.nob hk12)
   clear hw hk12 e0 e1
   iterate 11
    refine cR_ (v:=?_) rfl ?_ ?_
    rotate_left
    ·intro W hW
     try (obtain ⟨z1,z2⟩:_/\_:=hW)
     go_simp
     try rfl
    simp only [Act.put,sa_,sb_,sc_]
   refine cA_ rfl ?_
   have HBX:Hid (N6 < w12.heap.size):=HB.out.lt
   have FM:=setR (S:=λ x=>x < w.heap.size) HROW.out (λ e he=>⟨(HTX.out e he).1.keeps HK9.out (λ _ _ _=>id),(HTX.out e he).2.keeps HK9.out (λ _ _ _=>id)⟩) (HKEY.out.keeps HK9.out (λ _ _ _=>id)) (HVAL.out.keeps HK9.out (λ _ _ _=>id)) (by omega)
   rw [<-t3] at FM
   go_wp2_with (go_at_call 51;refine FM.mono ?_;rintro e wz ⟨mv2,rfl,ho2,hk13⟩)
   replace HK9:=Hd (HK9.out.trans hk13 (λ _ _ h=>h))
   replace HB:=Hd (HB.out.keeps hk13 id)
   replace HLA:Hid (LaR (Rk w N6 mv2) wz p A2):=Hd (HLA.out.take hk13 (λ x hx=>by rcases hx with h|h|h;exact .inl (.inl h);exact .inl (.inr (.inl h));exact .inr (ho2.blk h).1))
   replace HFAR:Hid (w.heap.size<=N6/\¬mv2.ownBlock=some N6):=Hd ⟨HFAR.out.1,λ h=>by have h1:=(ho2.blk h).1.1;have h2:=HBX.out;omega⟩
   replace HROW:=Hd ho2.self
   obtain ⟨e0,e1⟩:=HCL.out wz HK9.out
   refine ⟨.inr ⟨e0,e1⟩,?_⟩
   clear e0 e1 ho2 hk13 FM t3 hes
   iterate 1
    refine cR_ (v:=?_) rfl ?_ ?_
    rotate_left
    ·intro W hW
     try (obtain ⟨z1,z2⟩:_/\_:=hW)
     go_simp
     try rfl
    simp only [Act.put,sa_,sb_,sc_]
   refine wpCanon_nil ?_
   obtain ⟨mv,hmv⟩:∃ x,x=mv2:=⟨_,rfl⟩
   subst hmv
   go_wp2_with fail
  all_goals
   have FH:=HLA.out.held
   unfold pV at FH
   refine FH.mono ?_
   rintro e w14 ⟨hv,rfl,ho,hk14⟩
   rw [HEL.out] at ho
   obtain ⟨XA,xc,rfl⟩:=Own.form ho
   replace HK9:=Hd (HK9.out.trans hk14 (λ _ _ h=>h))
   replace HROW:=Hd (HROW.out.keeps hk14 (λ _ _ _=>id))
   replace HB:=Hd (HB.out.keeps hk14 id)
   replace HLA:=Hd (HLA.out.nob hk14)
   clear FH ho hk14
   rw [List.length_nil]
   have HSD:=Hd (HS2.out.sound HC.out HEV.out)
   have FC:=HLA.out.check (C:=C) HWD.out
   obtain ⟨r,hr⟩:∃ r,checkM A2 C.nodes C.leaf C.inner C.fill C.block=r:=⟨_,rfl⟩
   rw [hr] at FC HSD
   unfold pV rpV at FC
   rw [HSD.out.1] at FC
   clear hr
   have q0:w14.cell? ⟨N6,0,none⟩=some (.int .i64 C.nodes):=HB.out.cell 0
   have q1:w14.cell? ⟨N6,1,none⟩=some (.int .i64 C.leaf):=HB.out.cell 1
   have q2:w14.cell? ⟨N6,2,none⟩=some (.int .i64 C.inner):=HB.out.cell 2
   have q3:w14.cell? ⟨N6,3,none⟩=some (.int .i64 C.fill):=HB.out.cell 3
   have q4:w14.cell? ⟨N6,4,none⟩=some (.int .i64 C.block):=HB.out.cell 4
   go_wp2_with fail
   refine FC.mono ?_
   rintro e w15 ⟨rfl,hk15⟩
   replace HK9:=Hd (HK9.out.trans hk15 (λ _ _ h=>h))
   replace HROW:=Hd (HROW.out.keeps hk15 (λ _ _ _=>id))
   replace HB:=Hd (HB.out.keeps hk15 id)
   replace HLA:=Hd (HLA.out.nob hk15)
   clear FC hk15 q0 q1 q2 q3 q4
   have FP:=HLA.out.map HWD.out HS2.out.rootIn_ HSD.out.2 (by have h1:=HS2.out.len;have h2:=List.length_filter_le past us2;have h3:=HSZ.out;omega)
   unfold pV at FP
   have hfl:∀ wx,Sem.run Tryz.prog (Instr.field 77 (.agg #[.bool true,.int .i64 r.node,.int .i64 r.err,.int .i64 r.levels,.int .i64 r.nodes,.int .i64 r.entries]) 0) wx=.ok (.bool true) wx:=λ _=>rfl
   go_wp2_with (go_at_call 20;refine FP.mono ?_;rintro e w16 ⟨rv,rfl,hmp,hk16⟩;replace hmp:=Hd hmp;replace hk16:=Hd hk16)
   clear hfl
   replace hk16:=hk16.out
   replace hmp:=hmp.out
   replace HK9:=Hd (HK9.out.trans hk16 (λ _ _ h=>h))
   replace HROW:=Hd (HROW.out.keeps hk16 (λ _ _ _=>id))
   replace HB:=Hd (HB.out.keeps hk16 id)
   replace HLA:=Hd (HLA.out.nob hk16)
   have FE:=sameE hmp (⟨es2,HROW.out.mono (λ _ _ h=>.inl h),λ e he=>⟨((HS2.out.txt e he).1.keeps HK9.out (λ _ _ _=>id)).mono (λ _ _ h=>.inr h),((HS2.out.txt e he).2.keeps HK9.out (λ _ _ _=>id)).mono (λ _ _ h=>.inr h)⟩,rfl⟩:MapAt w16 (λ x=>mv.ownBlock=some x\/x < w.heap.size) mv (es2.map En.e))
   clear FP hk16 hmp HSD
   go_wp2_with (go_at_call 28;refine FE.mono ?_;rintro e w17 ⟨rfl,hk17⟩)
   replace HK9:=Hd (HK9.out.trans hk17 (λ _ _ h=>h))
   replace HROW:=Hd (HROW.out.keeps hk17 (λ _ _ _=>id))
   replace HB:=Hd (HB.out.keeps hk17 id)
   replace HLA:=Hd (HLA.out.nob hk17)
   clear FE hk17
   go_wp2
   go_roundw
   case rel=>exact ⟨k+1,by omega,by go_num,mv,A2,us2,es2,rfl,⟨HLA.out,HS2.out.idle (by omega),HFR.out,HROW.out,HB.out,HWD.out,HFAR.out,by have:=HSZ.out;omega,HK9.out⟩⟩
   case measure=>simp [intOf];omega
 ·obtain rfl:k=os.length:=by omega
  have K:=Hd HS.out.old
  clear HS
  go_wp2
  go_ret
  exact ⟨rfl,K.out⟩
end
end Go.Proofs.YtjcgphhpaenjkaaGreat

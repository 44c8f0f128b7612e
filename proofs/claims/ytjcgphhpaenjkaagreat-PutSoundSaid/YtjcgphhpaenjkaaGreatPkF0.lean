import Derived.Test.YtjcgphhpaenjkaaGreatPkE9
import Derived.Test.YtjcgphhpaenjkaaGreatPkA6
import Derived.Test.YtjcgphhpaenjkaaGreatPkD8
import Derived.BigQuiet
import Derived.Deep.Cut
set_option maxHeartbeats 64000000
set_option maxRecDepth 100000
namespace Go.Proofs.YtjcgphhpaenjkaaGreat
open Go.RowKit
theorem Tryz.inf_pm:(Tryz.prog.info? 107).map (λ i=>(i.zero,i.size,i.bytes))=some (some (.pointer none),1,8):=by kernel_rfl
theorem Tryz.inf_p8:(Tryz.prog.info? 111).map (λ i=>(i.zero,i.size,i.bytes))=some (some (.agg #[.pointer none,.pointer none,.slice none 0 0,.slice none 0 0]),4,64):=by kernel_rfl
theorem Su.base8 {w0 w1 w:World} {b p q:Nat} {A B:Ar} {l:List Ob} (h:Su w1 w b p q A B l) (k:Keeps Nob w0 w1):Su w0 w b p q A B l:=by
 have hkk:=k.trans h.kept (λ _ _ h=>h)
 obtain ⟨G,hJ,hF,hg,hw,hk⟩:=h
 exact ⟨G,hJ,hF,λ x hx=>Nat.le_trans k.size (hg x hx),λ i o hi x hx=>Nat.le_trans k.size (hw i o hi x hx),hkk.mono (λ _ _ h=>h.elim)⟩
def Snd (w0 w:World) (b14 b p q:Nat) (C:Cf) (S0:Nat->Prop) (c m:Nat) (qv mv:Value):Prop:=
 ∃ A B pv us es sa sb,Su w0 w b p q A B (l8 b14 b p C pv qv mv us es sa sb)/\Sn14 w0 S0 C c A us es/\Wide64 A/\us.length<=m
section
variable {w:World} {v:Value} {os:List O14} {c:Cf}
theorem psound_ok (h:O14At w w.heap.size v os) (h0:I64 c.nodes) (h1:I64 c.leaf) (h2:I64 c.inner) (h3:I64 c.fill) (h4:I64 c.block):Calls Tryz.prog 8 #[cfV c,v] w λ e w'=>e=.returned (.bool true)/\Keeps Nob w w':=by
 have HO:=Hd h
 obtain ⟨SA,sc,hv,hc1,hc2,hc3,_⟩:=h
 subst hv
 have HH:=λ wx=>head14 wx
 have HB:=Hd (λ wx=>begun14 wx c h0 h1 h2 h3 h4)
 have hos:os.length < 1500000000000:=by omega
 clear hc1 hc2 hc3 h0 h1 h2 h3 h4
 unfold iV pV cfV at *
 go_enter Tryz.func8,Tryz.ntmps8
 go_upto_region 1 with (fail)
 refine code_at (λ w1 hw=>?_)
 have hk1:Keeps Nob w w1:=by rw [hw];exact Keeps.alloc Nob _ _
 obtain ⟨N,hN⟩:∃ N,w.heap.size=N:=⟨_,rfl⟩
 have hb:Blk w1 N 23 #[.int .i64 c.nodes,.int .i64 c.leaf,.int .i64 c.inner,.int .i64 c.fill,.int .i64 c.block]:=by rw [hw,<-hN];exact Blk.new _ _ _
 rw [hN]
 clear hw hN
 have HK:=Hd hk1
 have HBL:=Hd hb
 clear hk1 hb
 go_wp2_with fail
 refine (HH _).mono ?_
 rintro e w2 ⟨rfl,hk⟩
 replace HK:=tq_ HK hk
 replace HBL:=Hd (HBL.out.keeps hk id)
 have q0:w2.cell? ⟨N,0,none⟩=some (.int .i64 c.nodes):=HBL.out.cell 0
 have q1:w2.cell? ⟨N,1,none⟩=some (.int .i64 c.leaf):=HBL.out.cell 1
 have q2:w2.cell? ⟨N,2,none⟩=some (.int .i64 c.inner):=HBL.out.cell 2
 have q3:w2.cell? ⟨N,3,none⟩=some (.int .i64 c.fill):=HBL.out.cell 3
 have q4:w2.cell? ⟨N,4,none⟩=some (.int .i64 c.block):=HBL.out.cell 4
 clear hk HH HBL
 go_wp2_with fail
 clear q0 q1 q2 q3 q4
 refine (HB.out _).mono ?_
 rintro e w3 ⟨b14,b,p,q,rfl,hs⟩
 have HS:=Hd ((hs.base8 HK.out).start8)
 clear hs HK HB
 obtain ⟨z1,z2,_⟩:=fitC_bd c
 obtain ⟨n0,hn0⟩:∃ n:Nat,(fitC c).nodes.toNat=n:=⟨_,rfl⟩
 have HC:=Hd (cf14_fit c)
 have hni:(n0:Int)=(fitC c).nodes:=by omega
 rw [hn0] at HS
 clear z1 z2 hn0
 obtain ⟨C,hC⟩:∃ C,fitC c=C:=⟨_,rfl⟩
 rw [hC] at HS HC hni
 clear hC
 go_wp2
 go_loopw [7,8,9] (λ qv mv i wr=>∃ k:Nat,k<=os.length/\i=.int .i64 k/\Snd w wr b14 b p q C (λ x=>x < w.heap.size) (32*k) k qv mv) (λ _ _ i _=>os.length-(intOf i).toNat)
 case atStart=>
  exact ⟨0,Nat.zero_le _,rfl,_,_,_,_,_,_,_,HS.out,Sn14.start 0 HC.out hni,λ s hs=>by rw [show s=⟨0,Nd.zero⟩ from List.mem_singleton.1 hs];exact ⟨(k64_small (x:=0) (by decide) (by decide):K64 0),λ k hk=>absurd hk List.not_mem_nil⟩,Nat.le_refl _⟩
 clear HS hni
 obtain ⟨k,hk,rfl,A,B,pv,us,es,sa,sb,hs,hsn,hwd,hul⟩:=hrel
 rcases Nat.lt_or_ge k os.length with hlt|hlt
 ·obtain ⟨o,ho⟩:∃ o,os[k]?=some o:=⟨_,List.getElem?_eq_getElem hlt⟩
  obtain ⟨ad,cs,rfl,hlo,hop,hcs⟩:=HO.out.at_ ho
  obtain ⟨kv,vv,hv,rfl,⟨hkey,hval,hhi⟩,⟨i1,i2,i3⟩,zk,zv,_⟩:=hop
  obtain ⟨KA,kc,rfl,_,_⟩:=hkey.form
  obtain ⟨VA,vc,rfl,_,_⟩:=hval.form
  obtain ⟨HA,hc,rfl,_,_⟩:=hhi.form
  have HKEY:=Hd hkey
  have HVAL:=Hd hval
  have HZ:=Hd (And.intro zk zv)
  have cel:∀ (j:Nat) x,#[Value.int .i64 o.kd,.int .i64 o.a,.int .i64 o.b,.slice KA o.key.length kc,.slice VA o.val.length vc,.slice HA o.hi.length hc][j]?=some x->wr.cell? (sub_ (ad.add (k*6)) j)=some x:=λ j x hx=>hs.kept.cell (hcs j x hx) id
  have q0:=cel 0 _ rfl
  have q1:=cel 1 _ rfl
  have q2:=cel 2 _ rfl
  have q3:=cel 3 _ rfl
  have q4:=cel 4 _ rfl
  have q5:=cel 5 _ rfl
  simp only [sub_] at q0 q1 q2 q3 q4 q5
  have HS:=Hd hs
  have HN:=Hd hsn
  have HW:=Hd hwd
  clear hcs hlo ho hkey hval hhi cel hs hsn hwd zk zv
  go_upto_region 11 with (fail)
  clear q0 q1 q2 q3 q4 q5
  refine code_at (λ w4 hw=>?_)
  have hk4:Keeps Nob wr w4:=by rw [hw];exact Keeps.alloc Nob _ _
  obtain ⟨N8,hN8⟩:∃ N,wr.heap.size=N:=⟨_,rfl⟩
  have hb8:Blk w4 N8 31 #[.int .i64 o.kd,.int .i64 o.a,.int .i64 o.b,.slice KA o.key.length kc,.slice VA o.val.length vc,.slice HA o.hi.length hc]:=by rw [hw,<-hN8];exact Blk.new _ _ _
  clear hw
  replace HS:=Hd (HS.out.blkPut (i:=5) rfl hk4 hb8 (by rw [hN8];exact Nat.le_refl _))
  rw [hN8]
  clear hk4 hb8 hN8
  have o0:w4.cell? ⟨N8,0,none⟩=some (.int .i64 o.kd):=(HS.out.get (i:=5) rfl:Blk w4 N8 _ _).cell 0
  obtain ⟨QA,qc,eq⟩:=(HS.out.get (i:=2) rfl:Own w4 _ 107 1 _ _ _).form
  obtain ⟨PA,pc,ep⟩:=(HS.out.get (i:=1) rfl:Own w4 _ 111 4 pv _ _).form
  subst eq ep
  by_cases hk0:o.kd=0
  ·as_aux_lemma=>
    go_wp2_with fail
    clear o0
    obtain ⟨j0,hj0,hy0,hy1,hy2⟩:=info_parts Tryz.inf_pm
    have hlen:(us.length+1)*64<=199999999999999:=by omega
    refine rC_ [0,1,2,3,4,5,6,7,8,9,10,11,12,13,14,15,16,17,18,19] 99 (λ W=>W.cell? ⟨b14,0,none⟩=some (.pointer (some ⟨b,0,none⟩))/\W.cell? ⟨b,0,none⟩=some (.pointer (some ⟨p,0,none⟩))/\W.cell? ⟨b14,1,none⟩=some (.int .i64 C.nodes)/\W.cell? ⟨b14,2,none⟩=some (.int .i64 C.leaf)/\W.cell? ⟨b14,3,none⟩=some (.int .i64 C.inner)/\W.cell? ⟨b14,4,none⟩=some (.int .i64 C.fill)/\W.cell? ⟨b14,5,none⟩=some (.int .i64 C.block)/\W.cell? ⟨N8,3,none⟩=some (.slice KA o.key.length kc)/\W.cell? ⟨N8,4,none⟩=some (.slice VA o.val.length vc)) ?_ ?_
    ·exact ⟨(HS.out.get (i:=0) rfl:Blk _ b14 _ _).cell 0,HS.out.blk.cell 0,(HS.out.get (i:=0) rfl:Blk _ b14 _ _).cell 1,(HS.out.get (i:=0) rfl:Blk _ b14 _ _).cell 2,(HS.out.get (i:=0) rfl:Blk _ b14 _ _).cell 3,(HS.out.get (i:=0) rfl:Blk _ b14 _ _).cell 4,(HS.out.get (i:=0) rfl:Blk _ b14 _ _).cell 5,(HS.out.get (i:=5) rfl:Blk _ N8 _ _).cell 3,(HS.out.get (i:=5) rfl:Blk _ N8 _ _).cell 4⟩
    refine canon_at (λ w5 hw=>?_)
    have hk5:Keeps Nob w4 w5:=by rw [hw];exact Keeps.drew _ _
    replace HS:=Hd (HS.out.nob hk5)
    clear hw hk5
    iterate 16
     refine cR_ (v:=?_) rfl ?_ ?_
     rotate_left
     ·intro W hW
      try (obtain ⟨z1,z2,z3,z4,z5,z6,z7,z8,z9⟩:_/\_/\_/\_/\_/\_/\_/\_/\_:=hW)
      go_simp
      try rfl
     simp only [Act.put,sa_,sb_,sc_]
    refine cA_ rfl ?_
    have FN:=HS.out.new8 (HKEY.out.keeps HS.out.kept (λ _ _ _=>id)) (HVAL.out.keeps HS.out.kept (λ _ _ _=>id)) (HZ.out.1.mono (by decide)) (HZ.out.2.mono (by decide))
    unfold pV at FN
    go_wp2_with (go_at_call 47;refine FN.mono ?_;rintro e w6 ⟨u,rfl,hu,hs⟩)
    have HU:=Hd hu
    replace HS:=Hd hs
    clear FN hu hs
    refine ⟨.inr ⟨(HS.out.get (i:=0) rfl:Blk _ b14 _ _).cell 0,HS.out.blk.cell 0,(HS.out.get (i:=0) rfl:Blk _ b14 _ _).cell 1,(HS.out.get (i:=0) rfl:Blk _ b14 _ _).cell 2,(HS.out.get (i:=0) rfl:Blk _ b14 _ _).cell 3,(HS.out.get (i:=0) rfl:Blk _ b14 _ _).cell 4,(HS.out.get (i:=0) rfl:Blk _ b14 _ _).cell 5,(HS.out.get (i:=5) rfl:Blk _ N8 _ _).cell 3,(HS.out.get (i:=5) rfl:Blk _ N8 _ _).cell 4⟩,?_⟩
    refine cA_ rfl ?_
    go_wp2
    refine canon_at' (λ w7 hw=>?_)
    have hk7:Keeps Nob w6 w7:=by rw [hw];exact Keeps.alloc _ _ _
    have hlit:SlG w7 (λ _=>True) 1 (.slice (some ⟨w6.heap.size,0,none⟩) 1 1) 1 [.pointer (some ⟨u.mx,0,none⟩)]:=by rw [hw];exact (SlG.lit _ _ [.pointer (some ⟨u.mx,0,none⟩)] 1 1 _ rfl rfl (by decide)).mono (λ _ _ _=>trivial)
    replace HS:=Hd (HS.out.nob hk7)
    have HLIT:=Hd hlit
    clear hw hk7 hlit
    refine ⟨.inr ⟨(HS.out.get (i:=0) rfl:Blk _ b14 _ _).cell 0,HS.out.blk.cell 0,(HS.out.get (i:=0) rfl:Blk _ b14 _ _).cell 1,(HS.out.get (i:=0) rfl:Blk _ b14 _ _).cell 2,(HS.out.get (i:=0) rfl:Blk _ b14 _ _).cell 3,(HS.out.get (i:=0) rfl:Blk _ b14 _ _).cell 4,(HS.out.get (i:=0) rfl:Blk _ b14 _ _).cell 5,(HS.out.get (i:=5) rfl:Blk _ N8 _ _).cell 3,(HS.out.get (i:=5) rfl:Blk _ N8 _ _).cell 4⟩,?_⟩
    refine cA_ rfl ?_
    go_wp2_with (at_builtin;refine wpList_app rfl (.tmp 41) (.tmp 58) 106 rfl Tryz.underlying106 hj0 hy0 hy1 hy2 rfl (by decide) (v:=.slice QA us.length qc) (n:=us.length) (m:=1) (S:=λ x=>(Value.slice QA us.length qc).ownBlock=some x) (T:=λ _=>True) (xs:=pms us) (news:=[.pointer (some ⟨u.mx,0,none⟩)]) rfl ?d1 (y:=.slice (some ⟨w6.heap.size,0,none⟩) 1 1) rfl ?d2 ?d3 ?d4 ?d5 ?d6)
    case d1=>exact HS.out.get (i:=2) rfl
    case d2=>exact HLIT.out
    case d3=>intro y hy;obtain rfl:=List.mem_singleton.1 hy;rfl
    case d4=>unfold maxLen;omega
    case d5=>omega
    case d6=>
    intro v' w8 ho hk8 _
    obtain ⟨QB,qd,ev⟩:=ho.form
    subst ev
    replace HS:=Hd (HS.out.app (i:=2) rfl hk8 (ho.mono (λ b _ hb=>hb.imp id (λ h=>h))))
    clear ho hk8 HLIT
    refine ⟨.inr ⟨(HS.out.get (i:=0) rfl:Blk _ b14 _ _).cell 0,HS.out.blk.cell 0,(HS.out.get (i:=0) rfl:Blk _ b14 _ _).cell 1,(HS.out.get (i:=0) rfl:Blk _ b14 _ _).cell 2,(HS.out.get (i:=0) rfl:Blk _ b14 _ _).cell 3,(HS.out.get (i:=0) rfl:Blk _ b14 _ _).cell 4,(HS.out.get (i:=0) rfl:Blk _ b14 _ _).cell 5,(HS.out.get (i:=5) rfl:Blk _ N8 _ _).cell 3,(HS.out.get (i:=5) rfl:Blk _ N8 _ _).cell 4⟩,?_⟩
    refine cR_ (v:=?_) rfl ?_ ?_
    rotate_left
    ·intro W hW
     go_simp
     try rfl
    simp only [Act.put,sa_,sb_,sc_]
    refine wpCanon_nil ?_
    go_wp2
    obtain ⟨j1,hj1,hx0,hx1,hx2⟩:=info_parts Tryz.inf_p8
    refine rC_ [0,1,2,3,4,5,6,7,8,9,10,11,12,13,14] 14 (λ W=>W.cell? ⟨b14,6,none⟩=some (.slice PA us.length pc)/\W.cell? ⟨N8,3,none⟩=some (.slice KA o.key.length kc)/\W.cell? ⟨N8,4,none⟩=some (.slice VA o.val.length vc)) ?_ ?_
    ·exact ⟨(HS.out.get (i:=0) rfl:Blk _ b14 _ _).cell 6,(HS.out.get (i:=5) rfl:Blk _ N8 _ _).cell 3,(HS.out.get (i:=5) rfl:Blk _ N8 _ _).cell 4⟩
    refine canon_at (λ w9 hw=>?_)
    have hk9:Keeps Nob w8 w9:=by rw [hw];exact Keeps.drew _ _
    replace HS:=Hd (HS.out.nob hk9)
    clear hw hk9
    iterate 10
     refine cR_ (v:=?_) rfl ?_ ?_
     rotate_left
     ·intro W hW
      try (obtain ⟨z1,z2,z3⟩:_/\_/\_:=hW)
      go_simp
      try rfl
     simp only [Act.put,sa_,sb_,sc_]
    refine cA_ rfl ?_
    go_wp2
    refine canon_at' (λ w10 hw=>?_)
    have hk10:Keeps Nob w9 w10:=by rw [hw];exact Keeps.alloc _ _ _
    have hlit:SlG w10 (λ _=>True) 4 (.slice (some ⟨w9.heap.size,0,none⟩) 1 1) 1 [.pointer none,.pointer none,.slice KA o.key.length kc,.slice VA o.val.length vc]:=by rw [hw];exact (SlG.lit _ _ [.pointer none,.pointer none,.slice KA o.key.length kc,.slice VA o.val.length vc] 4 1 _ rfl rfl (by decide)).mono (λ _ _ _=>trivial)
    replace HS:=Hd (HS.out.nob hk10)
    have HLIT:=Hd hlit
    clear hw hk10 hlit
    refine ⟨.inr ⟨(HS.out.get (i:=0) rfl:Blk _ b14 _ _).cell 6,(HS.out.get (i:=5) rfl:Blk _ N8 _ _).cell 3,(HS.out.get (i:=5) rfl:Blk _ N8 _ _).cell 4⟩,?_⟩
    refine cA_ rfl ?_
    go_wp2_with (at_builtin;refine wpList_app rfl (.tmp 64) (.tmp 70) 33 rfl Tryz.underlying33 hj1 hx0 hx1 hx2 rfl (by decide) (v:=.slice PA us.length pc) (n:=us.length) (m:=1) (S:=λ x=>(Value.slice PA us.length pc).ownBlock=some x) (T:=λ _=>True) (xs:=pus0 us) (news:=[.pointer none,.pointer none,.slice KA o.key.length kc,.slice VA o.val.length vc]) rfl ?d1 (y:=.slice (some ⟨w9.heap.size,0,none⟩) 1 1) rfl ?d2 ?d3 ?d4 ?d5 ?d6)
    case d1=>exact HS.out.get (i:=1) rfl
    case d2=>exact HLIT.out
    case d3=>intro u hu;simp only [List.mem_cons,List.not_mem_nil,or_false] at hu;rcases hu with h|h|h|h<;>subst h<;>rfl
    case d4=>unfold maxLen;omega
    case d5=>omega
    case d6=>
    intro v' w11 ho hk11 _
    obtain ⟨PB,pd,ev⟩:=ho.form
    subst ev
    replace HS:=Hd (HS.out.app (i:=1) rfl hk11 (ho.mono (λ b _ hb=>hb.imp id (λ h=>h))))
    clear ho hk11 HLIT
    refine ⟨.inr ⟨(HS.out.get (i:=0) rfl:Blk _ b14 _ _).cell 6,(HS.out.get (i:=5) rfl:Blk _ N8 _ _).cell 3,(HS.out.get (i:=5) rfl:Blk _ N8 _ _).cell 4⟩,?_⟩
    iterate 2
     refine cR_ (v:=?_) rfl ?_ ?_
     rotate_left
     ·intro W hW
      go_simp
      try rfl
     simp only [Act.put,sa_,sb_,sc_]
    refine cA_ rfl ?_
    have q6:w11.cell? ⟨b14,6,none⟩=some (.slice PA us.length pc):=(HS.out.get (i:=0) rfl:Blk w11 b14 _ _).cell 6
    have g6:=(HS.out.get (i:=0) rfl:Blk w11 b14 _ _).frozen 6
    go_wp2
    clear q6 g6
    refine ⟨.inl (by kernel_rfl),?_⟩
    refine canon_at (λ w12 hw=>?_)
    have hk12:Keeps (λ x=>x=b14) w11 w12:=by rw [hw];exact Keeps.setCell _ (M:=λ x=>x=b14) rfl _
    have hb12:=(HS.out.get (i:=0) rfl:Blk w11 b14 37 (w14 b C (.slice PA us.length pc) (.slice none 0 0) (.slice none 0 0))).set_ 6 (.slice PB (us.length+1) pd)
    rw [<-hw] at hb12
    replace HS:=Hd (HS.out.set (i:=0) (o':=muBlk b14 37 (w14 b C (.slice PB (us.length+1) pd) (.slice none 0 0) (.slice none 0 0))) rfl hk12 (λ _ _ h=>h) hb12 (λ x hx=>.inl hx) (λ x hx=>.inl hx) (λ _ h=>h))
    clear hw hk12 hb12
    refine wpCanon_nil ?_
    go_wp2
    go_roundw
    case rel=>
     refine ⟨k+1,by omega,by go_num,A,B,.slice PB (us.length+1) pd,us++[u],es,blkOb N8 31 #[.int .i64 o.kd,.int .i64 o.a,.int .i64 o.b,.slice KA o.key.length kc,.slice VA o.val.length vc,.slice HA o.hi.length hc],sb,?_,(HN.out.new HU.out.1 HU.out.2.1 HU.out.2.2 HKEY.out HVAL.out).idle (by omega),HW.out,by rw [List.length_append,List.length_singleton];omega⟩
     have h:=HS.out
     show Su _ _ _ _ _ _ _ _
     unfold l8
     rw [List.length_append,List.length_singleton,pus0_snoc,pms_snoc,HU.out.2.1,HU.out.2.2]
     exact h
    case measure=>simp [intOf];omega
  ·rcases Nat.eq_zero_or_pos us.length with hz|hz
   ·go_wp2_with fail
    clear o0
    go_roundw
    case rel=>exact ⟨k+1,by omega,by go_num,A,B,_,us,es,_,sb,HS.out,HN.out.idle (by omega),HW.out,by omega⟩
    case measure=>simp [intOf];omega
   ·obtain ⟨n,hpn,hnl0⟩:=pk_nat8 (c:=o.a) (n:=(us.length:Int)) (by omega)
    have hnl:n < us.length:=by omega
    obtain ⟨mo,hpm,hml⟩:=pk_nat8 (c:=o.b) (n:=30) (by decide)
    have PI:=λ wx=>pick14_ (c:=o.a) (n:=(us.length:Int)) wx i2 (by omega)
    have PB:=λ wx=>pick14_ (c:=o.b) (n:=30) wx i3 (by decide)
    rw [hpn] at PI
    rw [hpm] at PB
    unfold iV at PI PB
    clear hpn hpm i1 i2 i3 HKEY HVAL HZ
    obtain ⟨gq,oq,hrq,hqc⟩:=own_some8 (HS.out.get (i:=2) rfl:Own w4 _ 107 1 _ _ _) hz
    obtain ⟨gp,op,hrp,hpc⟩:=own_some8 (HS.out.get (i:=1) rfl:Own w4 _ 111 4 _ _ _) hz
    subst hrq hrp
    have o1:w4.cell? ⟨N8,1,none⟩=some (.int .i64 o.a):=(HS.out.get (i:=5) rfl:Blk w4 N8 _ _).cell 1
    go_wp2_with (go_at_call 42;refine (PI _).mono ?_;rintro e wk ⟨rfl,rfl⟩)
    clear o0 o1 PI
    go_loopw [8,12] (λ mv i wz=>∃ j:Nat,j<=30/\i=.int .i64 j/\∃ A' B' us' es',Su w wz b p q A' B' (l8 b14 b p C (.slice (some ⟨gp,op,none⟩) us.length pc) (.slice (some ⟨gq,oq,none⟩) us.length qc) mv us' es' (blkOb N8 31 #[.int .i64 o.kd,.int .i64 o.a,.int .i64 o.b,.slice KA o.key.length kc,.slice VA o.val.length vc,.slice HA o.hi.length hc]) sb)/\Sn14 w (λ x=>x < w.heap.size) C (32*k+j) A' us' es'/\Wide64 A'/\us'.length=us.length) (λ _ i _=>31-(intOf i).toNat)
    case atStart=>exact ⟨0,Nat.zero_le _,rfl,A,B,us,es,HS.out,HN.out,HW.out,rfl⟩
    clear HS HN HW
    obtain ⟨j,hj,rfl,A',B',us',es',hs,hsn,hwd,hln⟩:=hrel
    have HS:=Hd hs
    have HN:=Hd hsn
    have HW:=Hd hwd
    have HLN:Hid (us'.length=us.length):=hln
    clear hs hsn hwd hln
    obtain ⟨u,hu⟩:∃ u,us'[n]?=some u:=⟨_,List.getElem?_eq_getElem (by have h2:=HLN.out;omega)⟩
    have HU:=Hd hu
    clear hu
    have o2:=(HS.out.get (i:=5) rfl:Blk _ N8 _ _).cell 2
    rcases Nat.lt_or_ge mo j with hjm|hjm
    ·have hjm':(mo:Int) < (j:Int):=by omega
     go_wp2_with (go_at_call 42;refine (PB _).mono ?_;rintro e wk ⟨rfl,rfl⟩)
     clear o2
     go_roundw
     case rel=>exact ⟨k+1,by omega,by go_num,A',B',_,us',es',_,sb,HS.out,HN.out.idle (by omega),HW.out,by have:=HLN.out;omega⟩
     case measure=>simp [intOf];omega
    ·have hjm':(j:Int)<=(mo:Int):=by omega
     have hll:us.length<=9223372036854775807:=by omega
     have FS:=HS.out.step8 HU.out (HN.out.ok (List.mem_of_getElem? HU.out) (by omega)) (HN.out.nx _ (List.mem_of_getElem? HU.out)).1
     unfold pV at FS
     have r0:=own_at8 (by have h:=HS.out.get (i:=2) rfl;rw [HLN.out] at h;exact h:Own _ _ 107 1 _ _ _) (pms_at HU.out)
     go_wp2_with (go_at_call 42;refine (PB _).mono ?_;rintro e wk ⟨rfl,rfl⟩)
     clear o2 r0
     refine FS.mono ?_
     rintro e w5 ⟨rfl,u',⟨e1,e2,e3,e4⟩,hs⟩
     have HN2:=Hd (HN.out.put HC.out HU.out (by omega) e1 e3 e4)
     have HW2:=Hd (HN.out.wide HC.out HU.out HW.out)
     have HEF:Hid (eff C.leaf C.inner A' u.X ↔ ((stepP C.leaf C.inner A' u.X).1.2=true/\u'.X.out.2=0)):=by show _ ↔ _;rw [e1];exact Iff.rfl
     have HFT:=Hd (λ he=>HN.out.fits (List.mem_of_getElem? HU.out) he)
     have HU2:Hid ((us'.set n u')[n]?=some u'):=List.getElem?_set_self (List.getElem?_eq_some_iff.1 HU.out).1
     have HLN2:Hid ((us'.set n u').length=us.length):=by show _=_;rw [List.length_set];exact HLN.out
     have hkt:=HN.out.kt u (List.mem_of_getElem? HU.out)
     have hvt:=HN.out.vt u (List.mem_of_getElem? HU.out)
     obtain ⟨UA,uc,eu,_,_⟩:=hkt.form
     obtain ⟨WA,wc,ew,_,_⟩:=hvt.form
     have HS5:=Hd hs
     have HKT:=Hd hkt
     have HVT:=Hd hvt
     have HEQ:=Hd (And.intro e3 e4)
     rw [eu] at HKT HEQ
     rw [ew] at HVT HEQ
     have HES:=Hd HN.out.txt
     have HLE:=Hd HN.out.len
     obtain ⟨tk,htk⟩:∃ t,(stepP C.leaf C.inner A' u.X).1.2=t:=⟨_,rfl⟩
     obtain ⟨A2,hA2⟩:∃ X,(stepP C.leaf C.inner A' u.X).2.1=X:=⟨_,rfl⟩
     obtain ⟨es2,hes2⟩:∃ X,map14 C A' u es'=X:=⟨_,rfl⟩
     have HE2:Hid ((if (stepP C.leaf C.inner A' u.X).1.2=true/\u'.X.out.2=0 then setE ⟨u.kv,u.vv,u.X.key,u.X.val⟩ es' else es')=es2):=by show _=_;rw [e1];exact hes2
     rw [eu,ew,htk] at HE2
     obtain ⟨us2,hus2⟩:∃ X,us'.set n u'=X:=⟨_,rfl⟩
     rw [htk] at HEF ⊢
     rw [hA2] at HS5 HN2 HW2
     rw [hes2] at HN2
     rw [hus2] at HS5 HN2 HU2 HLN2
     clear FS hs e1 e2 e3 e4 htk hA2 hes2 hus2 hkt hvt eu ew HS HN
     have FA:=HS5.out.ask8 HU2.out
     unfold pV iV at FA
     have r0:=own_at8 (by have h:=HS5.out.get (i:=2) rfl;rw [HLN2.out] at h;exact h:Own _ _ 107 1 _ _ _) (pms_at HU2.out)
     go_wp2_with fail
     clear r0
     refine FA.mono ?_
     rintro e w6 ⟨rfl,hk6⟩
     replace HS5:=Hd (HS5.out.nob hk6)
     clear FA hk6
     obtain ⟨err,herr⟩:∃ X,u'.X.out.2=X:=⟨_,rfl⟩
     rw [herr] at HEF HE2 ⊢
     clear herr
     have q6:w6.cell? ⟨b14,6,none⟩=some (.slice (some ⟨gp,op,none⟩) us.length pc):=(HS5.out.get (i:=0) rfl:Blk w6 b14 _ _).cell 6
     have hrow:Own w6 (λ x=>(Value.slice (some ⟨gp,op,none⟩) us.length pc).ownBlock=some x) 111 4 (.slice (some ⟨gp,op,none⟩) us.length pc) us.length (pus0 us2):=by have h:=HS5.out.get (i:=1) rfl;rw [HLN2.out] at h;exact h
     have r2:=own_at8 hrow (pus0_at us2 n u' HU2.out).1
     have r3:=own_at8 hrow (pus0_at us2 n u' HU2.out).2
     rw [<-Nat.add_assoc] at r2 r3
     rw [HEQ.out.1] at r2
     rw [HEQ.out.2] at r3
     have FK:=λ wx h=>keyFitR (w:=wx) (S:=λ x=>x < w.heap.size) (a:=.slice UA u.X.key.length uc) (x:=u.X.key) h
     have FV:=λ wx h=>valFitR (w:=wx) (S:=λ x=>x < w.heap.size) (vv:=.slice WA u.X.val.length wc) (val:=u.X.val) h
     have hkw:=HKT.out.keeps HS5.out.kept (λ _ _ _=>id)
     have hvw:=HVT.out.keeps HS5.out.kept (λ _ _ _=>id)
     clear hrow
     have hcase:(tk=true/\err=0)\/¬(tk=true/\err=0):=Classical.em _
     rcases hcase with ⟨rfl,rfl⟩|hef
     focus
      have hft:=HFT.out (HEF.out.2 ⟨rfl,rfl⟩)
      rw [hft.1] at FK
      rw [hft.2] at FV
      rw [if_pos ⟨rfl,rfl⟩] at HE2
      clear HEF HFT hft
      go_wp2_with (first|(go_at_call 27;refine (FK _ hkw).mono ?_;rintro e wk ⟨rfl,rfl⟩)|(go_at_call 50;refine (FV _ hvw).mono ?_;rintro e wk ⟨rfl,rfl⟩))
      clear FK FV hkw hvw
      refine rC_ [0,1,2,3,4,5,6,7,8,9,10,11,12,13,14,15,16,17,18] 99 (λ W=>W.cell? ⟨b14,6,none⟩=some (.slice (some ⟨gp,op,none⟩) us.length pc)/\W.cell? ⟨gp,op+n*4+2,none⟩=some (.slice UA u.X.key.length uc)/\W.cell? ⟨gp,op+n*4+3,none⟩=some (.slice WA u.X.val.length wc)) ?_ ?_
      ·exact ⟨q6,r2,r3⟩
      refine canon_at (λ w7 hw=>?_)
      have hk7:Keeps Nob w6 w7:=by rw [hw];exact Keeps.drew _ _
      replace HS5:=Hd (HS5.out.nob hk7)
      clear hw hk7 q6 r2 r3
      iterate 17
       refine cR_ (v:=?_) rfl ?_ ?_
       rotate_left
       ·intro W hW
        try (obtain ⟨z1,z2,z3⟩:_/\_/\_:=hW)
        go_simp
        try rfl
       simp only [Act.put,sa_,sb_,sc_]
      refine cA_ rfl ?_
      have FM:=HS5.out.set8 HES.out HKT.out HVT.out (by have h1:=HLE.out;have h2:=List.length_filter_le past us';have h3:=HLN.out;omega)
      rw [HE2.out] at FM
      go_wp2_with (go_at_call 51;refine FM.mono ?_;rintro e w6 ⟨mv,rfl,hs⟩)
      replace HS5:=Hd hs
      clear FM hs HE2
      have hrow:Own w6 (λ x=>(Value.slice (some ⟨gp,op,none⟩) us.length pc).ownBlock=some x) 111 4 (.slice (some ⟨gp,op,none⟩) us.length pc) us.length (pus0 us2):=by have h:=HS5.out.get (i:=1) rfl;rw [HLN2.out] at h;exact h
      have r2:=own_at8 hrow (pus0_at us2 n u' HU2.out).1
      have r3:=own_at8 hrow (pus0_at us2 n u' HU2.out).2
      rw [<-Nat.add_assoc] at r2 r3
      rw [HEQ.out.1] at r2
      rw [HEQ.out.2] at r3
      refine ⟨.inr ⟨(HS5.out.get (i:=0) rfl:Blk w6 b14 _ _).cell 6,r2,r3⟩,?_⟩
      clear hrow r2 r3
      iterate 1
       refine cR_ (v:=?_) rfl ?_ ?_
       rotate_left
       ·intro W hW
        go_simp
        try rfl
       simp only [Act.put,sa_,sb_,sc_]
      refine wpCanon_nil ?_
      go_wp2_with fail
     rotate_left
     focus
      rw [if_neg hef] at HE2
      have hcase:tk=false\/(tk=true/\(err==0)=false):=by
       cases tk with
       | false=>exact .inl rfl
       | true=>exact .inr ⟨rfl,by simpa using λ e=>hef ⟨rfl,e⟩⟩
      have h:=HE2.out.symm
      clear HE2 hef HEF HFT
      subst h
      rcases hcase with rfl|⟨rfl,he0⟩
      all_goals
       go_wp2_with (first|(go_at_call 27;refine (FK _ hkw).mono ?_;rintro e wk ⟨rfl,rfl⟩)|(go_at_call 50;refine (FV _ hvw).mono ?_;rintro e wk ⟨rfl,rfl⟩))
       clear q6 r2 r3 FK FV hkw hvw
     all_goals
      as_aux_lemma=>
       clear HKT HVT HEQ HES HLE
       refine rC_ [0,1,2,3,4,5,6,7,8,9,10,11,12,13,14,15,16,17,18,19,20,21,22,23,24,25,26,27,28,29,30,31,32,34,33,35,36,37,38] 99 (λ W=>W.cell? ⟨b14,0,none⟩=some (.pointer (some ⟨b,0,none⟩))/\W.cell? ⟨b,0,none⟩=some (.pointer (some ⟨p,0,none⟩))/\W.cell? ⟨b14,1,none⟩=some (.int .i64 C.nodes)/\W.cell? ⟨b14,2,none⟩=some (.int .i64 C.leaf)/\W.cell? ⟨b14,3,none⟩=some (.int .i64 C.inner)/\W.cell? ⟨b14,4,none⟩=some (.int .i64 C.fill)/\W.cell? ⟨b14,5,none⟩=some (.int .i64 C.block)) ?_ ?_
       ·exact ⟨(HS5.out.get (i:=0) rfl:Blk _ b14 _ _).cell 0,HS5.out.blk.cell 0,(HS5.out.get (i:=0) rfl:Blk _ b14 _ _).cell 1,(HS5.out.get (i:=0) rfl:Blk _ b14 _ _).cell 2,(HS5.out.get (i:=0) rfl:Blk _ b14 _ _).cell 3,(HS5.out.get (i:=0) rfl:Blk _ b14 _ _).cell 4,(HS5.out.get (i:=0) rfl:Blk _ b14 _ _).cell 5⟩
       refine canon_at (λ w7 hw=>?_)
       have hk7:Keeps Nob w6 w7:=by rw [hw];exact Keeps.drew _ _
       replace HS5:=Hd (HS5.out.nob hk7)
       clear hw hk7
       iterate 7
        refine cR_ (v:=?_) rfl ?_ ?_
        rotate_left
        ·intro W hW
         try (obtain ⟨z1,z2,z3,z4,z5,z6,z7⟩:_/\_/\_/\_/\_/\_/\_:=hW)
         go_simp
         try rfl
        simp only [Act.put,sa_,sb_,sc_]
       refine cA_ rfl ?_
       have FH:=HS5.out.held8
       unfold pV at FH
       go_wp2_with (go_at_call 30;refine FH.mono ?_;rintro e w8 ⟨hv,rfl,ho,hs⟩)
       replace HS5:=Hd hs
       obtain ⟨XA,xc,rfl⟩:=Own.form ho
       clear FH hs ho
       refine ⟨.inr ⟨(HS5.out.get (i:=0) rfl:Blk _ b14 _ _).cell 0,HS5.out.blk.cell 0,(HS5.out.get (i:=0) rfl:Blk _ b14 _ _).cell 1,(HS5.out.get (i:=0) rfl:Blk _ b14 _ _).cell 2,(HS5.out.get (i:=0) rfl:Blk _ b14 _ _).cell 3,(HS5.out.get (i:=0) rfl:Blk _ b14 _ _).cell 4,(HS5.out.get (i:=0) rfl:Blk _ b14 _ _).cell 5⟩,?_⟩
       obtain ⟨L,hL⟩:∃ L,heldFrom 1 A2.sl=L:=⟨_,rfl⟩
       rw [hL]
       rcases L with _|⟨l0,L⟩
       ·have HSD:=Hd (HN2.out.sound HC.out (heldFrom_nil hL))
        clear hL
        rw [List.length_nil]
        iterate 14
         refine cR_ (v:=?_) rfl ?_ ?_
         rotate_left
         ·intro W hW
          try (obtain ⟨z1,z2,z3,z4,z5,z6,z7⟩:_/\_/\_/\_/\_/\_/\_:=hW)
          go_simp
          try rfl
         simp only [Act.put,sa_,sb_,sc_]
        refine cA_ rfl ?_
        have FC:=HS5.out.check8 HW2.out
        obtain ⟨r,hr⟩:∃ r,checkM A2 C.nodes C.leaf C.inner C.fill C.block=r:=⟨_,rfl⟩
        rw [hr] at FC HSD
        unfold pV rpV at FC
        rw [HSD.out.1] at FC
        clear hr
        go_wp2_with (go_at_call 52;refine FC.mono ?_;rintro e w9 ⟨rfl,hk9⟩)
        replace HS5:=Hd (HS5.out.nob hk9)
        clear FC hk9
        refine ⟨.inr ⟨(HS5.out.get (i:=0) rfl:Blk _ b14 _ _).cell 0,HS5.out.blk.cell 0,(HS5.out.get (i:=0) rfl:Blk _ b14 _ _).cell 1,(HS5.out.get (i:=0) rfl:Blk _ b14 _ _).cell 2,(HS5.out.get (i:=0) rfl:Blk _ b14 _ _).cell 3,(HS5.out.get (i:=0) rfl:Blk _ b14 _ _).cell 4,(HS5.out.get (i:=0) rfl:Blk _ b14 _ _).cell 5⟩,?_⟩
        iterate 11
         refine cR_ (v:=?_) rfl ?_ ?_
         rotate_left
         ·intro W hW
          try (obtain ⟨z1,z2,z3,z4,z5,z6,z7⟩:_/\_/\_/\_/\_/\_/\_:=hW)
          go_simp
          try rfl
         simp only [Act.put,sa_,sb_,sc_]
        refine cA_ rfl ?_
        have FP:=HS5.out.map8 HW2.out HN2.out.rootIn HSD.out.2 (by have h1:=HN2.out.len;have h2:=List.length_filter_le past us2;have h3:=HLN2.out;omega)
        unfold pV at FP
        go_wp2_with (go_at_call 20;refine FP.mono ?_;rintro e w10 ⟨rv,rfl,hm,hk9⟩)
        replace HS5:=Hd (HS5.out.nob hk9)
        have FE:=sameE hm (HS5.out.mine8 HN2.out.txt)
        clear FP hk9 hm
        refine ⟨.inr ⟨(HS5.out.get (i:=0) rfl:Blk _ b14 _ _).cell 0,HS5.out.blk.cell 0,(HS5.out.get (i:=0) rfl:Blk _ b14 _ _).cell 1,(HS5.out.get (i:=0) rfl:Blk _ b14 _ _).cell 2,(HS5.out.get (i:=0) rfl:Blk _ b14 _ _).cell 3,(HS5.out.get (i:=0) rfl:Blk _ b14 _ _).cell 4,(HS5.out.get (i:=0) rfl:Blk _ b14 _ _).cell 5⟩,?_⟩
        refine cA_ rfl ?_
        go_wp2_with (go_at_call 28;refine FE.mono ?_;rintro e w11 ⟨rfl,hk9⟩)
        replace HS5:=Hd (HS5.out.nob hk9)
        clear FE hk9
        refine ⟨.inr ⟨(HS5.out.get (i:=0) rfl:Blk _ b14 _ _).cell 0,HS5.out.blk.cell 0,(HS5.out.get (i:=0) rfl:Blk _ b14 _ _).cell 1,(HS5.out.get (i:=0) rfl:Blk _ b14 _ _).cell 2,(HS5.out.get (i:=0) rfl:Blk _ b14 _ _).cell 3,(HS5.out.get (i:=0) rfl:Blk _ b14 _ _).cell 4,(HS5.out.get (i:=0) rfl:Blk _ b14 _ _).cell 5⟩,?_⟩
        iterate 3
         refine cR_ (v:=?_) rfl ?_ ?_
         rotate_left
         ·intro W hW
          try (obtain ⟨z1,z2,z3,z4,z5,z6,z7⟩:_/\_/\_/\_/\_/\_/\_:=hW)
          go_simp
          try rfl
         simp only [Act.put,sa_,sb_,sc_]
        refine wpCanon_nil ?_
        clear HSD
        go_wp2
        go_roundw
        case rel=>exact ⟨j+1,by omega,by go_num,A2,B',us2,es2,HS5.out,HN2.out,HW2.out,HLN2.out⟩
        case measure=>simp [intOf];omega
       ·clear hL
        rw [List.length_cons]
        iterate 3
         refine cR_ (v:=?_) rfl ?_ ?_
         rotate_left
         ·intro W hW
          try (obtain ⟨z1,z2,z3,z4,z5,z6,z7⟩:_/\_/\_/\_/\_/\_/\_:=hW)
          go_simp
          try rfl
         simp only [Act.put,sa_,sb_,sc_]
        iterate 11
         refine wpCanon_skip rfl (by kernel_rfl) (by rfl) ?_
         simp only [Act.put,sa_,sb_,sc_]
        refine cA_ rfl ?_
        go_wp2
        refine ⟨.inr ⟨(HS5.out.get (i:=0) rfl:Blk _ b14 _ _).cell 0,HS5.out.blk.cell 0,(HS5.out.get (i:=0) rfl:Blk _ b14 _ _).cell 1,(HS5.out.get (i:=0) rfl:Blk _ b14 _ _).cell 2,(HS5.out.get (i:=0) rfl:Blk _ b14 _ _).cell 3,(HS5.out.get (i:=0) rfl:Blk _ b14 _ _).cell 4,(HS5.out.get (i:=0) rfl:Blk _ b14 _ _).cell 5⟩,?_⟩
        iterate 11
         refine wpCanon_skip rfl (by kernel_rfl) (by rfl) ?_
         simp only [Act.put,sa_,sb_,sc_]
        refine cA_ rfl ?_
        go_wp2
        refine ⟨.inr ⟨(HS5.out.get (i:=0) rfl:Blk _ b14 _ _).cell 0,HS5.out.blk.cell 0,(HS5.out.get (i:=0) rfl:Blk _ b14 _ _).cell 1,(HS5.out.get (i:=0) rfl:Blk _ b14 _ _).cell 2,(HS5.out.get (i:=0) rfl:Blk _ b14 _ _).cell 3,(HS5.out.get (i:=0) rfl:Blk _ b14 _ _).cell 4,(HS5.out.get (i:=0) rfl:Blk _ b14 _ _).cell 5⟩,?_⟩
        refine cA_ rfl ?_
        go_wp2
        refine ⟨.inr ⟨(HS5.out.get (i:=0) rfl:Blk _ b14 _ _).cell 0,HS5.out.blk.cell 0,(HS5.out.get (i:=0) rfl:Blk _ b14 _ _).cell 1,(HS5.out.get (i:=0) rfl:Blk _ b14 _ _).cell 2,(HS5.out.get (i:=0) rfl:Blk _ b14 _ _).cell 3,(HS5.out.get (i:=0) rfl:Blk _ b14 _ _).cell 4,(HS5.out.get (i:=0) rfl:Blk _ b14 _ _).cell 5⟩,?_⟩
        iterate 2
         refine wpCanon_skip rfl (by kernel_rfl) (by rfl) ?_
         simp only [Act.put,sa_,sb_,sc_]
        iterate 1
         refine cR_ (v:=?_) rfl ?_ ?_
         rotate_left
         ·intro W hW
          try (obtain ⟨z1,z2,z3,z4,z5,z6,z7⟩:_/\_/\_/\_/\_/\_/\_:=hW)
          go_simp
          try rfl
         simp only [Act.put,sa_,sb_,sc_]
        refine wpCanon_nil ?_
        go_wp2
        go_roundw
        case rel=>exact ⟨j+1,by omega,by go_num,A2,B',us2,es2,HS5.out,HN2.out,HW2.out,HLN2.out⟩
        case measure=>simp [intOf];omega
 ·obtain rfl:k=os.length:=by omega
  have K:=Hd hs.kept
  clear hs hsn hwd
  go_wp2
  go_ret
  exact ⟨rfl,K.out⟩
end
end Go.Proofs.YtjcgphhpaenjkaaGreat

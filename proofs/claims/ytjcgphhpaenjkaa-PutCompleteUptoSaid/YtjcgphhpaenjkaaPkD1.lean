import Derived.Test.YtjcgphhpaenjkaaPkC5
import Derived.Test.YtjcgphhpaenjkaaPkC8
import Derived.Test.YtjcgphhpaenjkaaPkC9
import Derived.Test.YtjcgphhpaenjkaaPkD0
set_option maxHeartbeats 64000000
set_option maxRecDepth 100000
set_option linter.unusedVariables false
namespace Go.Proofs.Ytjcgphhpaenjkaa
open Go.RowKit
section
variable {P:Program} {md:Region.Mode} {ops:Array Oper} {Q:Exit->Act->World->Prop} {k:Nat} {C:World->Prop}
theorem wpCanon_skip2 {i:Nat} {rest:List Nat} {listed:Array Bool} {a:Act} {w:World} {o:Oper} (ho':ops.toList[i]?=some o)
  (hr:early md ops k i o=true) (hw:Region.wanted o (yielded ops a.tmps)=false) (h:wpCanon P md ops Q k C rest (listed.setIfInBounds i true) (a.put o.dst undef) w):wpCanon P md ops Q k C (i::rest) listed a w:=by
 have ho:ops[i]?=some o:=by rw [<-Array.getElem?_toList];exact ho'
 simp only [wpCanon,ho]
 rw [if_pos hr]
 exact ⟨undef,.inr ⟨hw,rfl⟩,h⟩
end
section
variable {w w1 w':World} {G S:Nat->Prop} {b p q m dm d:Nat} {A B:Ar} {Φ:Fr} {C:Cf} {P:Pm} {v:Pv}
theorem PX.went (hb:Blk w' m 77 (cellsX {v with next:=iV 1,way:=pV d})) (hr:PRd w' S p dm C v P) (hX:MX w' d p (λ x=>Fresh w1 w' x/\x≠d) (Mc.new P.sep P.level)) (hf:Fresh w1 w' d) (hm:m < w1.heap.size) (hS:¬S m) (old:∀ x,S x->x < w1.heap.size) (h5:P.nx≠5):PX w' m d p (λ x=>S x\/(Fresh w1 w' x/\x≠d)) C P.goes:=by
 refine ⟨⟨_,hb,rfl,(λ h=>by cases h),λ _=>⟨{hr.mono (λ _ _ h=>.inl h) with way:=λ _ _=>rfl,nw:=λ _=>(hr.nw h5).mono (λ _ _ h=>.inl h)},λ d' hd=>?_,λ h=>?_⟩⟩,λ h=>?_⟩
 ·obtain rfl:Mc.new P.sep P.level=d':=Option.some.inj hd
  exact ⟨hX.mono (λ _ _ h=>.inr h),λ e=>by have:=hf.1;omega⟩
 ·rcases h with h|h
  ·have h1:=old _ h;have h2:=hf.1;omega
  ·exact h.2 rfl
 ·rcases h with h|h
  ·exact hS h
  ·have h2:=h.1.1;omega
theorem went_sub {x:Nat} (hf:Fresh w1 w' d) (h1:w.heap.size<=w1.heap.size) (h:x=d\/S x\/(Fresh w1 w' x/\x≠d)):(x=m\/x=dm\/S x)\/(Fresh w w' x/\¬Shr G w1 w' x):=by
 rcases h with h|h|h
 ·subst h;exact .inr ⟨⟨Nat.le_trans h1 hf.1,hf.2⟩,λ hg=>hg.2 hf⟩
 ·exact .inl (.inr (.inr h))
 ·exact .inr ⟨⟨Nat.le_trans h1 h.1.1,h.1.2⟩,λ hg=>hg.2 h.1⟩
end
section
variable {w:World} {G S:Nat->Prop} {b p q m dm:Nat} {A B:Ar} {Φ:Fr} {C:Cf} {P:Pm}
theorem plockX_no (hJ:JX w G Φ p A) (off:∀ x,x=m\/x=dm\/S x->¬G x) (h:PX w m dm p S C P) (hx:P.nx=2) (ok:POk A P) (old:∀ x,S x->x < w.heap.size) (ht:(opLock A P.id P.word).1=false):Calls Try.prog 22 #[pV m] w λ e w'=>e=.returned (.tuple #[.bool (stepP C.leaf C.inner A P).1.1,.bool (stepP C.leaf C.inner A P).1.2])/\PPX w w' G Φ p (stepP C.leaf C.inner A P).2.1 m dm S C (stepP C.leaf C.inner A P).2.2:=by
 have HOLD:Hid (∀ x,S x->x < w.heap.size):=old
 clear old
 obtain ⟨oke,okf⟩:=ok.lock hx
 have okk:=ok.key (by omega) (by omega)
 rw [stepP_2 hx oke]
 replace oke:=Hd oke
 have hz:Hid (P.sep.length<=64):=okk.1
 have hzk:Hid (P.key.length<=64):=okk.2.1
 have hzv:Hid (P.val.length<=256):=okk.2.2
 clear ok okf okk
 rw [if_pos ht]
 replace ht:=Hd ht
 obtain ⟨⟨v,hb,hn,_,hgo⟩,hom⟩:=h
 have hgo:=hgo (by omega)
 have Enext:Hid (v.next=.int .i64 2):=by show v.next=_;rw [hn,hx];rfl
 have Ea:Hid (v.a=.pointer (some ⟨p,0,none⟩)):=hgo.rd.a
 have Eid:Hid (v.id=.int .i64 P.id):=hgo.rd.id
 have Eword:Hid (v.word=.int .u64 P.word):=hgo.rd.word
 obtain ⟨sepA,sepc,esep,_,_⟩:=hgo.rd.sep.form
 try simp only [List.length_map] at esep
 replace esep:=Hd esep
 have Esep:Hid (v.sep=.slice sepA P.sep.length sepc):=esep.out
 clear esep
 have Elevel:Hid (v.level=.int .i64 P.level):=hgo.rd.level
 have HL:=Hd hb.lt
 have HB:=Hd hb
 have HGO:=Hd hgo
 have HJ:=Hd hJ
 have HOF:Hid (∀ x,x=m\/x=dm\/S x->¬G x):=off
 have HOM:Hid (¬S m):=hom
 have K:Hid (Keeps (λ x=>G x\/x=m\/x=dm) w w):=Hd (Keeps.refl _ _)
 have HNX:Hid (P.nx=2):=hx
 clear hb hgo hJ off hom hn hx
 have HU:Hid (U64 P.word):=HGO.out.rd.u64
 unfold pV
 go_enter Try.func22,Try.ntmps22
 go_wp2_with fail
 go_step3
 go_wp2_with fail
 refine rC_ [0,1,2,3,4,5,6,7,8,9,10,11,12,13,14,15,16,17] 12 (λ W=>W.cell? ⟨m,0,none⟩=some (.pointer (some ⟨p,0,none⟩))/\W.cell? ⟨m,12,none⟩=some (.int .i64 P.id)/\W.cell? ⟨m,13,none⟩=some (.int .u64 P.word)) ?_ ?_
 ·exact ⟨(Pv.aX_ HB.out).trans (congrArg some Ea.out),(Pv.idX_ HB.out).trans (congrArg some Eid.out),(Pv.wordX_ HB.out).trans (congrArg some Eword.out)⟩
 refine canon_at (λ w1 hw=>?_)
 have hk:Keeps Nob w w1:=by rw [hw];exact Keeps.drew _ _
 clear hw
 replace HB:=Hd (HB.out.keeps hk id)
 replace HGO:=gn_ HGO hk
 replace HJ:=Hd (HJ.out.nob hk)
 replace K:=tr_ K hk
 clear hk
 iterate 12
  refine cR_ (v:=?_) rfl ?_ ?_
  rotate_left
  ·intro W hW
   try (obtain ⟨z1,z2,z3⟩:_/\_/\_:=hW)
   go_simp
   try rfl
  simp only [Act.put,sa_,sb_,sc_]
 refine cA_ rfl ?_
 go_wp2_with (go_at_call 40;refine (HJ.out.lockX (ix:=P.id) HU.out).mono ?_;rintro e w2 ⟨rfl,hj,hk⟩)
 rw [oke.out,ht.out]
 unfold iV
 replace HB:=Hd (HB.out.keeps hk (HOF.out m (.inl rfl)))
 replace HGO:=gg_ HGO hk HOF
 replace HJ:=Hd hj
 replace K:=ky_ K hk
 clear hk hj
 refine ⟨.inl (by kernel_rfl),?_⟩
 iterate 5
  refine cR_ (v:=?_) rfl ?_ ?_
  rotate_left
  ·intro W hW
   try (obtain ⟨z1,z2,z3⟩:_/\_/\_:=hW)
   go_simp
   try rfl
  simp only [Act.put,sa_,sb_,sc_]
 refine wpCanon_nil ?_
 go_wp2_with fail
 have HSW:=Hd K.out.size
 refine (pgoesX (l:=P.level) HB.out Ea.out Elevel.out Esep.out (by have h:=HGO.out.rd.sep;rw [Esep.out] at h;exact h) hz.out).mono ?_
 rintro e w3 ⟨d,rfl,hf,hX,hb,hk⟩
 have HR:=Hd HGO.out.rd
 replace HR:=Hd (HR.out.keeps hk (λ x _ hx e=>HOM.out (e▸hx)))
 replace HJ:=Hd (HJ.out.shr hk (λ x _ hx e=>HOF.out m (.inl rfl) (e▸hx)))
 replace K:=kx_ K hk
 have HX:=Hd hX
 have HF:=Hd hf
 have HB1:=Hd hb
 clear hX hf hb hk HB HGO
 go_wp2
 try rw [Exit.noGoto_ret]
 go_ret2
 have hlt:m < w2.heap.size:=Nat.lt_of_lt_of_le HL.out HSW.out
 exact ⟨rfl,Shr G w2 w3,d,_,HJ.out,λ _ h=>h.1,K.out,PX.went HB1.out HR.out HX.out HF.out hlt HOM.out (λ x hx=>Nat.lt_of_lt_of_le (HOLD.out x hx) HSW.out) (by rw [HNX.out];decide),λ x hx=>went_sub HF.out HSW.out hx,.inr ⟨Nat.le_trans HSW.out HF.out.1,HF.out.2⟩⟩
theorem plockX_leaf (hJ:JX w G Φ p A) (off:∀ x,x=m\/x=dm\/S x->¬G x) (h:PX w m dm p S C P) (hx:P.nx=2) (ok:POk A P) (hdd:∃ d,P.D=some d) (ht:(opLock A P.id P.word).1=true) (hl:P.level=0) {o:Bool} (ho:over (newP P) C.leaf C.inner=o):Calls Try.prog 22 #[pV m] w λ e w'=>e=.returned (.tuple #[.bool (stepP C.leaf C.inner A P).1.1,.bool (stepP C.leaf C.inner A P).1.2])/\PPX w w' G Φ p (stepP C.leaf C.inner A P).2.1 m dm S C (stepP C.leaf C.inner A P).2.2:=by
 obtain ⟨oke,okf⟩:=ok.lock hx
 have okk:=ok.key (by omega) (by omega)
 rw [stepP_2 hx oke]
 replace oke:=Hd oke
 have hz:Hid (P.sep.length<=64):=okk.1
 have hzk:Hid (P.key.length<=64):=okk.2.1
 have hzv:Hid (P.val.length<=256):=okk.2.2
 have okr:=Hd (okf ht).1
 have okw:=Hd (okf ht).2.1
 clear ok okf okk
 rw [if_neg (by rw [ht];decide)]
 replace ht:=Hd ht
 obtain ⟨⟨v,hb,hn,_,hgo⟩,hom⟩:=h
 have hgo:=hgo (by omega)
 have Enext:Hid (v.next=.int .i64 2):=by show v.next=_;rw [hn,hx];rfl
 have Ea:Hid (v.a=.pointer (some ⟨p,0,none⟩)):=hgo.rd.a
 have Eid:Hid (v.id=.int .i64 P.id):=hgo.rd.id
 have Eword:Hid (v.word=.int .u64 P.word):=hgo.rd.word
 obtain ⟨sepA,sepc,esep,_,_⟩:=hgo.rd.sep.form
 try simp only [List.length_map] at esep
 replace esep:=Hd esep
 have Esep:Hid (v.sep=.slice sepA P.sep.length sepc):=esep.out
 clear esep
 have Elevel:Hid (v.level=.int .i64 P.level):=hgo.rd.level
 have Ethere:Hid (v.there=.bool P.there):=hgo.rd.there
 obtain ⟨keyA,keyc,ekey,_,_⟩:=hgo.rd.key.form
 try simp only [List.length_map] at ekey
 replace ekey:=Hd ekey
 have Ekey:Hid (v.key=.slice keyA P.key.length keyc):=ekey.out
 clear ekey
 obtain ⟨valA,valc,eval,_,_⟩:=hgo.rd.val.form
 try simp only [List.length_map] at eval
 replace eval:=Hd eval
 have Eval:Hid (v.val=.slice valA P.val.length valc):=eval.out
 clear eval
 have Ec0:Hid (v.c0=.int .i64 C.nodes):=hgo.rd.c0
 have Ec1:Hid (v.c1=.int .i64 C.leaf):=hgo.rd.c1
 have Ec2:Hid (v.c2=.int .i64 C.inner):=hgo.rd.c2
 have Ec3:Hid (v.c3=.int .i64 C.fill):=hgo.rd.c3
 have Ec4:Hid (v.c4=.int .i64 C.block):=hgo.rd.c4
 have hndo:=hgo.rd.old
 obtain ⟨oA1,ok1,e1,_,_⟩:=hndo.1.high.form
 obtain ⟨oA3,ok3,e3,_,_⟩:=hndo.2.keys.form
 obtain ⟨oA4,ok4,e4,_,_⟩:=hndo.2.vals.form
 obtain ⟨oA5,ok5,e5,_,_⟩:=hndo.2.kids.form
 try simp only [List.length_map] at e1 e5
 have Eo0:Hid (v.o0=.int .i64 P.old.lvl):=hndo.1.lvl
 have Eo1:Hid (v.o1=.slice oA1 P.old.high.length ok1):=e1
 have Eo2:Hid (v.o2=.int .i64 P.old.right):=hndo.1.right
 have Eo3:Hid (v.o3=.slice oA3 P.old.keys.length ok3):=e3
 have Eo4:Hid (v.o4=.slice oA4 P.old.vals.length ok4):=e4
 have Eo5:Hid (v.o5=.slice oA5 P.old.kids.length ok5):=e5
 have HNo:Hid (∀ W,PRd W S p dm C v P->IsHd W S (.int .i64 P.old.lvl) (.slice oA1 P.old.high.length ok1) (.int .i64 P.old.right) P.old/\IsBd W S (.slice oA3 P.old.keys.length ok3) (.slice oA4 P.old.vals.length ok4) (.slice oA5 P.old.kids.length ok5) P.old):=λ W hr=>by
  have h0:=hr.old
  rw [Eo0.out,Eo1.out,Eo2.out,Eo3.out,Eo4.out,Eo5.out] at h0
  exact ⟨h0.1,h0.2⟩
 clear hndo e1 e3 e4 e5
 have HL:=Hd hb.lt
 have HB:=Hd hb
 have HGO:=Hd hgo
 have HJ:=Hd hJ
 have HOF:Hid (∀ x,x=m\/x=dm\/S x->¬G x):=off
 have HOM:Hid (¬S m):=hom
 have K:Hid (Keeps (λ x=>G x\/x=m\/x=dm) w w):=Hd (Keeps.refl _ _)
 have HNX:Hid (P.nx=2):=hx
 clear hb hgo hJ off hom hn hx
 have HU:Hid (U64 P.word):=HGO.out.rd.u64
 rw [if_pos hl]
 cases o
 all_goals
  first|rw [if_pos ho]|rw [if_neg (by rw [ho];decide)]
  have hnw:newP P=wth P.old P.key P.val:=by unfold newP;rw [if_pos hl]
  rw [hnw] at ho ⊢
  have hov:=Hd ho
  have Elevel:Hid (v.level=.int .i64 0):=by have:=Elevel.out;rw [hl] at this;exact this
  clear hl hnw ho
  obtain ⟨d,hd⟩:=hdd
  have HDL:=Hd (HGO.out.des d hd).1.lt
  clear hd
  unfold pV
  go_enter Try.func22,Try.ntmps22
  go_wp2_with fail
  go_step3
  go_wp2_with fail
  refine rC_ [0,1,2,3,4,5,6,7,8,9,10,11,12,13,14,15,16,17] 12 (λ W=>W.cell? ⟨m,0,none⟩=some (.pointer (some ⟨p,0,none⟩))/\W.cell? ⟨m,12,none⟩=some (.int .i64 P.id)/\W.cell? ⟨m,13,none⟩=some (.int .u64 P.word)) ?_ ?_
  ·exact ⟨(Pv.aX_ HB.out).trans (congrArg some Ea.out),(Pv.idX_ HB.out).trans (congrArg some Eid.out),(Pv.wordX_ HB.out).trans (congrArg some Eword.out)⟩
  refine canon_at (λ w1 hw=>?_)
  have hk:Keeps Nob w w1:=by rw [hw];exact Keeps.drew _ _
  clear hw
  replace HB:=Hd (HB.out.keeps hk id)
  replace HGO:=gn_ HGO hk
  replace HJ:=Hd (HJ.out.nob hk)
  replace K:=tr_ K hk
  clear hk
  iterate 12
   refine cR_ (v:=?_) rfl ?_ ?_
   rotate_left
   ·intro W hW
    try (obtain ⟨z1,z2,z3⟩:_/\_/\_:=hW)
    go_simp
    try rfl
   simp only [Act.put,sa_,sb_,sc_]
  refine cA_ rfl ?_
  go_wp2_with (go_at_call 40;refine (HJ.out.lockX (ix:=P.id) HU.out).mono ?_;rintro e w2 ⟨rfl,hj,hk⟩)
  rw [oke.out,ht.out]
  unfold iV
  replace HB:=Hd (HB.out.keeps hk (HOF.out m (.inl rfl)))
  replace HGO:=gg_ HGO hk HOF
  replace HJ:=Hd hj
  replace K:=ky_ K hk
  clear hk hj
  refine ⟨.inl (by kernel_rfl),?_⟩
  iterate 5
   refine cR_ (v:=?_) rfl ?_ ?_
   rotate_left
   ·intro W hW
    try (obtain ⟨z1,z2,z3⟩:_/\_/\_:=hW)
    go_simp
    try rfl
   simp only [Act.put,sa_,sb_,sc_]
  refine wpCanon_nil ?_
  go_wp2_with fail
  refine rC_ [0,1,2,3,4,5,6,7,8,9,10,11,12,13] 8 (λ W=>W.cell? ⟨m,14,none⟩=some (.int .i64 P.old.lvl)/\W.cell? ⟨m,15,none⟩=some (.slice oA1 P.old.high.length ok1)/\W.cell? ⟨m,16,none⟩=some (.int .i64 P.old.right)/\W.cell? ⟨m,17,none⟩=some (.slice oA3 P.old.keys.length ok3)/\W.cell? ⟨m,18,none⟩=some (.slice oA4 P.old.vals.length ok4)/\W.cell? ⟨m,19,none⟩=some (.slice oA5 P.old.kids.length ok5)/\W.cell? ⟨m,11,none⟩=some (.slice sepA P.sep.length sepc)) ?_ ?_
  ·exact ⟨(Pv.o0X_ HB.out).trans (congrArg some Eo0.out),(Pv.o1X_ HB.out).trans (congrArg some Eo1.out),(Pv.o2X_ HB.out).trans (congrArg some Eo2.out),(Pv.o3X_ HB.out).trans (congrArg some Eo3.out),(Pv.o4X_ HB.out).trans (congrArg some Eo4.out),(Pv.o5X_ HB.out).trans (congrArg some Eo5.out),(Pv.sepX_ HB.out).trans (congrArg some Esep.out)⟩
  refine canon_at (λ w3 hw=>?_)
  have hk:Keeps Nob w2 w3:=by rw [hw];exact Keeps.drew _ _
  clear hw
  replace HB:=Hd (HB.out.keeps hk id)
  replace HGO:=gn_ HGO hk
  replace HJ:=Hd (HJ.out.nob hk)
  replace K:=tr_ K hk
  clear hk
  iterate 8
   refine cR_ (v:=?_) rfl ?_ ?_
   rotate_left
   ·intro W hW
    try (obtain ⟨z1,z2,z3,z4,z5,z6,z7⟩:_/\_/\_/\_/\_/\_/\_:=hW)
    go_simp
    try rfl
   simp only [Act.put,sa_,sb_,sc_]
  refine cA_ rfl ?_
  go_wp2_with (go_at_call 41;refine (findP (HNo.out _ HGO.out.rd).2.keys (by have h:=HGO.out.rd.sep;rw [Esep.out] at h;exact h)).mono ?_;rintro e w4 ⟨rfl,hk⟩)
  replace HB:=Hd (HB.out.keeps hk id)
  replace HGO:=gn_ HGO hk
  replace HJ:=Hd (HJ.out.nob hk)
  replace K:=tr_ K hk
  clear hk
  refine ⟨.inl (by kernel_rfl),?_⟩
  iterate 5
   refine cR_ (v:=?_) rfl ?_ ?_
   rotate_left
   ·intro W hW
    try (obtain ⟨z1,z2,z3,z4,z5,z6,z7⟩:_/\_/\_/\_/\_/\_/\_:=hW)
    go_simp
    try rfl
   simp only [Act.put,sa_,sb_,sc_]
  refine wpCanon_nil ?_
  have qlevel:w4.cell? ⟨m,10,none⟩=some (.int .i64 0):=(Pv.levelX_ HB.out).trans (congrArg some Elevel.out)
  have qthere:w4.cell? ⟨m,43,none⟩=some (.bool P.there):=(Pv.thereX_ HB.out).trans (congrArg some Ethere.out)
  have gthere:=HB.out.frozen 43
  go_wp2_with fail
  go_step3
  go_wp2_with fail
  clear qlevel qthere gthere
  refine code_at (λ w5 hw=>?_)
  have hk:Keeps (λ x=>x=m) w4 w5:=by rw [hw];exact Keeps.setCell _ (M:=λ x=>x=m) rfl _
  have hb:Blk w5 m 77 (cellsX {v with there:=.bool (has P.old.keys P.sep)}):=by rw [hw];exact (Pv.putthereX HB.out _)
  clear hw
  replace HB:=Hd hb
  replace HGO:=gm_ HGO hk HOM
  replace HJ:=jm_ HJ hk HOF
  replace K:=kx_ K hk
  clear hk hb
  refine rC_ [0,1,2,3,4,5,6,7,8,9,10,11,12,13,14,15,16] 13 (λ W=>W.cell? ⟨m,14,none⟩=some (.int .i64 P.old.lvl)/\W.cell? ⟨m,15,none⟩=some (.slice oA1 P.old.high.length ok1)/\W.cell? ⟨m,16,none⟩=some (.int .i64 P.old.right)/\W.cell? ⟨m,17,none⟩=some (.slice oA3 P.old.keys.length ok3)/\W.cell? ⟨m,18,none⟩=some (.slice oA4 P.old.vals.length ok4)/\W.cell? ⟨m,19,none⟩=some (.slice oA5 P.old.kids.length ok5)/\W.cell? ⟨m,6,none⟩=some (.slice keyA P.key.length keyc)/\W.cell? ⟨m,7,none⟩=some (.slice valA P.val.length valc)) ?_ ?_
  ·exact ⟨(Pv.o0X_ HB.out).trans (congrArg some Eo0.out),(Pv.o1X_ HB.out).trans (congrArg some Eo1.out),(Pv.o2X_ HB.out).trans (congrArg some Eo2.out),(Pv.o3X_ HB.out).trans (congrArg some Eo3.out),(Pv.o4X_ HB.out).trans (congrArg some Eo4.out),(Pv.o5X_ HB.out).trans (congrArg some Eo5.out),(Pv.keyX_ HB.out).trans (congrArg some Ekey.out),(Pv.valX_ HB.out).trans (congrArg some Eval.out)⟩
  refine canon_at (λ w6 hw=>?_)
  have hk:Keeps Nob w5 w6:=by rw [hw];exact Keeps.drew _ _
  clear hw
  replace HB:=Hd (HB.out.keeps hk id)
  replace HGO:=gn_ HGO hk
  replace HJ:=Hd (HJ.out.nob hk)
  replace K:=tr_ K hk
  clear hk
  iterate 13
   refine cR_ (v:=?_) rfl ?_ ?_
   rotate_left
   ·intro W hW
    try (obtain ⟨z1,z2,z3,z4,z5,z6,z7,z8⟩:_/\_/\_/\_/\_/\_/\_/\_:=hW)
    go_simp
    try rfl
   simp only [Act.put,sa_,sb_,sc_]
  have HSA:=Hd K.out.size
  refine cA_ rfl ?_
  go_wp2_with (go_at_call 42;refine (withP ⟨(HNo.out _ HGO.out.rd).1,(HNo.out _ HGO.out.rd).2⟩ (by have h:=HGO.out.rd.key;rw [Ekey.out] at h;exact h) (by have h:=HGO.out.rd.val;rw [Eval.out] at h;exact h) (okw.out.smI (by decide)) (by have:=hzk.out;unfold Sm;omega) (by have:=hzv.out;unfold Sm;omega)).mono ?_;rintro e w7 ⟨d0,d1,d2,d3,d4,d5,rfl,hO,hk⟩)
  replace HB:=Hd (HB.out.keeps hk id)
  replace HGO:=gn_ HGO hk
  replace HJ:=Hd (HJ.out.shr hk (λ _ _ _=>id))
  replace K:=tr_ K hk
  clear hk
  obtain ⟨D1,dj1,f1⟩:=Own.form hO.1.high
  obtain ⟨D3,dj3,f3⟩:=OTx.form hO.2.keys
  obtain ⟨D4,dj4,f4⟩:=OTx.form hO.2.vals
  obtain ⟨D5,dj5,f5⟩:=Own.form hO.2.kids
  have f0:=hO.1.lvl
  have f2:=hO.1.right
  unfold iV at f0 f2
  subst f0 f1 f2 f3 f4 f5
  have HO:=Hd hO.r
  clear hO
  have HSB:Hid (w7.heap.size<=w7.heap.size):=Nat.le_refl _
  refine ⟨.inl (by kernel_rfl),?_⟩
  iterate 2
   refine cR_ (v:=?_) rfl ?_ ?_
   rotate_left
   ·intro W hW
    try (obtain ⟨z1,z2,z3,z4,z5,z6,z7,z8⟩:_/\_/\_/\_/\_/\_/\_/\_:=hW)
    go_simp
    try rfl
   simp only [Act.put,sa_,sb_,sc_]
  refine cA_ rfl ?_
  have qn0:=Pv.n0X_ HB.out
  have qn1:=Pv.n1X_ HB.out
  have qn2:=Pv.n2X_ HB.out
  have qn3:=Pv.n3X_ HB.out
  have qn4:=Pv.n4X_ HB.out
  have qn5:=Pv.n5X_ HB.out
  have gn0:=HB.out.frozen 20
  have gn1:=HB.out.frozen 21
  have gn2:=HB.out.frozen 22
  have gn3:=HB.out.frozen 23
  have gn4:=HB.out.frozen 24
  have gn5:=HB.out.frozen 25
  go_wp2
  clear qn0 qn1 qn2 qn3 qn4 qn5 gn0 gn1 gn2 gn3 gn4 gn5
  refine ⟨.inl (by kernel_rfl),?_⟩
  refine canon_at (λ w8 hw=>?_)
  have hk:Keeps (λ x=>x=m) w7 w8:=by rw [hw];exact (((((Keeps.setCell _ (M:=λ x=>x=m) rfl _).setCell' (λ _=>rfl) _).setCell' (λ _=>rfl) _).setCell' (λ _=>rfl) _).setCell' (λ _=>rfl) _).setCell' (λ _=>rfl) _
  have hb:Blk w8 m 77 (cellsX {{v with there:=.bool (has P.old.keys P.sep)} with n0:=.int .i64 (wth P.old P.key P.val).lvl,n1:=.slice D1 (wth P.old P.key P.val).high.length dj1,n2:=.int .i64 (wth P.old P.key P.val).right,n3:=.slice D3 (wth P.old P.key P.val).keys.length dj3,n4:=.slice D4 (wth P.old P.key P.val).vals.length dj4,n5:=.slice D5 (wth P.old P.key P.val).kids.length dj5}):=by rw [hw];exact (Pv.putn5X (Pv.putn4X (Pv.putn3X (Pv.putn2X (Pv.putn1X (Pv.putn0X HB.out _) _) _) _) _) _)
  clear hw
  replace HB:=Hd hb
  replace HGO:=gm_ HGO hk HOM
  replace HO:=Hd (HO.out.keeps hk (λ x _ hx e=>by have h1:=hx.1;have h2:=HL.out;have h3:x=m:=e;have h4:=HSA.out;omega))
  replace HJ:=Hd (HJ.out.keeps hk (λ x _ hx e=>HOF.out m (.inl rfl) (e▸hx.1)))
  replace K:=kx_ K hk
  replace HSB:=Hd (Nat.le_trans HSB.out hk.size)
  clear hk hb
  refine wpCanon_nil ?_
  go_wp2_with fail
  refine rC_ [0,1,2,3,4,5,6,7,8,9,10,11,12] 11 (λ W=>W.cell? ⟨m,20,none⟩=some (.int .i64 (wth P.old P.key P.val).lvl)/\W.cell? ⟨m,21,none⟩=some (.slice D1 (wth P.old P.key P.val).high.length dj1)/\W.cell? ⟨m,22,none⟩=some (.int .i64 (wth P.old P.key P.val).right)/\W.cell? ⟨m,23,none⟩=some (.slice D3 (wth P.old P.key P.val).keys.length dj3)/\W.cell? ⟨m,24,none⟩=some (.slice D4 (wth P.old P.key P.val).vals.length dj4)/\W.cell? ⟨m,25,none⟩=some (.slice D5 (wth P.old P.key P.val).kids.length dj5)/\W.cell? ⟨m,1,none⟩=some (.int .i64 C.nodes)/\W.cell? ⟨m,2,none⟩=some (.int .i64 C.leaf)/\W.cell? ⟨m,3,none⟩=some (.int .i64 C.inner)/\W.cell? ⟨m,4,none⟩=some (.int .i64 C.fill)/\W.cell? ⟨m,5,none⟩=some (.int .i64 C.block)) ?_ ?_
  ·exact ⟨Pv.n0X_ HB.out,Pv.n1X_ HB.out,Pv.n2X_ HB.out,Pv.n3X_ HB.out,Pv.n4X_ HB.out,Pv.n5X_ HB.out,(Pv.c0X_ HB.out).trans (congrArg some Ec0.out),(Pv.c1X_ HB.out).trans (congrArg some Ec1.out),(Pv.c2X_ HB.out).trans (congrArg some Ec2.out),(Pv.c3X_ HB.out).trans (congrArg some Ec3.out),(Pv.c4X_ HB.out).trans (congrArg some Ec4.out)⟩
  refine canon_at (λ w9 hw=>?_)
  have hk:Keeps Nob w8 w9:=by rw [hw];exact Keeps.drew _ _
  clear hw
  replace HB:=Hd (HB.out.keeps hk id)
  replace HGO:=gn_ HGO hk
  replace HO:=Hd (HO.out.keeps hk (λ _ _ _=>id))
  replace HJ:=Hd (HJ.out.nob hk)
  replace K:=tr_ K hk
  replace HSB:=Hd (Nat.le_trans HSB.out hk.size)
  clear hk
  iterate 11
   refine cR_ (v:=?_) rfl ?_ ?_
   rotate_left
   ·intro W hW
    try (obtain ⟨z1,z2,z3,z4,z5,z6,z7,z8,z9,z10,z11⟩:_/\_/\_/\_/\_/\_/\_/\_/\_/\_/\_:=hW)
    go_simp
    try rfl
   simp only [Act.put,sa_,sb_,sc_]
  refine cA_ rfl ?_
  go_wp2_with (go_at_call 44;refine (overP HO.out).mono ?_;rintro e w10 ⟨rfl,hk⟩)
  rw [hov.out]
  replace HB:=Hd (HB.out.keeps hk id)
  replace HGO:=gn_ HGO hk
  replace HO:=Hd (HO.out.keeps hk (λ _ _ _=>id))
  replace HJ:=Hd (HJ.out.nob hk)
  replace K:=tr_ K hk
  replace HSB:=Hd (Nat.le_trans HSB.out hk.size)
  clear hk
  refine ⟨.inl (by kernel_rfl),?_⟩
  iterate 1
   refine cR_ (v:=?_) rfl ?_ ?_
   rotate_left
   ·intro W hW
    try (obtain ⟨z1,z2,z3,z4,z5,z6,z7,z8,z9,z10,z11⟩:_/\_/\_/\_/\_/\_/\_/\_/\_/\_/\_:=hW)
    go_simp
    try rfl
   simp only [Act.put,sa_,sb_,sc_]
  refine wpCanon_nil ?_
  go_wp2_with fail
  refine (ponX (nx:=_) HB.out).mono ?_
  rintro e w11 ⟨rfl,hb,hk⟩
  replace HB:=Hd hb
  replace HGO:=gm_ HGO hk HOM
  replace HO:=Hd (HO.out.keeps hk (λ x _ hx e=>by have h1:=hx.1;have h2:=HL.out;have h3:x=m:=e;have h4:=HSA.out;omega))
  replace HJ:=Hd (HJ.out.keeps hk (λ x _ hx e=>HOF.out m (.inl rfl) (e▸hx.1)))
  replace K:=kx_ K hk
  replace HSB:=Hd (Nat.le_trans HSB.out hk.size)
  clear hk hb
  go_wp2
  rw [Exit.noGoto_ret]
  go_ret2
  refine ⟨rfl,Shr G w6 w7,dm,λ x=>S x\/Fresh w6 w7 x,HJ.out,λ _ h=>h.1,K.out,⟨⟨_,HB.out,rfl,(λ h=>by cases h),λ _=>⟨{HGO.out.rd.mono (λ _ _ h=>.inl h) with nw:=λ _=>HO.out.mono (λ _ _ h=>.inr h),there:=rfl},λ d' hd'=>⟨(HGO.out.des d' hd').1.mono (λ _ _ h=>.inl h),(HGO.out.des d' hd').2⟩,λ h=>?_⟩⟩,λ h=>?_⟩,λ x hx=>?_,.inl rfl⟩
  ·rcases h with h|h
   ·exact HGO.out.nd h
   ·have h1:=h.1;have h2:=HSA.out;have h3:=HDL.out;omega
  ·rcases h with h|h
   ·exact HOM.out h
   ·have h1:=h.1;have h2:=HSA.out;have h3:=HL.out;omega
  ·rcases hx with h|h|h
   ·exact .inl (.inr (.inl h))
   ·exact .inl (.inr (.inr h))
   ·exact .inr ⟨⟨Nat.le_trans HSA.out h.1,Nat.lt_of_lt_of_le h.2 HSB.out⟩,λ hg=>hg.2 h⟩
theorem plockX_keep (hJ:JX w G Φ p A) (off:∀ x,x=m\/x=dm\/S x->¬G x) (h:PX w m dm p S C P) (hx:P.nx=2) (ok:POk A P) (hdd:∃ d,P.D=some d) (ht:(opLock A P.id P.word).1=true) (hl:¬P.level=0) (hh:has P.old.keys P.sep=true):Calls Try.prog 22 #[pV m] w λ e w'=>e=.returned (.tuple #[.bool (stepP C.leaf C.inner A P).1.1,.bool (stepP C.leaf C.inner A P).1.2])/\PPX w w' G Φ p (stepP C.leaf C.inner A P).2.1 m dm S C (stepP C.leaf C.inner A P).2.2:=by
 obtain ⟨oke,okf⟩:=ok.lock hx
 have okk:=ok.key (by omega) (by omega)
 rw [stepP_2 hx oke]
 replace oke:=Hd oke
 have hz:Hid (P.sep.length<=64):=okk.1
 have hzk:Hid (P.key.length<=64):=okk.2.1
 have hzv:Hid (P.val.length<=256):=okk.2.2
 have okr:=Hd (okf ht).1
 have okw:=Hd (okf ht).2.1
 clear ok okf okk
 rw [if_neg (by rw [ht];decide)]
 replace ht:=Hd ht
 obtain ⟨⟨v,hb,hn,_,hgo⟩,hom⟩:=h
 have hgo:=hgo (by omega)
 have Enext:Hid (v.next=.int .i64 2):=by show v.next=_;rw [hn,hx];rfl
 have Ea:Hid (v.a=.pointer (some ⟨p,0,none⟩)):=hgo.rd.a
 have Eid:Hid (v.id=.int .i64 P.id):=hgo.rd.id
 have Eword:Hid (v.word=.int .u64 P.word):=hgo.rd.word
 obtain ⟨sepA,sepc,esep,_,_⟩:=hgo.rd.sep.form
 try simp only [List.length_map] at esep
 replace esep:=Hd esep
 have Esep:Hid (v.sep=.slice sepA P.sep.length sepc):=esep.out
 clear esep
 have Elevel:Hid (v.level=.int .i64 P.level):=hgo.rd.level
 have Ec0:Hid (v.c0=.int .i64 C.nodes):=hgo.rd.c0
 have hndo:=hgo.rd.old
 obtain ⟨oA1,ok1,e1,_,_⟩:=hndo.1.high.form
 obtain ⟨oA3,ok3,e3,_,_⟩:=hndo.2.keys.form
 obtain ⟨oA4,ok4,e4,_,_⟩:=hndo.2.vals.form
 obtain ⟨oA5,ok5,e5,_,_⟩:=hndo.2.kids.form
 try simp only [List.length_map] at e1 e5
 have Eo0:Hid (v.o0=.int .i64 P.old.lvl):=hndo.1.lvl
 have Eo1:Hid (v.o1=.slice oA1 P.old.high.length ok1):=e1
 have Eo2:Hid (v.o2=.int .i64 P.old.right):=hndo.1.right
 have Eo3:Hid (v.o3=.slice oA3 P.old.keys.length ok3):=e3
 have Eo4:Hid (v.o4=.slice oA4 P.old.vals.length ok4):=e4
 have Eo5:Hid (v.o5=.slice oA5 P.old.kids.length ok5):=e5
 have HNo:Hid (∀ W,PRd W S p dm C v P->IsHd W S (.int .i64 P.old.lvl) (.slice oA1 P.old.high.length ok1) (.int .i64 P.old.right) P.old/\IsBd W S (.slice oA3 P.old.keys.length ok3) (.slice oA4 P.old.vals.length ok4) (.slice oA5 P.old.kids.length ok5) P.old):=λ W hr=>by
  have h0:=hr.old
  rw [Eo0.out,Eo1.out,Eo2.out,Eo3.out,Eo4.out,Eo5.out] at h0
  exact ⟨h0.1,h0.2⟩
 clear hndo e1 e3 e4 e5
 have HL:=Hd hb.lt
 have HB:=Hd hb
 have HGO:=Hd hgo
 have HJ:=Hd hJ
 have HOF:Hid (∀ x,x=m\/x=dm\/S x->¬G x):=off
 have HOM:Hid (¬S m):=hom
 have K:Hid (Keeps (λ x=>G x\/x=m\/x=dm) w w):=Hd (Keeps.refl _ _)
 have HNX:Hid (P.nx=2):=hx
 clear hb hgo hJ off hom hn hx
 have HU:Hid (U64 P.word):=HGO.out.rd.u64
 rw [if_neg hl,if_pos hh]
 replace hh:=Hd hh
 have nl:(P.level==0)=false:=by simpa using hl
 clear hl
 unfold pV
 go_enter Try.func22,Try.ntmps22
 go_wp2_with fail
 go_step3
 go_wp2_with fail
 refine rC_ [0,1,2,3,4,5,6,7,8,9,10,11,12,13,14,15,16,17] 12 (λ W=>W.cell? ⟨m,0,none⟩=some (.pointer (some ⟨p,0,none⟩))/\W.cell? ⟨m,12,none⟩=some (.int .i64 P.id)/\W.cell? ⟨m,13,none⟩=some (.int .u64 P.word)) ?_ ?_
 ·exact ⟨(Pv.aX_ HB.out).trans (congrArg some Ea.out),(Pv.idX_ HB.out).trans (congrArg some Eid.out),(Pv.wordX_ HB.out).trans (congrArg some Eword.out)⟩
 refine canon_at (λ w1 hw=>?_)
 have hk:Keeps Nob w w1:=by rw [hw];exact Keeps.drew _ _
 clear hw
 replace HB:=Hd (HB.out.keeps hk id)
 replace HGO:=gn_ HGO hk
 replace HJ:=Hd (HJ.out.nob hk)
 replace K:=tr_ K hk
 clear hk
 iterate 12
  refine cR_ (v:=?_) rfl ?_ ?_
  rotate_left
  ·intro W hW
   try (obtain ⟨z1,z2,z3⟩:_/\_/\_:=hW)
   go_simp
   try rfl
  simp only [Act.put,sa_,sb_,sc_]
 refine cA_ rfl ?_
 go_wp2_with (go_at_call 40;refine (HJ.out.lockX (ix:=P.id) HU.out).mono ?_;rintro e w2 ⟨rfl,hj,hk⟩)
 rw [oke.out,ht.out]
 unfold iV
 replace HB:=Hd (HB.out.keeps hk (HOF.out m (.inl rfl)))
 replace HGO:=gg_ HGO hk HOF
 replace HJ:=Hd hj
 replace K:=ky_ K hk
 clear hk hj
 refine ⟨.inl (by kernel_rfl),?_⟩
 iterate 5
  refine cR_ (v:=?_) rfl ?_ ?_
  rotate_left
  ·intro W hW
   try (obtain ⟨z1,z2,z3⟩:_/\_/\_:=hW)
   go_simp
   try rfl
  simp only [Act.put,sa_,sb_,sc_]
 refine wpCanon_nil ?_
 go_wp2_with fail
 refine rC_ [0,1,2,3,4,5,6,7,8,9,10,11,12,13] 8 (λ W=>W.cell? ⟨m,14,none⟩=some (.int .i64 P.old.lvl)/\W.cell? ⟨m,15,none⟩=some (.slice oA1 P.old.high.length ok1)/\W.cell? ⟨m,16,none⟩=some (.int .i64 P.old.right)/\W.cell? ⟨m,17,none⟩=some (.slice oA3 P.old.keys.length ok3)/\W.cell? ⟨m,18,none⟩=some (.slice oA4 P.old.vals.length ok4)/\W.cell? ⟨m,19,none⟩=some (.slice oA5 P.old.kids.length ok5)/\W.cell? ⟨m,11,none⟩=some (.slice sepA P.sep.length sepc)) ?_ ?_
 ·exact ⟨(Pv.o0X_ HB.out).trans (congrArg some Eo0.out),(Pv.o1X_ HB.out).trans (congrArg some Eo1.out),(Pv.o2X_ HB.out).trans (congrArg some Eo2.out),(Pv.o3X_ HB.out).trans (congrArg some Eo3.out),(Pv.o4X_ HB.out).trans (congrArg some Eo4.out),(Pv.o5X_ HB.out).trans (congrArg some Eo5.out),(Pv.sepX_ HB.out).trans (congrArg some Esep.out)⟩
 refine canon_at (λ w3 hw=>?_)
 have hk:Keeps Nob w2 w3:=by rw [hw];exact Keeps.drew _ _
 clear hw
 replace HB:=Hd (HB.out.keeps hk id)
 replace HGO:=gn_ HGO hk
 replace HJ:=Hd (HJ.out.nob hk)
 replace K:=tr_ K hk
 clear hk
 iterate 8
  refine cR_ (v:=?_) rfl ?_ ?_
  rotate_left
  ·intro W hW
   try (obtain ⟨z1,z2,z3,z4,z5,z6,z7⟩:_/\_/\_/\_/\_/\_/\_:=hW)
   go_simp
   try rfl
  simp only [Act.put,sa_,sb_,sc_]
 refine cA_ rfl ?_
 go_wp2_with (go_at_call 41;refine (findP (HNo.out _ HGO.out.rd).2.keys (by have h:=HGO.out.rd.sep;rw [Esep.out] at h;exact h)).mono ?_;rintro e w4 ⟨rfl,hk⟩)
 replace HB:=Hd (HB.out.keeps hk id)
 replace HGO:=gn_ HGO hk
 replace HJ:=Hd (HJ.out.nob hk)
 replace K:=tr_ K hk
 clear hk
 refine ⟨.inl (by kernel_rfl),?_⟩
 iterate 5
  refine cR_ (v:=?_) rfl ?_ ?_
  rotate_left
  ·intro W hW
   try (obtain ⟨z1,z2,z3,z4,z5,z6,z7⟩:_/\_/\_/\_/\_/\_/\_:=hW)
   go_simp
   try rfl
  simp only [Act.put,sa_,sb_,sc_]
 refine wpCanon_nil ?_
 have qlevel:w4.cell? ⟨m,10,none⟩=some (.int .i64 P.level):=(Pv.levelX_ HB.out).trans (congrArg some Elevel.out)
 have hhb:=hh.out
 rw [hhb]
 clear hhb
 go_wp2_with fail
 go_step3
 go_wp2_with fail
 clear qlevel
 refine rC_ [0,1,2,3,4,5,6,7,8,9,10,11,12] 11 (λ W=>W.cell? ⟨m,1,none⟩=some (.int .i64 C.nodes)) ?_ ?_
 ·exact (Pv.c0X_ HB.out).trans (congrArg some Ec0.out)
 refine canon_at (λ w5 hw=>?_)
 have hk:Keeps Nob w4 w5:=by rw [hw];exact Keeps.drew _ _
 clear hw
 replace HB:=Hd (HB.out.keeps hk id)
 replace HGO:=gn_ HGO hk
 replace HJ:=Hd (HJ.out.nob hk)
 replace K:=tr_ K hk
 clear hk
 iterate 3
  refine cR_ (v:=?_) rfl ?_ ?_
  rotate_left
  ·intro W hW
   try (replace hW:World.cell? _ _=some _:=hW)
   go_simp
   try rfl
  simp only [Act.put,sa_,sb_,sc_]
 iterate 8
  refine wpCanon_skip2 rfl (by kernel_rfl) (by rfl) ?_
  simp only [Act.put,sa_,sb_,sc_]
 refine cA_ rfl ?_
 go_wp2
 refine ⟨.inl (by kernel_rfl),?_⟩
 iterate 1
  refine cR_ (v:=?_) rfl ?_ ?_
  rotate_left
  ·intro W hW
   try (replace hW:World.cell? _ _=some _:=hW)
   go_simp
   try rfl
  simp only [Act.put,sa_,sb_,sc_]
 refine wpCanon_nil ?_
 go_wp2_with fail
 refine (ponX (nx:=5) HB.out).mono ?_
 rintro e w6 ⟨rfl,hb,hk⟩
 replace HB:=Hd hb
 replace HGO:=gm_ HGO hk HOM
 replace HJ:=jm_ HJ hk HOF
 replace K:=kx_ K hk
 clear hk hb
 go_wp2
 rw [Exit.noGoto_ret]
 go_ret2
 exact ⟨rfl,G,dm,S,HJ.out,λ _ h=>h,K.out,⟨⟨{v with next:=iV 5},HB.out,rfl,(λ h=>by cases h),λ _=>⟨{HGO.out.rd with nw:=λ h=>absurd rfl h},HGO.out.des,HGO.out.nd⟩⟩,HOM.out⟩,λ x hx=>.inl (.inr hx),.inl rfl⟩
theorem plockX_join (hJ:JX w G Φ p A) (off:∀ x,x=m\/x=dm\/S x->¬G x) (h:PX w m dm p S C P) (hx:P.nx=2) (ok:POk A P) (hdd:∃ d,P.D=some d) (ht:(opLock A P.id P.word).1=true) (hl:¬P.level=0) (hh:has P.old.keys P.sep=false) {o:Bool} (ho:over (newP P) C.leaf C.inner=o):Calls Try.prog 22 #[pV m] w λ e w'=>e=.returned (.tuple #[.bool (stepP C.leaf C.inner A P).1.1,.bool (stepP C.leaf C.inner A P).1.2])/\PPX w w' G Φ p (stepP C.leaf C.inner A P).2.1 m dm S C (stepP C.leaf C.inner A P).2.2:=by
 obtain ⟨oke,okf⟩:=ok.lock hx
 have okk:=ok.key (by omega) (by omega)
 rw [stepP_2 hx oke]
 replace oke:=Hd oke
 have hz:Hid (P.sep.length<=64):=okk.1
 have hzk:Hid (P.key.length<=64):=okk.2.1
 have hzv:Hid (P.val.length<=256):=okk.2.2
 have okr:=Hd (okf ht).1
 have okw:=Hd (okf ht).2.1
 clear ok okf okk
 rw [if_neg (by rw [ht];decide)]
 replace ht:=Hd ht
 obtain ⟨⟨v,hb,hn,_,hgo⟩,hom⟩:=h
 have hgo:=hgo (by omega)
 have Enext:Hid (v.next=.int .i64 2):=by show v.next=_;rw [hn,hx];rfl
 have Ea:Hid (v.a=.pointer (some ⟨p,0,none⟩)):=hgo.rd.a
 have Eid:Hid (v.id=.int .i64 P.id):=hgo.rd.id
 have Eword:Hid (v.word=.int .u64 P.word):=hgo.rd.word
 obtain ⟨sepA,sepc,esep,_,_⟩:=hgo.rd.sep.form
 try simp only [List.length_map] at esep
 replace esep:=Hd esep
 have Esep:Hid (v.sep=.slice sepA P.sep.length sepc):=esep.out
 clear esep
 have Elevel:Hid (v.level=.int .i64 P.level):=hgo.rd.level
 have Ehalf:Hid (v.half=.int .i64 P.half):=hgo.rd.half
 have Ec0:Hid (v.c0=.int .i64 C.nodes):=hgo.rd.c0
 have Ec1:Hid (v.c1=.int .i64 C.leaf):=hgo.rd.c1
 have Ec2:Hid (v.c2=.int .i64 C.inner):=hgo.rd.c2
 have Ec3:Hid (v.c3=.int .i64 C.fill):=hgo.rd.c3
 have Ec4:Hid (v.c4=.int .i64 C.block):=hgo.rd.c4
 have hndo:=hgo.rd.old
 obtain ⟨oA1,ok1,e1,_,_⟩:=hndo.1.high.form
 obtain ⟨oA3,ok3,e3,_,_⟩:=hndo.2.keys.form
 obtain ⟨oA4,ok4,e4,_,_⟩:=hndo.2.vals.form
 obtain ⟨oA5,ok5,e5,_,_⟩:=hndo.2.kids.form
 try simp only [List.length_map] at e1 e5
 have Eo0:Hid (v.o0=.int .i64 P.old.lvl):=hndo.1.lvl
 have Eo1:Hid (v.o1=.slice oA1 P.old.high.length ok1):=e1
 have Eo2:Hid (v.o2=.int .i64 P.old.right):=hndo.1.right
 have Eo3:Hid (v.o3=.slice oA3 P.old.keys.length ok3):=e3
 have Eo4:Hid (v.o4=.slice oA4 P.old.vals.length ok4):=e4
 have Eo5:Hid (v.o5=.slice oA5 P.old.kids.length ok5):=e5
 have HNo:Hid (∀ W,PRd W S p dm C v P->IsHd W S (.int .i64 P.old.lvl) (.slice oA1 P.old.high.length ok1) (.int .i64 P.old.right) P.old/\IsBd W S (.slice oA3 P.old.keys.length ok3) (.slice oA4 P.old.vals.length ok4) (.slice oA5 P.old.kids.length ok5) P.old):=λ W hr=>by
  have h0:=hr.old
  rw [Eo0.out,Eo1.out,Eo2.out,Eo3.out,Eo4.out,Eo5.out] at h0
  exact ⟨h0.1,h0.2⟩
 clear hndo e1 e3 e4 e5
 have HL:=Hd hb.lt
 have HB:=Hd hb
 have HGO:=Hd hgo
 have HJ:=Hd hJ
 have HOF:Hid (∀ x,x=m\/x=dm\/S x->¬G x):=off
 have HOM:Hid (¬S m):=hom
 have K:Hid (Keeps (λ x=>G x\/x=m\/x=dm) w w):=Hd (Keeps.refl _ _)
 have HNX:Hid (P.nx=2):=hx
 clear hb hgo hJ off hom hn hx
 have HU:Hid (U64 P.word):=HGO.out.rd.u64
 rw [if_neg hl,if_neg (by rw [hh];decide)]
 cases o
 all_goals
  first|rw [if_pos ho]|rw [if_neg (by rw [ho];decide)]
  have hnw:newP P=jnd P.old P.sep P.half:=by unfold newP;rw [if_neg hl]
  rw [hnw] at ho ⊢
  have hov:=Hd ho
  replace hh:=Hd hh
  have nl:(P.level==0)=false:=by simpa using hl
  clear hl hnw ho
  obtain ⟨d,hd⟩:=hdd
  have HDL:=Hd (HGO.out.des d hd).1.lt
  clear hd
  unfold pV
  go_enter Try.func22,Try.ntmps22
  go_wp2_with fail
  go_step3
  go_wp2_with fail
  refine rC_ [0,1,2,3,4,5,6,7,8,9,10,11,12,13,14,15,16,17] 12 (λ W=>W.cell? ⟨m,0,none⟩=some (.pointer (some ⟨p,0,none⟩))/\W.cell? ⟨m,12,none⟩=some (.int .i64 P.id)/\W.cell? ⟨m,13,none⟩=some (.int .u64 P.word)) ?_ ?_
  ·exact ⟨(Pv.aX_ HB.out).trans (congrArg some Ea.out),(Pv.idX_ HB.out).trans (congrArg some Eid.out),(Pv.wordX_ HB.out).trans (congrArg some Eword.out)⟩
  refine canon_at (λ w1 hw=>?_)
  have hk:Keeps Nob w w1:=by rw [hw];exact Keeps.drew _ _
  clear hw
  replace HB:=Hd (HB.out.keeps hk id)
  replace HGO:=gn_ HGO hk
  replace HJ:=Hd (HJ.out.nob hk)
  replace K:=tr_ K hk
  clear hk
  iterate 12
   refine cR_ (v:=?_) rfl ?_ ?_
   rotate_left
   ·intro W hW
    try (obtain ⟨z1,z2,z3⟩:_/\_/\_:=hW)
    go_simp
    try rfl
   simp only [Act.put,sa_,sb_,sc_]
  refine cA_ rfl ?_
  go_wp2_with (go_at_call 40;refine (HJ.out.lockX (ix:=P.id) HU.out).mono ?_;rintro e w2 ⟨rfl,hj,hk⟩)
  rw [oke.out,ht.out]
  unfold iV
  replace HB:=Hd (HB.out.keeps hk (HOF.out m (.inl rfl)))
  replace HGO:=gg_ HGO hk HOF
  replace HJ:=Hd hj
  replace K:=ky_ K hk
  clear hk hj
  refine ⟨.inl (by kernel_rfl),?_⟩
  iterate 5
   refine cR_ (v:=?_) rfl ?_ ?_
   rotate_left
   ·intro W hW
    try (obtain ⟨z1,z2,z3⟩:_/\_/\_:=hW)
    go_simp
    try rfl
   simp only [Act.put,sa_,sb_,sc_]
  refine wpCanon_nil ?_
  go_wp2_with fail
  refine rC_ [0,1,2,3,4,5,6,7,8,9,10,11,12,13] 8 (λ W=>W.cell? ⟨m,14,none⟩=some (.int .i64 P.old.lvl)/\W.cell? ⟨m,15,none⟩=some (.slice oA1 P.old.high.length ok1)/\W.cell? ⟨m,16,none⟩=some (.int .i64 P.old.right)/\W.cell? ⟨m,17,none⟩=some (.slice oA3 P.old.keys.length ok3)/\W.cell? ⟨m,18,none⟩=some (.slice oA4 P.old.vals.length ok4)/\W.cell? ⟨m,19,none⟩=some (.slice oA5 P.old.kids.length ok5)/\W.cell? ⟨m,11,none⟩=some (.slice sepA P.sep.length sepc)) ?_ ?_
  ·exact ⟨(Pv.o0X_ HB.out).trans (congrArg some Eo0.out),(Pv.o1X_ HB.out).trans (congrArg some Eo1.out),(Pv.o2X_ HB.out).trans (congrArg some Eo2.out),(Pv.o3X_ HB.out).trans (congrArg some Eo3.out),(Pv.o4X_ HB.out).trans (congrArg some Eo4.out),(Pv.o5X_ HB.out).trans (congrArg some Eo5.out),(Pv.sepX_ HB.out).trans (congrArg some Esep.out)⟩
  refine canon_at (λ w3 hw=>?_)
  have hk:Keeps Nob w2 w3:=by rw [hw];exact Keeps.drew _ _
  clear hw
  replace HB:=Hd (HB.out.keeps hk id)
  replace HGO:=gn_ HGO hk
  replace HJ:=Hd (HJ.out.nob hk)
  replace K:=tr_ K hk
  clear hk
  iterate 8
   refine cR_ (v:=?_) rfl ?_ ?_
   rotate_left
   ·intro W hW
    try (obtain ⟨z1,z2,z3,z4,z5,z6,z7⟩:_/\_/\_/\_/\_/\_/\_:=hW)
    go_simp
    try rfl
   simp only [Act.put,sa_,sb_,sc_]
  refine cA_ rfl ?_
  go_wp2_with (go_at_call 41;refine (findP (HNo.out _ HGO.out.rd).2.keys (by have h:=HGO.out.rd.sep;rw [Esep.out] at h;exact h)).mono ?_;rintro e w4 ⟨rfl,hk⟩)
  replace HB:=Hd (HB.out.keeps hk id)
  replace HGO:=gn_ HGO hk
  replace HJ:=Hd (HJ.out.nob hk)
  replace K:=tr_ K hk
  clear hk
  refine ⟨.inl (by kernel_rfl),?_⟩
  iterate 5
   refine cR_ (v:=?_) rfl ?_ ?_
   rotate_left
   ·intro W hW
    try (obtain ⟨z1,z2,z3,z4,z5,z6,z7⟩:_/\_/\_/\_/\_/\_/\_:=hW)
    go_simp
    try rfl
   simp only [Act.put,sa_,sb_,sc_]
  refine wpCanon_nil ?_
  have qlevel:w4.cell? ⟨m,10,none⟩=some (.int .i64 P.level):=(Pv.levelX_ HB.out).trans (congrArg some Elevel.out)
  have hhb:=hh.out
  rw [hhb]
  clear hhb
  go_wp2_with fail
  go_step3
  go_wp2_with fail
  clear qlevel
  refine rC_ [0,1,2,3,4,5,6,7,8,9,10,11,12,13,14,15,16,17,18,19] 13 (λ W=>W.cell? ⟨m,14,none⟩=some (.int .i64 P.old.lvl)/\W.cell? ⟨m,15,none⟩=some (.slice oA1 P.old.high.length ok1)/\W.cell? ⟨m,16,none⟩=some (.int .i64 P.old.right)/\W.cell? ⟨m,17,none⟩=some (.slice oA3 P.old.keys.length ok3)/\W.cell? ⟨m,18,none⟩=some (.slice oA4 P.old.vals.length ok4)/\W.cell? ⟨m,19,none⟩=some (.slice oA5 P.old.kids.length ok5)/\W.cell? ⟨m,11,none⟩=some (.slice sepA P.sep.length sepc)/\W.cell? ⟨m,40,none⟩=some (.int .i64 P.half)) ?_ ?_
  ·exact ⟨(Pv.o0X_ HB.out).trans (congrArg some Eo0.out),(Pv.o1X_ HB.out).trans (congrArg some Eo1.out),(Pv.o2X_ HB.out).trans (congrArg some Eo2.out),(Pv.o3X_ HB.out).trans (congrArg some Eo3.out),(Pv.o4X_ HB.out).trans (congrArg some Eo4.out),(Pv.o5X_ HB.out).trans (congrArg some Eo5.out),(Pv.sepX_ HB.out).trans (congrArg some Esep.out),(Pv.halfX_ HB.out).trans (congrArg some Ehalf.out)⟩
  refine canon_at (λ w5 hw=>?_)
  have hk:Keeps Nob w4 w5:=by rw [hw];exact Keeps.drew _ _
  clear hw
  replace HB:=Hd (HB.out.keeps hk id)
  replace HGO:=gn_ HGO hk
  replace HJ:=Hd (HJ.out.nob hk)
  replace K:=tr_ K hk
  clear hk
  iterate 13
   refine cR_ (v:=?_) rfl ?_ ?_
   rotate_left
   ·intro W hW
    try (obtain ⟨z1,z2,z3,z4,z5,z6,z7,z8⟩:_/\_/\_/\_/\_/\_/\_/\_:=hW)
    go_simp
    try rfl
   simp only [Act.put,sa_,sb_,sc_]
  have HSA:=Hd K.out.size
  refine cA_ rfl ?_
  go_wp2_with (go_at_call 43;refine (joinedP (kid:=P.half) ⟨(HNo.out _ HGO.out.rd).1,(HNo.out _ HGO.out.rd).2⟩ (by have h:=HGO.out.rd.sep;rw [Esep.out] at h;exact h) (okw.out.smI (by decide)) (by have:=hz.out;unfold Sm;omega)).mono ?_;rintro e w6 ⟨d0,d1,d2,d3,d4,d5,rfl,hO,hk⟩)
  replace HB:=Hd (HB.out.keeps hk id)
  replace HGO:=gn_ HGO hk
  replace HJ:=Hd (HJ.out.shr hk (λ _ _ _=>id))
  replace K:=tr_ K hk
  clear hk
  obtain ⟨D1,dj1,f1⟩:=Own.form hO.1.high
  obtain ⟨D3,dj3,f3⟩:=OTx.form hO.2.keys
  obtain ⟨D4,dj4,f4⟩:=OTx.form hO.2.vals
  obtain ⟨D5,dj5,f5⟩:=Own.form hO.2.kids
  have f0:=hO.1.lvl
  have f2:=hO.1.right
  unfold iV at f0 f2
  subst f0 f1 f2 f3 f4 f5
  have HO:=Hd hO.r
  clear hO
  have HSB:Hid (w6.heap.size<=w6.heap.size):=Nat.le_refl _
  refine ⟨.inl (by kernel_rfl),?_⟩
  iterate 5
   refine cR_ (v:=?_) rfl ?_ ?_
   rotate_left
   ·intro W hW
    try (obtain ⟨z1,z2,z3,z4,z5,z6,z7,z8⟩:_/\_/\_/\_/\_/\_/\_/\_:=hW)
    go_simp
    try rfl
   simp only [Act.put,sa_,sb_,sc_]
  refine cA_ rfl ?_
  have qn0:=Pv.n0X_ HB.out
  have qn1:=Pv.n1X_ HB.out
  have qn2:=Pv.n2X_ HB.out
  have qn3:=Pv.n3X_ HB.out
  have qn4:=Pv.n4X_ HB.out
  have qn5:=Pv.n5X_ HB.out
  have gn0:=HB.out.frozen 20
  have gn1:=HB.out.frozen 21
  have gn2:=HB.out.frozen 22
  have gn3:=HB.out.frozen 23
  have gn4:=HB.out.frozen 24
  have gn5:=HB.out.frozen 25
  go_wp2
  clear qn0 qn1 qn2 qn3 qn4 qn5 gn0 gn1 gn2 gn3 gn4 gn5
  refine ⟨.inl (by kernel_rfl),?_⟩
  refine canon_at (λ w7 hw=>?_)
  have hk:Keeps (λ x=>x=m) w6 w7:=by rw [hw];exact (((((Keeps.setCell _ (M:=λ x=>x=m) rfl _).setCell' (λ _=>rfl) _).setCell' (λ _=>rfl) _).setCell' (λ _=>rfl) _).setCell' (λ _=>rfl) _).setCell' (λ _=>rfl) _
  have hb:Blk w7 m 77 (cellsX {v with n0:=.int .i64 (jnd P.old P.sep P.half).lvl,n1:=.slice D1 (jnd P.old P.sep P.half).high.length dj1,n2:=.int .i64 (jnd P.old P.sep P.half).right,n3:=.slice D3 (jnd P.old P.sep P.half).keys.length dj3,n4:=.slice D4 (jnd P.old P.sep P.half).vals.length dj4,n5:=.slice D5 (jnd P.old P.sep P.half).kids.length dj5}):=by rw [hw];exact (Pv.putn5X (Pv.putn4X (Pv.putn3X (Pv.putn2X (Pv.putn1X (Pv.putn0X HB.out _) _) _) _) _) _)
  clear hw
  replace HB:=Hd hb
  replace HGO:=gm_ HGO hk HOM
  replace HO:=Hd (HO.out.keeps hk (λ x _ hx e=>by have h1:=hx.1;have h2:=HL.out;have h3:x=m:=e;have h4:=HSA.out;omega))
  replace HJ:=Hd (HJ.out.keeps hk (λ x _ hx e=>HOF.out m (.inl rfl) (e▸hx.1)))
  replace K:=kx_ K hk
  replace HSB:=Hd (Nat.le_trans HSB.out hk.size)
  clear hk hb
  refine wpCanon_nil ?_
  go_wp2_with fail
  refine rC_ [0,1,2,3,4,5,6,7,8,9,10,11,12] 11 (λ W=>W.cell? ⟨m,20,none⟩=some (.int .i64 (jnd P.old P.sep P.half).lvl)/\W.cell? ⟨m,21,none⟩=some (.slice D1 (jnd P.old P.sep P.half).high.length dj1)/\W.cell? ⟨m,22,none⟩=some (.int .i64 (jnd P.old P.sep P.half).right)/\W.cell? ⟨m,23,none⟩=some (.slice D3 (jnd P.old P.sep P.half).keys.length dj3)/\W.cell? ⟨m,24,none⟩=some (.slice D4 (jnd P.old P.sep P.half).vals.length dj4)/\W.cell? ⟨m,25,none⟩=some (.slice D5 (jnd P.old P.sep P.half).kids.length dj5)/\W.cell? ⟨m,1,none⟩=some (.int .i64 C.nodes)/\W.cell? ⟨m,2,none⟩=some (.int .i64 C.leaf)/\W.cell? ⟨m,3,none⟩=some (.int .i64 C.inner)/\W.cell? ⟨m,4,none⟩=some (.int .i64 C.fill)/\W.cell? ⟨m,5,none⟩=some (.int .i64 C.block)) ?_ ?_
  ·exact ⟨Pv.n0X_ HB.out,Pv.n1X_ HB.out,Pv.n2X_ HB.out,Pv.n3X_ HB.out,Pv.n4X_ HB.out,Pv.n5X_ HB.out,(Pv.c0X_ HB.out).trans (congrArg some Ec0.out),(Pv.c1X_ HB.out).trans (congrArg some Ec1.out),(Pv.c2X_ HB.out).trans (congrArg some Ec2.out),(Pv.c3X_ HB.out).trans (congrArg some Ec3.out),(Pv.c4X_ HB.out).trans (congrArg some Ec4.out)⟩
  refine canon_at (λ w8 hw=>?_)
  have hk:Keeps Nob w7 w8:=by rw [hw];exact Keeps.drew _ _
  clear hw
  replace HB:=Hd (HB.out.keeps hk id)
  replace HGO:=gn_ HGO hk
  replace HO:=Hd (HO.out.keeps hk (λ _ _ _=>id))
  replace HJ:=Hd (HJ.out.nob hk)
  replace K:=tr_ K hk
  replace HSB:=Hd (Nat.le_trans HSB.out hk.size)
  clear hk
  iterate 11
   refine cR_ (v:=?_) rfl ?_ ?_
   rotate_left
   ·intro W hW
    try (obtain ⟨z1,z2,z3,z4,z5,z6,z7,z8,z9,z10,z11⟩:_/\_/\_/\_/\_/\_/\_/\_/\_/\_/\_:=hW)
    go_simp
    try rfl
   simp only [Act.put,sa_,sb_,sc_]
  refine cA_ rfl ?_
  go_wp2_with (go_at_call 44;refine (overP HO.out).mono ?_;rintro e w9 ⟨rfl,hk⟩)
  rw [hov.out]
  replace HB:=Hd (HB.out.keeps hk id)
  replace HGO:=gn_ HGO hk
  replace HO:=Hd (HO.out.keeps hk (λ _ _ _=>id))
  replace HJ:=Hd (HJ.out.nob hk)
  replace K:=tr_ K hk
  replace HSB:=Hd (Nat.le_trans HSB.out hk.size)
  clear hk
  refine ⟨.inl (by kernel_rfl),?_⟩
  iterate 1
   refine cR_ (v:=?_) rfl ?_ ?_
   rotate_left
   ·intro W hW
    try (obtain ⟨z1,z2,z3,z4,z5,z6,z7,z8,z9,z10,z11⟩:_/\_/\_/\_/\_/\_/\_/\_/\_/\_/\_:=hW)
    go_simp
    try rfl
   simp only [Act.put,sa_,sb_,sc_]
  refine wpCanon_nil ?_
  go_wp2_with fail
  refine (ponX (nx:=_) HB.out).mono ?_
  rintro e w10 ⟨rfl,hb,hk⟩
  replace HB:=Hd hb
  replace HGO:=gm_ HGO hk HOM
  replace HO:=Hd (HO.out.keeps hk (λ x _ hx e=>by have h1:=hx.1;have h2:=HL.out;have h3:x=m:=e;have h4:=HSA.out;omega))
  replace HJ:=Hd (HJ.out.keeps hk (λ x _ hx e=>HOF.out m (.inl rfl) (e▸hx.1)))
  replace K:=kx_ K hk
  replace HSB:=Hd (Nat.le_trans HSB.out hk.size)
  clear hk hb
  go_wp2
  rw [Exit.noGoto_ret]
  go_ret2
  refine ⟨rfl,Shr G w5 w6,dm,λ x=>S x\/Fresh w5 w6 x,HJ.out,λ _ h=>h.1,K.out,⟨⟨_,HB.out,rfl,(λ h=>by cases h),λ _=>⟨{HGO.out.rd.mono (λ _ _ h=>.inl h) with nw:=λ _=>HO.out.mono (λ _ _ h=>.inr h)},λ d' hd'=>⟨(HGO.out.des d' hd').1.mono (λ _ _ h=>.inl h),(HGO.out.des d' hd').2⟩,λ h=>?_⟩⟩,λ h=>?_⟩,λ x hx=>?_,.inl rfl⟩
  ·rcases h with h|h
   ·exact HGO.out.nd h
   ·have h1:=h.1;have h2:=HSA.out;have h3:=HDL.out;omega
  ·rcases h with h|h
   ·exact HOM.out h
   ·have h1:=h.1;have h2:=HSA.out;have h3:=HL.out;omega
  ·rcases hx with h|h|h
   ·exact .inl (.inr (.inl h))
   ·exact .inl (.inr (.inr h))
   ·exact .inr ⟨⟨Nat.le_trans HSA.out h.1,Nat.lt_of_lt_of_le h.2 HSB.out⟩,λ hg=>hg.2 h⟩
theorem plockX (hJ:JX w G Φ p A) (off:∀ x,x=m\/x=dm\/S x->¬G x) (h:PX w m dm p S C P) (hx:P.nx=2) (ok:POk A P) (old:∀ x,S x->x < w.heap.size) (hdd:∃ d,P.D=some d):Calls Try.prog 22 #[pV m] w λ e w'=>e=.returned (.tuple #[.bool (stepP C.leaf C.inner A P).1.1,.bool (stepP C.leaf C.inner A P).1.2])/\PPX w w' G Φ p (stepP C.leaf C.inner A P).2.1 m dm S C (stepP C.leaf C.inner A P).2.2:=by
 cases ht:(opLock A P.id P.word).1 with
 | false=>exact plockX_no hJ off h hx ok old ht
 | true=>
  by_cases hl:P.level=0
  ·exact plockX_leaf hJ off h hx ok hdd ht hl rfl
  ·cases hh:has P.old.keys P.sep with
   | true=>exact plockX_keep hJ off h hx ok hdd ht hl hh
   | false=>
    exact plockX_join hJ off h hx ok hdd ht hl hh rfl
theorem stepPX_2 (hJ:JX w G Φ p A) (off:∀ x,x=m\/x=dm\/S x->¬G x) (h:PX w m dm p S C P) (hx:P.nx=2) (ok:POk A P) (old:∀ x,S x->x < w.heap.size) (hdd:∃ d,P.D=some d):Calls Try.prog 9 #[pV m] w λ e w'=>e=.returned (.tuple #[.bool (stepP C.leaf C.inner A P).1.1,.bool (stepP C.leaf C.inner A P).1.2])/\PPX w w' G Φ p (stepP C.leaf C.inner A P).2.1 m dm S C (stepP C.leaf C.inner A P).2.2:=by
 have FF:=plockX hJ off h hx ok old hdd
 obtain ⟨⟨v,hb,hn,_,_⟩,hom⟩:=h
 have qn:w.cell? ⟨m,9,none⟩=some (.int .i64 2):=(Pv.nextX_ hb).trans (by rw [hn,hx];rfl)
 clear hJ off hb hn hom hx ok
 generalize stepP C.leaf C.inner A P=r at FF ⊢
 obtain ⟨⟨r1,r2⟩,r3,r4⟩:=r
 simp only at FF ⊢
 unfold pV at FF ⊢
 go_enter Try.func9,Try.ntmps9
 go_wp2_with fail
 clear qn
 refine FF.mono ?_
 rintro e w1 ⟨rfl,hp⟩
 clear FF
 go_wp2
 go_ret2
 exact ⟨rfl,hp⟩
end
end Go.Proofs.Ytjcgphhpaenjkaa

import Derived.Test.YtjcgphhpaenjkaaPkC4
set_option maxHeartbeats 64000000
set_option maxRecDepth 100000
set_option linter.unusedVariables false
namespace Go.Proofs.Ytjcgphhpaenjkaa
open Go.RowKit
section
variable {w:World} {G S:Nat->Prop} {b p q m dm:Nat} {A B:Ar} {Φ:Fr} {C:Cf} {P:Pm}
theorem pdownX_go (hJ:JX w G Φ p A) (off:∀ x,x=m\/x=dm\/S x->¬G x) (h:PX w m dm p S C P) (hx:P.nx=1) (ok:POk A P) (hn0:∀ d,P.D=some d->¬(stepM A d).nx=.done):Calls Try.prog 21 #[pV m] w λ e w'=>e=.returned (.tuple #[.bool (stepP C.leaf C.inner A P).1.1,.bool (stepP C.leaf C.inner A P).1.2])/\PPX w w' G Φ p (stepP C.leaf C.inner A P).2.1 m dm S C (stepP C.leaf C.inner A P).2.2:=by
 obtain ⟨d,hd⟩:=ok.des hx
 have lowd:=Hd (ok.low d hd)
 have hn:=hn0 d hd
 rw [stepP_1a hx hd hn]
 clear ok hn0
 have hdh:Hid (P.D=some d):=hd
 obtain ⟨⟨v,hb,hn,_,hgo⟩,hom⟩:=h
 have hgo:=hgo (by omega)
 have Enext:Hid (v.next=.int .i64 1):=by show v.next=_;rw [hn,hx];rfl
 have Eway:Hid (v.way=.pointer (some ⟨dm,0,none⟩)):=hgo.rd.way d hd
 have Elevel:Hid (v.level=.int .i64 P.level):=hgo.rd.level
 have Ethere:Hid (v.there=.bool P.there):=hgo.rd.there
 have HL:=Hd hb.lt
 have HB:=Hd hb
 have HGO:=Hd hgo
 have HJ:=Hd hJ
 have HOF:Hid (∀ x,x=m\/x=dm\/S x->¬G x):=off
 have HOM:Hid (¬S m):=hom
 have K:Hid (Keeps (λ x=>G x\/x=m\/x=dm) w w):=Hd (Keeps.refl _ _)
 have HNX:Hid (P.nx=1):=hx
 clear hb hgo hJ off hom hn hx
 have hM:=HGO.out.des d hdh.out
 have HNE:Hid (dm≠m):=hM.2
 have HND:Hid (¬S dm):=HGO.out.nd
 have HDL:=Hd hM.1.lt
 have FS:=stepX_ HJ.out (HOF.out dm (.inr (.inl rfl))) hM.1 HGO.out.nd (lowd.out)
 have HR:=Hd HGO.out.rd
 clear hM HGO hd
 rw [decide_eq_false hn] at FS
 clear hn
 obtain ⟨M1,hM1⟩:∃ M1,stepM A d=M1:=⟨_,rfl⟩
 rw [hM1] at FS ⊢
 clear hM1
 unfold pV at FS ⊢
 go_enter Try.func21,Try.ntmps21
 have qway:w.cell? ⟨m,8,none⟩=some (.pointer (some ⟨dm,0,none⟩)):=(Pv.wayX_ HB.out).trans (congrArg some Eway.out)
 go_wp2_with fail
 clear qway
 refine FS.mono ?_
 rintro e w1 ⟨rfl,⟨S',hX,hsub⟩,hk⟩
 clear FS
 replace HB:=Hd (HB.out.keeps hk (λ e=>HNE.out e.symm))
 replace HR:=Hd (HR.out.keeps hk (λ x _ hx e=>HND.out (e▸hx)))
 replace HJ:=Hd (HJ.out.shr hk (λ x _ hx e=>HOF.out dm (.inr (.inl rfl)) (e▸hx)))
 have HX:=Hd hX
 have HSB:Hid (∀ x,S' x->S x\/Fresh w w1 x):=hsub
 replace K:=Hd (K.out.trans hk (λ x _ hx=>.inr (.inr hx)))
 have HS1:=Hd hk.size
 clear hX hsub hk
 go_wp2
 go_ret2
 refine ⟨rfl,Shr G w w1,dm,λ x=>S x\/S' x,HJ.out,λ _ h=>h.1,K.out,⟨⟨v,HB.out,?_,?_,λ _=>⟨{HR.out.mono (λ _ _ h=>.inl h) with way:=λ _ _=>HR.out.way d hdh.out},λ d' hd'=>?_,λ h=>?_⟩⟩,λ h=>?_⟩,λ x hx=>?_,.inl rfl⟩
 ·show v.next=iV (P.nx:Int)
  rw [HNX.out];exact Enext.out
 ·intro h
  have h1:P.nx=20:=h
  rw [HNX.out] at h1;cases h1
 ·obtain rfl:M1=d':=Option.some.inj hd'
  exact ⟨HX.out.mono (λ _ _ h=>.inr h),HNE.out⟩
 ·rcases h with h|h
  ·exact HND.out h
  ·rcases HSB.out _ h with h|h
   ·exact HND.out h
   ·have h1:=h.1;have h2:=HDL.out;omega
 ·rcases h with h|h
  ·exact HOM.out h
  ·rcases HSB.out _ h with h|h
   ·exact HOM.out h
   ·have h1:=h.1;have h2:=HL.out;omega
 ·rcases hx with h|h|h
  ·exact .inl (.inr (.inl h))
  ·exact .inl (.inr (.inr h))
  ·rcases HSB.out _ h with h|h
   ·exact .inl (.inr (.inr h))
   ·exact .inr ⟨h,λ hg=>hg.2 h⟩
theorem pdownX_lock (hJ:JX w G Φ p A) (off:∀ x,x=m\/x=dm\/S x->¬G x) (h:PX w m dm p S C P) (hx:P.nx=1) (ok:POk A P) (hn0:∀ d,P.D=some d->(stepM A d).nx=.done) (hcs:∀ d,P.D=some d->(0:Int) < (stepM A d).outId):Calls Try.prog 21 #[pV m] w λ e w'=>e=.returned (.tuple #[.bool (stepP C.leaf C.inner A P).1.1,.bool (stepP C.leaf C.inner A P).1.2])/\PPX w w' G Φ p (stepP C.leaf C.inner A P).2.1 m dm S C (stepP C.leaf C.inner A P).2.2:=by
 obtain ⟨d,hd⟩:=ok.des hx
 have lowd:=Hd (ok.low d hd)
 have hn:=hn0 d hd
 rw [stepP_1 hx hd hn]
 clear ok hn0
 have hdh:Hid (P.D=some d):=hd
 obtain ⟨⟨v,hb,hn,_,hgo⟩,hom⟩:=h
 have hgo:=hgo (by omega)
 have Enext:Hid (v.next=.int .i64 1):=by show v.next=_;rw [hn,hx];rfl
 have Eway:Hid (v.way=.pointer (some ⟨dm,0,none⟩)):=hgo.rd.way d hd
 have Elevel:Hid (v.level=.int .i64 P.level):=hgo.rd.level
 have Ethere:Hid (v.there=.bool P.there):=hgo.rd.there
 have HL:=Hd hb.lt
 have HB:=Hd hb
 have HGO:=Hd hgo
 have HJ:=Hd hJ
 have HOF:Hid (∀ x,x=m\/x=dm\/S x->¬G x):=off
 have HOM:Hid (¬S m):=hom
 have K:Hid (Keeps (λ x=>G x\/x=m\/x=dm) w w):=Hd (Keeps.refl _ _)
 have HNX:Hid (P.nx=1):=hx
 clear hb hgo hJ off hom hn hx
 have hM:=HGO.out.des d hdh.out
 have HNE:Hid (dm≠m):=hM.2
 have HND:Hid (¬S dm):=HGO.out.nd
 have HDL:=Hd hM.1.lt
 have FS:=stepX_ HJ.out (HOF.out dm (.inr (.inl rfl))) hM.1 HGO.out.nd (lowd.out)
 have HR:=Hd HGO.out.rd
 clear hM HGO hd
 rw [decide_eq_true hn] at FS
 clear hn
 replace hcs:=hcs d hdh.out
 obtain ⟨M1,hM1⟩:∃ M1,stepM A d=M1:=⟨_,rfl⟩
 rw [hM1] at FS hcs ⊢
 clear hM1
 rw [if_pos hcs]
 unfold pV at FS ⊢
 go_enter Try.func21,Try.ntmps21
 have qway:w.cell? ⟨m,8,none⟩=some (.pointer (some ⟨dm,0,none⟩)):=(Pv.wayX_ HB.out).trans (congrArg some Eway.out)
 go_wp2_with fail
 clear qway
 refine FS.mono ?_
 rintro e w1 ⟨rfl,⟨S',hX,hsub⟩,hk⟩
 clear FS
 replace HB:=Hd (HB.out.keeps hk (λ e=>HNE.out e.symm))
 replace HR:=Hd (HR.out.keeps hk (λ x _ hx e=>HND.out (e▸hx)))
 replace HJ:=Hd (HJ.out.shr hk (λ x _ hx e=>HOF.out dm (.inr (.inl rfl)) (e▸hx)))
 have HX:=Hd hX
 have HSB:Hid (∀ x,S' x->S x\/Fresh w w1 x):=hsub
 replace K:=Hd (K.out.trans hk (λ x _ hx=>.inr (.inr hx)))
 have HS1:=Hd hk.size
 clear hX hsub hk
 have qway:w1.cell? ⟨m,8,none⟩=some (.pointer (some ⟨dm,0,none⟩)):=(Pv.wayX_ HB.out).trans (congrArg some Eway.out)
 go_wp2_with fail
 clear qway
 refine (atX HX.out).mono ?_
 rintro e w2 ⟨d0,d1,d2,d3,d4,d5,rfl,hO,hk⟩
 have HU:Hid (U64 M1.outWord):=by
  show U64 _
  unfold Mc.outWord
  split
  ·exact HX.out.u64
  ·unfold U64;omega
 replace HB:=Hd (HB.out.keeps hk id)
 replace HR:=Hd (HR.out.keeps hk (λ _ _ _=>id))
 replace HX:=Hd (HX.out.keeps hk id (λ _ _ _=>id))
 replace HJ:=Hd (HJ.out.shr hk (λ _ _ _=>id))
 have HS2:=Hd hk.size
 replace K:=tr_ K hk
 obtain ⟨D1,j1,f1⟩:=Own.form hO.1.high
 obtain ⟨D3,j3,f3⟩:=OTx.form hO.2.keys
 obtain ⟨D4,j4,f4⟩:=OTx.form hO.2.vals
 obtain ⟨D5,j5,f5⟩:=Own.form hO.2.kids
 have f0:=hO.1.lvl
 have f2:=hO.1.right
 unfold iV at f0 f2
 subst f0 f1 f2 f3 f4 f5
 have HO:=Hd hO.r
 clear hO hk
 unfold iV
 have qid:=Pv.idX_ HB.out
 have qword:=Pv.wordX_ HB.out
 have qo0:=Pv.o0X_ HB.out
 have qo1:=Pv.o1X_ HB.out
 have qo2:=Pv.o2X_ HB.out
 have qo3:=Pv.o3X_ HB.out
 have qo4:=Pv.o4X_ HB.out
 have qo5:=Pv.o5X_ HB.out
 have gid:=HB.out.frozen 12
 have gword:=HB.out.frozen 13
 have go0:=HB.out.frozen 14
 have go1:=HB.out.frozen 15
 have go2:=HB.out.frozen 16
 have go3:=HB.out.frozen 17
 have go4:=HB.out.frozen 18
 have go5:=HB.out.frozen 19
 have qlevel:w2.cell? ⟨m,10,none⟩=some (.int .i64 P.level):=(Pv.levelX_ HB.out).trans (congrArg some Elevel.out)
 go_wp2_with fail
 clear qid qword qo0 qo1 qo2 qo3 qo4 qo5 gid gword go0 go1 go2 go3 go4 go5 qlevel
 refine calls_at (λ w3 hw=>?_)
 have hk:Keeps (λ x=>x=m) w2 w3:=by rw [hw];exact (((((((Keeps.setCell _ (M:=λ x=>x=m) rfl _).setCell' (λ _=>rfl) _).setCell' (λ _=>rfl) _).setCell' (λ _=>rfl) _).setCell' (λ _=>rfl) _).setCell' (λ _=>rfl) _).setCell' (λ _=>rfl) _).setCell' (λ _=>rfl) _
 have hb:Blk w3 m 77 (cellsX {v with id:=iV M1.outId,word:=.int .u64 M1.outWord,o0:=.int .i64 M1.outNd.lvl,o1:=.slice D1 M1.outNd.high.length j1,o2:=.int .i64 M1.outNd.right,o3:=.slice D3 M1.outNd.keys.length j3,o4:=.slice D4 M1.outNd.vals.length j4,o5:=.slice D5 M1.outNd.kids.length j5}):=by rw [hw];exact (Pv.puto5X (Pv.puto4X (Pv.puto3X (Pv.puto2X (Pv.puto1X (Pv.puto0X (Pv.putwordX (Pv.putidX HB.out _) _) _) _) _) _) _) _)
 clear hw
 replace HB:=Hd hb
 replace HR:=Hd (HR.out.keeps hk (λ x _ hx e=>HOM.out (e▸hx)))
 replace HX:=Hd (HX.out.keeps hk HNE.out (λ x _ hx e=>by rcases HSB.out _ hx with h|h;exact HOM.out (e▸h);have h1:=h.1;have h2:=HL.out;have h3:x=m:=e;omega))
 replace HO:=Hd (HO.out.keeps hk (λ x _ hx e=>by have h1:=hx.1;have h2:=HL.out;have h3:x=m:=e;have h4:=HS1.out;omega))
 replace HJ:=Hd (HJ.out.keeps hk (λ x _ hx e=>HOF.out m (.inl rfl) (e▸hx.1.1)))
 replace K:=kx_ K hk
 have HS3:=Hd hk.size
 clear hk hb
 refine (ponX (nx:=2) HB.out).mono ?_
 rintro e w4 ⟨rfl,hb,hk⟩
 replace HB:=Hd hb
 replace HR:=Hd (HR.out.keeps hk (λ x _ hx e=>HOM.out (e▸hx)))
 replace HX:=Hd (HX.out.keeps hk HNE.out (λ x _ hx e=>by rcases HSB.out _ hx with h|h;exact HOM.out (e▸h);have h1:=h.1;have h2:=HL.out;have h3:x=m:=e;omega))
 replace HO:=Hd (HO.out.keeps hk (λ x _ hx e=>by have h1:=hx.1;have h2:=HL.out;have h3:x=m:=e;have h4:=HS1.out;omega))
 replace HJ:=Hd (HJ.out.keeps hk (λ x _ hx e=>HOF.out m (.inl rfl) (e▸hx.1.1)))
 replace K:=kx_ K hk
 have HS4:=Hd hk.size
 clear hk hb
 go_wp2
 go_ret2
 refine ⟨rfl,Shr (Shr G w w1) w1 w2,dm,λ x=>S x\/S' x\/Fresh w1 w2 x,HJ.out,λ _ h=>h.1.1,K.out,⟨⟨{{v with id:=iV M1.outId,word:=.int .u64 M1.outWord,o0:=.int .i64 M1.outNd.lvl,o1:=.slice D1 M1.outNd.high.length j1,o2:=.int .i64 M1.outNd.right,o3:=.slice D3 M1.outNd.keys.length j3,o4:=.slice D4 M1.outNd.vals.length j4,o5:=.slice D5 M1.outNd.kids.length j5} with next:=iV 2},HB.out,rfl,(λ h=>by cases h),λ _=>⟨{HR.out.mono (λ _ _ h=>.inl h) with way:=λ _ _=>HR.out.way d hdh.out,id:=rfl,word:=rfl,u64:=HU.out,old:=HO.out.mono (λ _ _ h=>.inr (.inr h)),nw:=λ _=>(HR.out.nw (by rw [HNX.out];decide)).mono (λ _ _ h=>.inl h)},λ d' hd'=>?_,λ h=>?_⟩⟩,λ h=>?_⟩,λ x hx=>?_,.inl rfl⟩
 ·obtain rfl:M1=d':=Option.some.inj hd'
  exact ⟨HX.out.mono (λ _ _ h=>.inr (.inl h)),HNE.out⟩
 ·rcases h with h|h|h
  ·exact HND.out h
  ·rcases HSB.out _ h with h|h
   ·exact HND.out h
   ·have h1:=h.1;have h2:=HDL.out;omega
  ·have h1:=h.1;have h2:=HDL.out;have h3:=HS1.out;omega
 ·rcases h with h|h|h
  ·exact HOM.out h
  ·rcases HSB.out _ h with h|h
   ·exact HOM.out h
   ·have h1:=h.1;have h2:=HL.out;omega
  ·have h1:=h.1;have h2:=HL.out;have h3:=HS1.out;omega
 ·rcases hx with h|h|h|h
  ·exact .inl (.inr (.inl h))
  ·exact .inl (.inr (.inr h))
  ·rcases HSB.out _ h with h|h
   ·exact .inl (.inr (.inr h))
   ·exact .inr ⟨⟨h.1,by have h1:=h.2;have h2:=HS2.out;have h3:=HS3.out;have h4:=HS4.out;omega⟩,λ hg=>hg.1.2 h⟩
  ·exact .inr ⟨⟨by have h1:=h.1;have h2:=HS1.out;omega,by have h1:=h.2;have h3:=HS3.out;have h4:=HS4.out;omega⟩,λ hg=>hg.2 h⟩
theorem pdownX_top (hJ:JX w G Φ p A) (off:∀ x,x=m\/x=dm\/S x->¬G x) (h:PX w m dm p S C P) (hx:P.nx=1) (ok:POk A P) (hn0:∀ d,P.D=some d->(stepM A d).nx=.done) (hcs:∀ d,P.D=some d->¬(0:Int) < (stepM A d).outId/\(0:Int) < P.level):Calls Try.prog 21 #[pV m] w λ e w'=>e=.returned (.tuple #[.bool (stepP C.leaf C.inner A P).1.1,.bool (stepP C.leaf C.inner A P).1.2])/\PPX w w' G Φ p (stepP C.leaf C.inner A P).2.1 m dm S C (stepP C.leaf C.inner A P).2.2:=by
 obtain ⟨d,hd⟩:=ok.des hx
 have lowd:=Hd (ok.low d hd)
 have hn:=hn0 d hd
 rw [stepP_1 hx hd hn]
 clear ok hn0
 have hdh:Hid (P.D=some d):=hd
 obtain ⟨⟨v,hb,hn,_,hgo⟩,hom⟩:=h
 have hgo:=hgo (by omega)
 have Enext:Hid (v.next=.int .i64 1):=by show v.next=_;rw [hn,hx];rfl
 have Eway:Hid (v.way=.pointer (some ⟨dm,0,none⟩)):=hgo.rd.way d hd
 have Elevel:Hid (v.level=.int .i64 P.level):=hgo.rd.level
 have Ethere:Hid (v.there=.bool P.there):=hgo.rd.there
 have HL:=Hd hb.lt
 have HB:=Hd hb
 have HGO:=Hd hgo
 have HJ:=Hd hJ
 have HOF:Hid (∀ x,x=m\/x=dm\/S x->¬G x):=off
 have HOM:Hid (¬S m):=hom
 have K:Hid (Keeps (λ x=>G x\/x=m\/x=dm) w w):=Hd (Keeps.refl _ _)
 have HNX:Hid (P.nx=1):=hx
 clear hb hgo hJ off hom hn hx
 have hM:=HGO.out.des d hdh.out
 have HNE:Hid (dm≠m):=hM.2
 have HND:Hid (¬S dm):=HGO.out.nd
 have HDL:=Hd hM.1.lt
 have FS:=stepX_ HJ.out (HOF.out dm (.inr (.inl rfl))) hM.1 HGO.out.nd (lowd.out)
 have HR:=Hd HGO.out.rd
 clear hM HGO hd
 rw [decide_eq_true hn] at FS
 clear hn
 replace hcs:=hcs d hdh.out
 obtain ⟨M1,hM1⟩:∃ M1,stepM A d=M1:=⟨_,rfl⟩
 rw [hM1] at FS hcs ⊢
 clear hM1
 rw [if_neg hcs.1,if_pos hcs.2]
 unfold pV at FS ⊢
 go_enter Try.func21,Try.ntmps21
 have qway:w.cell? ⟨m,8,none⟩=some (.pointer (some ⟨dm,0,none⟩)):=(Pv.wayX_ HB.out).trans (congrArg some Eway.out)
 go_wp2_with fail
 clear qway
 refine FS.mono ?_
 rintro e w1 ⟨rfl,⟨S',hX,hsub⟩,hk⟩
 clear FS
 replace HB:=Hd (HB.out.keeps hk (λ e=>HNE.out e.symm))
 replace HR:=Hd (HR.out.keeps hk (λ x _ hx e=>HND.out (e▸hx)))
 replace HJ:=Hd (HJ.out.shr hk (λ x _ hx e=>HOF.out dm (.inr (.inl rfl)) (e▸hx)))
 have HX:=Hd hX
 have HSB:Hid (∀ x,S' x->S x\/Fresh w w1 x):=hsub
 replace K:=Hd (K.out.trans hk (λ x _ hx=>.inr (.inr hx)))
 have HS1:=Hd hk.size
 clear hX hsub hk
 have qway:w1.cell? ⟨m,8,none⟩=some (.pointer (some ⟨dm,0,none⟩)):=(Pv.wayX_ HB.out).trans (congrArg some Eway.out)
 go_wp2_with fail
 clear qway
 refine (atX HX.out).mono ?_
 rintro e w2 ⟨d0,d1,d2,d3,d4,d5,rfl,hO,hk⟩
 have HU:Hid (U64 M1.outWord):=by
  show U64 _
  unfold Mc.outWord
  split
  ·exact HX.out.u64
  ·unfold U64;omega
 replace HB:=Hd (HB.out.keeps hk id)
 replace HR:=Hd (HR.out.keeps hk (λ _ _ _=>id))
 replace HX:=Hd (HX.out.keeps hk id (λ _ _ _=>id))
 replace HJ:=Hd (HJ.out.shr hk (λ _ _ _=>id))
 have HS2:=Hd hk.size
 replace K:=tr_ K hk
 obtain ⟨D1,j1,f1⟩:=Own.form hO.1.high
 obtain ⟨D3,j3,f3⟩:=OTx.form hO.2.keys
 obtain ⟨D4,j4,f4⟩:=OTx.form hO.2.vals
 obtain ⟨D5,j5,f5⟩:=Own.form hO.2.kids
 have f0:=hO.1.lvl
 have f2:=hO.1.right
 unfold iV at f0 f2
 subst f0 f1 f2 f3 f4 f5
 have HO:=Hd hO.r
 clear hO hk
 unfold iV
 have qid:=Pv.idX_ HB.out
 have qword:=Pv.wordX_ HB.out
 have qo0:=Pv.o0X_ HB.out
 have qo1:=Pv.o1X_ HB.out
 have qo2:=Pv.o2X_ HB.out
 have qo3:=Pv.o3X_ HB.out
 have qo4:=Pv.o4X_ HB.out
 have qo5:=Pv.o5X_ HB.out
 have gid:=HB.out.frozen 12
 have gword:=HB.out.frozen 13
 have go0:=HB.out.frozen 14
 have go1:=HB.out.frozen 15
 have go2:=HB.out.frozen 16
 have go3:=HB.out.frozen 17
 have go4:=HB.out.frozen 18
 have go5:=HB.out.frozen 19
 have qlevel:w2.cell? ⟨m,10,none⟩=some (.int .i64 P.level):=(Pv.levelX_ HB.out).trans (congrArg some Elevel.out)
 go_wp2_with fail
 clear qid qword qo0 qo1 qo2 qo3 qo4 qo5 gid gword go0 go1 go2 go3 go4 go5 qlevel
 refine calls_at (λ w3 hw=>?_)
 have hk:Keeps (λ x=>x=m) w2 w3:=by rw [hw];exact (((((((Keeps.setCell _ (M:=λ x=>x=m) rfl _).setCell' (λ _=>rfl) _).setCell' (λ _=>rfl) _).setCell' (λ _=>rfl) _).setCell' (λ _=>rfl) _).setCell' (λ _=>rfl) _).setCell' (λ _=>rfl) _).setCell' (λ _=>rfl) _
 have hb:Blk w3 m 77 (cellsX {v with id:=iV M1.outId,word:=.int .u64 M1.outWord,o0:=.int .i64 M1.outNd.lvl,o1:=.slice D1 M1.outNd.high.length j1,o2:=.int .i64 M1.outNd.right,o3:=.slice D3 M1.outNd.keys.length j3,o4:=.slice D4 M1.outNd.vals.length j4,o5:=.slice D5 M1.outNd.kids.length j5}):=by rw [hw];exact (Pv.puto5X (Pv.puto4X (Pv.puto3X (Pv.puto2X (Pv.puto1X (Pv.puto0X (Pv.putwordX (Pv.putidX HB.out _) _) _) _) _) _) _) _)
 clear hw
 replace HB:=Hd hb
 replace HR:=Hd (HR.out.keeps hk (λ x _ hx e=>HOM.out (e▸hx)))
 replace HX:=Hd (HX.out.keeps hk HNE.out (λ x _ hx e=>by rcases HSB.out _ hx with h|h;exact HOM.out (e▸h);have h1:=h.1;have h2:=HL.out;have h3:x=m:=e;omega))
 replace HO:=Hd (HO.out.keeps hk (λ x _ hx e=>by have h1:=hx.1;have h2:=HL.out;have h3:x=m:=e;have h4:=HS1.out;omega))
 replace HJ:=Hd (HJ.out.keeps hk (λ x _ hx e=>HOF.out m (.inl rfl) (e▸hx.1.1)))
 replace K:=kx_ K hk
 have HS3:=Hd hk.size
 clear hk hb
 refine (ponX (nx:=14) HB.out).mono ?_
 rintro e w4 ⟨rfl,hb,hk⟩
 replace HB:=Hd hb
 replace HR:=Hd (HR.out.keeps hk (λ x _ hx e=>HOM.out (e▸hx)))
 replace HX:=Hd (HX.out.keeps hk HNE.out (λ x _ hx e=>by rcases HSB.out _ hx with h|h;exact HOM.out (e▸h);have h1:=h.1;have h2:=HL.out;have h3:x=m:=e;omega))
 replace HO:=Hd (HO.out.keeps hk (λ x _ hx e=>by have h1:=hx.1;have h2:=HL.out;have h3:x=m:=e;have h4:=HS1.out;omega))
 replace HJ:=Hd (HJ.out.keeps hk (λ x _ hx e=>HOF.out m (.inl rfl) (e▸hx.1.1)))
 replace K:=kx_ K hk
 have HS4:=Hd hk.size
 clear hk hb
 go_wp2
 go_ret2
 refine ⟨rfl,Shr (Shr G w w1) w1 w2,dm,λ x=>S x\/S' x\/Fresh w1 w2 x,HJ.out,λ _ h=>h.1.1,K.out,⟨⟨{{v with id:=iV M1.outId,word:=.int .u64 M1.outWord,o0:=.int .i64 M1.outNd.lvl,o1:=.slice D1 M1.outNd.high.length j1,o2:=.int .i64 M1.outNd.right,o3:=.slice D3 M1.outNd.keys.length j3,o4:=.slice D4 M1.outNd.vals.length j4,o5:=.slice D5 M1.outNd.kids.length j5} with next:=iV 14},HB.out,rfl,(λ h=>by cases h),λ _=>⟨{HR.out.mono (λ _ _ h=>.inl h) with way:=λ _ _=>HR.out.way d hdh.out,id:=rfl,word:=rfl,u64:=HU.out,old:=HO.out.mono (λ _ _ h=>.inr (.inr h)),nw:=λ _=>(HR.out.nw (by rw [HNX.out];decide)).mono (λ _ _ h=>.inl h)},λ d' hd'=>?_,λ h=>?_⟩⟩,λ h=>?_⟩,λ x hx=>?_,.inl rfl⟩
 ·obtain rfl:M1=d':=Option.some.inj hd'
  exact ⟨HX.out.mono (λ _ _ h=>.inr (.inl h)),HNE.out⟩
 ·rcases h with h|h|h
  ·exact HND.out h
  ·rcases HSB.out _ h with h|h
   ·exact HND.out h
   ·have h1:=h.1;have h2:=HDL.out;omega
  ·have h1:=h.1;have h2:=HDL.out;have h3:=HS1.out;omega
 ·rcases h with h|h|h
  ·exact HOM.out h
  ·rcases HSB.out _ h with h|h
   ·exact HOM.out h
   ·have h1:=h.1;have h2:=HL.out;omega
  ·have h1:=h.1;have h2:=HL.out;have h3:=HS1.out;omega
 ·rcases hx with h|h|h|h
  ·exact .inl (.inr (.inl h))
  ·exact .inl (.inr (.inr h))
  ·rcases HSB.out _ h with h|h
   ·exact .inl (.inr (.inr h))
   ·exact .inr ⟨⟨h.1,by have h1:=h.2;have h2:=HS2.out;have h3:=HS3.out;have h4:=HS4.out;omega⟩,λ hg=>hg.1.2 h⟩
  ·exact .inr ⟨⟨by have h1:=h.1;have h2:=HS1.out;omega,by have h1:=h.2;have h3:=HS3.out;have h4:=HS4.out;omega⟩,λ hg=>hg.2 h⟩
theorem pdownX_args (hJ:JX w G Φ p A) (off:∀ x,x=m\/x=dm\/S x->¬G x) (h:PX w m dm p S C P) (hx:P.nx=1) (ok:POk A P) (hn0:∀ d,P.D=some d->(stepM A d).nx=.done) (hcs:∀ d,P.D=some d->¬(0:Int) < (stepM A d).outId/\¬(0:Int) < P.level):Calls Try.prog 21 #[pV m] w λ e w'=>e=.returned (.tuple #[.bool (stepP C.leaf C.inner A P).1.1,.bool (stepP C.leaf C.inner A P).1.2])/\PPX w w' G Φ p (stepP C.leaf C.inner A P).2.1 m dm S C (stepP C.leaf C.inner A P).2.2:=by
 obtain ⟨d,hd⟩:=ok.des hx
 have lowd:=Hd (ok.low d hd)
 have hn:=hn0 d hd
 rw [stepP_1 hx hd hn]
 clear ok hn0
 have hdh:Hid (P.D=some d):=hd
 obtain ⟨⟨v,hb,hn,_,hgo⟩,hom⟩:=h
 have hgo:=hgo (by omega)
 have Enext:Hid (v.next=.int .i64 1):=by show v.next=_;rw [hn,hx];rfl
 have Eway:Hid (v.way=.pointer (some ⟨dm,0,none⟩)):=hgo.rd.way d hd
 have Elevel:Hid (v.level=.int .i64 P.level):=hgo.rd.level
 have Ethere:Hid (v.there=.bool P.there):=hgo.rd.there
 have HL:=Hd hb.lt
 have HB:=Hd hb
 have HGO:=Hd hgo
 have HJ:=Hd hJ
 have HOF:Hid (∀ x,x=m\/x=dm\/S x->¬G x):=off
 have HOM:Hid (¬S m):=hom
 have K:Hid (Keeps (λ x=>G x\/x=m\/x=dm) w w):=Hd (Keeps.refl _ _)
 have HNX:Hid (P.nx=1):=hx
 clear hb hgo hJ off hom hn hx
 have hM:=HGO.out.des d hdh.out
 have HNE:Hid (dm≠m):=hM.2
 have HND:Hid (¬S dm):=HGO.out.nd
 have HDL:=Hd hM.1.lt
 have FS:=stepX_ HJ.out (HOF.out dm (.inr (.inl rfl))) hM.1 HGO.out.nd (lowd.out)
 have HR:=Hd HGO.out.rd
 clear hM HGO hd
 rw [decide_eq_true hn] at FS
 clear hn
 replace hcs:=hcs d hdh.out
 obtain ⟨M1,hM1⟩:∃ M1,stepM A d=M1:=⟨_,rfl⟩
 rw [hM1] at FS hcs ⊢
 clear hM1
 rw [if_neg hcs.1,if_neg hcs.2]
 unfold pV at FS ⊢
 go_enter Try.func21,Try.ntmps21
 have qway:w.cell? ⟨m,8,none⟩=some (.pointer (some ⟨dm,0,none⟩)):=(Pv.wayX_ HB.out).trans (congrArg some Eway.out)
 go_wp2_with fail
 clear qway
 refine FS.mono ?_
 rintro e w1 ⟨rfl,⟨S',hX,hsub⟩,hk⟩
 clear FS
 replace HB:=Hd (HB.out.keeps hk (λ e=>HNE.out e.symm))
 replace HR:=Hd (HR.out.keeps hk (λ x _ hx e=>HND.out (e▸hx)))
 replace HJ:=Hd (HJ.out.shr hk (λ x _ hx e=>HOF.out dm (.inr (.inl rfl)) (e▸hx)))
 have HX:=Hd hX
 have HSB:Hid (∀ x,S' x->S x\/Fresh w w1 x):=hsub
 replace K:=Hd (K.out.trans hk (λ x _ hx=>.inr (.inr hx)))
 have HS1:=Hd hk.size
 clear hX hsub hk
 have qway:w1.cell? ⟨m,8,none⟩=some (.pointer (some ⟨dm,0,none⟩)):=(Pv.wayX_ HB.out).trans (congrArg some Eway.out)
 go_wp2_with fail
 clear qway
 refine (atX HX.out).mono ?_
 rintro e w2 ⟨d0,d1,d2,d3,d4,d5,rfl,hO,hk⟩
 have HU:Hid (U64 M1.outWord):=by
  show U64 _
  unfold Mc.outWord
  split
  ·exact HX.out.u64
  ·unfold U64;omega
 replace HB:=Hd (HB.out.keeps hk id)
 replace HR:=Hd (HR.out.keeps hk (λ _ _ _=>id))
 replace HX:=Hd (HX.out.keeps hk id (λ _ _ _=>id))
 replace HJ:=Hd (HJ.out.shr hk (λ _ _ _=>id))
 have HS2:=Hd hk.size
 replace K:=tr_ K hk
 obtain ⟨D1,j1,f1⟩:=Own.form hO.1.high
 obtain ⟨D3,j3,f3⟩:=OTx.form hO.2.keys
 obtain ⟨D4,j4,f4⟩:=OTx.form hO.2.vals
 obtain ⟨D5,j5,f5⟩:=Own.form hO.2.kids
 have f0:=hO.1.lvl
 have f2:=hO.1.right
 unfold iV at f0 f2
 subst f0 f1 f2 f3 f4 f5
 have HO:=Hd hO.r
 clear hO hk
 unfold iV
 have qid:=Pv.idX_ HB.out
 have qword:=Pv.wordX_ HB.out
 have qo0:=Pv.o0X_ HB.out
 have qo1:=Pv.o1X_ HB.out
 have qo2:=Pv.o2X_ HB.out
 have qo3:=Pv.o3X_ HB.out
 have qo4:=Pv.o4X_ HB.out
 have qo5:=Pv.o5X_ HB.out
 have gid:=HB.out.frozen 12
 have gword:=HB.out.frozen 13
 have go0:=HB.out.frozen 14
 have go1:=HB.out.frozen 15
 have go2:=HB.out.frozen 16
 have go3:=HB.out.frozen 17
 have go4:=HB.out.frozen 18
 have go5:=HB.out.frozen 19
 have qlevel:w2.cell? ⟨m,10,none⟩=some (.int .i64 P.level):=(Pv.levelX_ HB.out).trans (congrArg some Elevel.out)
 go_wp2_with fail
 clear qid qword qo0 qo1 qo2 qo3 qo4 qo5 gid gword go0 go1 go2 go3 go4 go5 qlevel
 refine calls_at (λ w3 hw=>?_)
 have hk:Keeps (λ x=>x=m) w2 w3:=by rw [hw];exact (((((((Keeps.setCell _ (M:=λ x=>x=m) rfl _).setCell' (λ _=>rfl) _).setCell' (λ _=>rfl) _).setCell' (λ _=>rfl) _).setCell' (λ _=>rfl) _).setCell' (λ _=>rfl) _).setCell' (λ _=>rfl) _).setCell' (λ _=>rfl) _
 have hb:Blk w3 m 77 (cellsX {v with id:=iV M1.outId,word:=.int .u64 M1.outWord,o0:=.int .i64 M1.outNd.lvl,o1:=.slice D1 M1.outNd.high.length j1,o2:=.int .i64 M1.outNd.right,o3:=.slice D3 M1.outNd.keys.length j3,o4:=.slice D4 M1.outNd.vals.length j4,o5:=.slice D5 M1.outNd.kids.length j5}):=by rw [hw];exact (Pv.puto5X (Pv.puto4X (Pv.puto3X (Pv.puto2X (Pv.puto1X (Pv.puto0X (Pv.putwordX (Pv.putidX HB.out _) _) _) _) _) _) _) _)
 clear hw
 replace HB:=Hd hb
 replace HR:=Hd (HR.out.keeps hk (λ x _ hx e=>HOM.out (e▸hx)))
 replace HX:=Hd (HX.out.keeps hk HNE.out (λ x _ hx e=>by rcases HSB.out _ hx with h|h;exact HOM.out (e▸h);have h1:=h.1;have h2:=HL.out;have h3:x=m:=e;omega))
 replace HO:=Hd (HO.out.keeps hk (λ x _ hx e=>by have h1:=hx.1;have h2:=HL.out;have h3:x=m:=e;have h4:=HS1.out;omega))
 replace HJ:=Hd (HJ.out.keeps hk (λ x _ hx e=>HOF.out m (.inl rfl) (e▸hx.1.1)))
 replace K:=kx_ K hk
 have HS3:=Hd hk.size
 clear hk hb
 refine (pendsX (th:=P.there) (took:=false) (er:=101) HB.out Ethere.out).mono ?_
 rintro e w4 ⟨rfl,hb,hk⟩
 replace HB:=Hd hb
 replace HR:=Hd (HR.out.keeps hk (λ x _ hx e=>HOM.out (e▸hx)))
 replace HX:=Hd (HX.out.keeps hk HNE.out (λ x _ hx e=>by rcases HSB.out _ hx with h|h;exact HOM.out (e▸h);have h1:=h.1;have h2:=HL.out;have h3:x=m:=e;omega))
 replace HO:=Hd (HO.out.keeps hk (λ x _ hx e=>by have h1:=hx.1;have h2:=HL.out;have h3:x=m:=e;have h4:=HS1.out;omega))
 replace HJ:=Hd (HJ.out.keeps hk (λ x _ hx e=>HOF.out m (.inl rfl) (e▸hx.1.1)))
 replace K:=kx_ K hk
 have HS4:=Hd hk.size
 clear hk hb
 go_wp2
 go_ret2
 exact ⟨rfl,Shr (Shr G w w1) w1 w2,dm,S,HJ.out,λ _ h=>h.1.1,K.out,⟨⟨{{v with id:=iV M1.outId,word:=.int .u64 M1.outWord,o0:=.int .i64 M1.outNd.lvl,o1:=.slice D1 M1.outNd.high.length j1,o2:=.int .i64 M1.outNd.right,o3:=.slice D3 M1.outNd.keys.length j3,o4:=.slice D4 M1.outNd.vals.length j4,o5:=.slice D5 M1.outNd.kids.length j5} with next:=iV 20,err:=iV 101,there:=.bool (P.there&&decide ((101:Int)=0))},HB.out,rfl,λ _=>⟨rfl,rfl⟩,λ h=>absurd rfl h⟩,HOM.out⟩,λ x hx=>.inl (.inr hx),.inl rfl⟩
theorem pdownX (hJ:JX w G Φ p A) (off:∀ x,x=m\/x=dm\/S x->¬G x) (h:PX w m dm p S C P) (hx:P.nx=1) (ok:POk A P):Calls Try.prog 21 #[pV m] w λ e w'=>e=.returned (.tuple #[.bool (stepP C.leaf C.inner A P).1.1,.bool (stepP C.leaf C.inner A P).1.2])/\PPX w w' G Φ p (stepP C.leaf C.inner A P).2.1 m dm S C (stepP C.leaf C.inner A P).2.2:=by
 obtain ⟨d,hd⟩:=ok.des hx
 have hu:∀ d',P.D=some d'->d'=d:=λ d' h=>by rw [hd] at h;exact (Option.some.inj h).symm
 by_cases hn:(stepM A d).nx=.done
 ·by_cases h1:(0:Int) < (stepM A d).outId
  ·exact pdownX_lock hJ off h hx ok (λ d' h=>by rw [hu d' h];exact hn) (λ d' h=>by rw [hu d' h];exact h1)
  ·by_cases h2:(0:Int) < P.level
   ·exact pdownX_top hJ off h hx ok (λ d' h=>by rw [hu d' h];exact hn) (λ d' h=>by rw [hu d' h];exact ⟨h1,h2⟩)
   ·exact pdownX_args hJ off h hx ok (λ d' h=>by rw [hu d' h];exact hn) (λ d' h=>by rw [hu d' h];exact ⟨h1,h2⟩)
 ·exact pdownX_go hJ off h hx ok (λ d' h=>by rw [hu d' h];exact hn)
theorem stepPX_1 (hJ:JX w G Φ p A) (off:∀ x,x=m\/x=dm\/S x->¬G x) (h:PX w m dm p S C P) (hx:P.nx=1) (ok:POk A P):Calls Try.prog 9 #[pV m] w λ e w'=>e=.returned (.tuple #[.bool (stepP C.leaf C.inner A P).1.1,.bool (stepP C.leaf C.inner A P).1.2])/\PPX w w' G Φ p (stepP C.leaf C.inner A P).2.1 m dm S C (stepP C.leaf C.inner A P).2.2:=by
 have FF:=pdownX hJ off h hx ok
 obtain ⟨⟨v,hb,hn,_,_⟩,hom⟩:=h
 have qn:w.cell? ⟨m,9,none⟩=some (.int .i64 1):=(Pv.nextX_ hb).trans (by rw [hn,hx];rfl)
 clear hJ off hb hn hom hx ok
 generalize stepP C.leaf C.inner A P=r at FF ⊢
 obtain ⟨⟨r1,r2⟩,r3,r4⟩:=r
 simp only at FF ⊢
 unfold pV at FF ⊢
 go_enter Try.func9,Try.ntmps9
 go_wp2_with fail
 clear qn
 refine FF.mono ?_
 rintro e w1 ⟨rfl,hp⟩
 clear FF
 go_wp2
 go_ret2
 exact ⟨rfl,hp⟩
end
end Go.Proofs.Ytjcgphhpaenjkaa

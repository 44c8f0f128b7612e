import Derived.Test.YtjcgphhpaenjkaaPkD1
set_option maxHeartbeats 64000000
set_option maxRecDepth 100000
set_option linter.unusedVariables false
namespace Go.Proofs.Ytjcgphhpaenjkaa
open Go.RowKit
theorem alloc_err (A:Ar):(opAlloc A).2.1=0\/(opAlloc A).2.1=2:=by
 unfold opAlloc
 split
 ·exact .inr rfl
 ·exact .inl rfl
section
variable {w:World} {G S:Nat->Prop} {b p q m dm:Nat} {A B:Ar} {Φ:Fr} {C:Cf} {P:Pm}
theorem pslotX_6full (hJ:JX w G Φ p A) (off:∀ x,x=m\/x=dm\/S x->¬G x) (h:PX w m dm p S C P) (hx:P.nx=6) (ok:POk A P) (hal:(opAlloc A).2.1=2):Calls Try.prog 26 #[pV m] w λ e w'=>e=.returned (.tuple #[.bool (stepP C.leaf C.inner A P).1.1,.bool (stepP C.leaf C.inner A P).1.2])/\PPX w w' G Φ p (stepP C.leaf C.inner A P).2.1 m dm S C (stepP C.leaf C.inner A P).2.2:=by
 rw [stepP_6 hx,if_pos (by rw [hal];decide)]
 replace hal:=Hd hal
 clear ok
 obtain ⟨⟨v,hb,hn,_,hgo⟩,hom⟩:=h
 have hgo:=hgo (by omega)
 have Enext:Hid (v.next=.int .i64 6):=by show v.next=_;rw [hn,hx];rfl
 have Ea:Hid (v.a=.pointer (some ⟨p,0,none⟩)):=hgo.rd.a
 have HL:=Hd hb.lt
 have HB:=Hd hb
 have HGO:=Hd hgo
 have HJ:=Hd hJ
 have HOF:Hid (∀ x,x=m\/x=dm\/S x->¬G x):=off
 have HOM:Hid (¬S m):=hom
 have K:Hid (Keeps (λ x=>G x\/x=m\/x=dm) w w):=Hd (Keeps.refl _ _)
 have HNX:Hid (P.nx=6):=hx
 clear hb hgo hJ off hom hn hx
 unfold pV
 go_enter Try.func26,Try.ntmps26
 have qa:w.cell? ⟨m,0,none⟩=some (.pointer (some ⟨p,0,none⟩)):=(Pv.aX_ HB.out).trans (congrArg some Ea.out)
 go_wp2_with fail
 clear qa
 refine HJ.out.allocX.mono ?_
 rintro e w1 ⟨rfl,hj,hk⟩
 rw [hal.out]
 unfold iV
 replace HB:=Hd (HB.out.keeps hk (HOF.out m (.inl rfl)))
 replace HGO:=gg_ HGO hk HOF
 replace HJ:=Hd hj
 replace K:=ky_ K hk
 clear hk hj
 have qnext:w1.cell? ⟨m,9,none⟩=some (.int .i64 6):=(Pv.nextX_ HB.out).trans (congrArg some Enext.out)
 go_wp2_with fail
 clear qnext
 refine (ponX (nx:=7) HB.out).mono ?_
 rintro e w2 ⟨rfl,hb,hk⟩
 replace HB:=Hd hb
 replace HGO:=gm_ HGO hk HOM
 replace HJ:=jm_ HJ hk HOF
 replace K:=kx_ K hk
 clear hk hb
 go_wp2
 go_ret2
 exact ⟨rfl,G,dm,S,HJ.out,λ _ h=>h,K.out,⟨⟨{v with next:=iV 7},HB.out,rfl,(λ h=>by cases h),λ _=>⟨{HGO.out.rd with nw:=λ _=>HGO.out.rd.nw (by rw [HNX.out];decide)},HGO.out.des,HGO.out.nd⟩⟩,HOM.out⟩,λ x hx=>.inl (.inr hx),.inl rfl⟩
theorem pslotX_15full (hJ:JX w G Φ p A) (off:∀ x,x=m\/x=dm\/S x->¬G x) (h:PX w m dm p S C P) (hx:P.nx=15) (ok:POk A P) (hal:(opAlloc A).2.1=2):Calls Try.prog 26 #[pV m] w λ e w'=>e=.returned (.tuple #[.bool (stepP C.leaf C.inner A P).1.1,.bool (stepP C.leaf C.inner A P).1.2])/\PPX w w' G Φ p (stepP C.leaf C.inner A P).2.1 m dm S C (stepP C.leaf C.inner A P).2.2:=by
 rw [stepP_15 hx,if_pos (by rw [hal];decide)]
 replace hal:=Hd hal
 clear ok
 obtain ⟨⟨v,hb,hn,_,hgo⟩,hom⟩:=h
 have hgo:=hgo (by omega)
 have Enext:Hid (v.next=.int .i64 15):=by show v.next=_;rw [hn,hx];rfl
 have Ea:Hid (v.a=.pointer (some ⟨p,0,none⟩)):=hgo.rd.a
 have Ethere:Hid (v.there=.bool P.there):=hgo.rd.there
 have HL:=Hd hb.lt
 have HB:=Hd hb
 have HGO:=Hd hgo
 have HJ:=Hd hJ
 have HOF:Hid (∀ x,x=m\/x=dm\/S x->¬G x):=off
 have HOM:Hid (¬S m):=hom
 have K:Hid (Keeps (λ x=>G x\/x=m\/x=dm) w w):=Hd (Keeps.refl _ _)
 have HNX:Hid (P.nx=15):=hx
 clear hb hgo hJ off hom hn hx
 unfold pV
 go_enter Try.func26,Try.ntmps26
 have qa:w.cell? ⟨m,0,none⟩=some (.pointer (some ⟨p,0,none⟩)):=(Pv.aX_ HB.out).trans (congrArg some Ea.out)
 go_wp2_with fail
 clear qa
 refine HJ.out.allocX.mono ?_
 rintro e w1 ⟨rfl,hj,hk⟩
 rw [hal.out]
 unfold iV
 replace HB:=Hd (HB.out.keeps hk (HOF.out m (.inl rfl)))
 replace HGO:=gg_ HGO hk HOF
 replace HJ:=Hd hj
 replace K:=ky_ K hk
 clear hk hj
 have qnext:w1.cell? ⟨m,9,none⟩=some (.int .i64 15):=(Pv.nextX_ HB.out).trans (congrArg some Enext.out)
 go_wp2_with fail
 clear qnext
 refine (pendsX (th:=P.there) (took:=false) (er:=0) HB.out Ethere.out).mono ?_
 rintro e w2 ⟨rfl,hb,hk⟩
 replace HB:=Hd hb
 replace HGO:=gm_ HGO hk HOM
 replace HJ:=jm_ HJ hk HOF
 replace K:=kx_ K hk
 clear hk hb
 go_wp2
 go_ret2
 exact ⟨rfl,G,dm,S,HJ.out,λ _ h=>h,K.out,⟨⟨{v with next:=iV 20,err:=iV 0,there:=.bool (P.there&&decide ((0:Int)=0))},HB.out,rfl,λ _=>⟨rfl,rfl⟩,λ h=>absurd rfl h⟩,HOM.out⟩,λ x hx=>.inl (.inr hx),.inl rfl⟩
theorem pslotX_15new (hJ:JX w G Φ p A) (off:∀ x,x=m\/x=dm\/S x->¬G x) (h:PX w m dm p S C P) (hx:P.nx=15) (ok:POk A P) (hal:(opAlloc A).2.1=0):Calls Try.prog 26 #[pV m] w λ e w'=>e=.returned (.tuple #[.bool (stepP C.leaf C.inner A P).1.1,.bool (stepP C.leaf C.inner A P).1.2])/\PPX w w' G Φ p (stepP C.leaf C.inner A P).2.1 m dm S C (stepP C.leaf C.inner A P).2.2:=by
 rw [stepP_15 hx,if_neg (λ h=>h hal)]
 replace hal:=Hd hal
 clear ok
 obtain ⟨⟨v,hb,hn,_,hgo⟩,hom⟩:=h
 have hgo:=hgo (by omega)
 have Enext:Hid (v.next=.int .i64 15):=by show v.next=_;rw [hn,hx];rfl
 have Ea:Hid (v.a=.pointer (some ⟨p,0,none⟩)):=hgo.rd.a
 have HL:=Hd hb.lt
 have HB:=Hd hb
 have HGO:=Hd hgo
 have HJ:=Hd hJ
 have HOF:Hid (∀ x,x=m\/x=dm\/S x->¬G x):=off
 have HOM:Hid (¬S m):=hom
 have K:Hid (Keeps (λ x=>G x\/x=m\/x=dm) w w):=Hd (Keeps.refl _ _)
 have HNX:Hid (P.nx=15):=hx
 clear hb hgo hJ off hom hn hx
 unfold pV
 go_enter Try.func26,Try.ntmps26
 have qa:w.cell? ⟨m,0,none⟩=some (.pointer (some ⟨p,0,none⟩)):=(Pv.aX_ HB.out).trans (congrArg some Ea.out)
 go_wp2_with fail
 clear qa
 refine HJ.out.allocX.mono ?_
 rintro e w1 ⟨rfl,hj,hk⟩
 rw [hal.out]
 unfold iV
 replace HB:=Hd (HB.out.keeps hk (HOF.out m (.inl rfl)))
 replace HGO:=gg_ HGO hk HOF
 replace HJ:=Hd hj
 replace K:=ky_ K hk
 clear hk hj
 have qnext:w1.cell? ⟨m,9,none⟩=some (.int .i64 15):=(Pv.nextX_ HB.out).trans (congrArg some Enext.out)
 have qroot:=Pv.rootX_ HB.out
 have groot:=HB.out.frozen 42
 go_wp2_with fail
 clear qnext qroot groot
 refine calls_at (λ w2 hw=>?_)
 have hk:Keeps (λ x=>x=m) w1 w2:=by rw [hw];exact Keeps.setCell _ (M:=λ x=>x=m) rfl _
 have hb:Blk w2 m 77 (cellsX {v with root:=.int .i64 (opAlloc A).1}):=by rw [hw];exact (Pv.putrootX HB.out _)
 clear hw
 replace HB:=Hd hb
 replace HGO:=gm_ HGO hk HOM
 replace HJ:=jm_ HJ hk HOF
 replace K:=kx_ K hk
 clear hk hb
 refine (ponX (nx:=16) HB.out).mono ?_
 rintro e w3 ⟨rfl,hb,hk⟩
 replace HB:=Hd hb
 replace HGO:=gm_ HGO hk HOM
 replace HJ:=jm_ HJ hk HOF
 replace K:=kx_ K hk
 clear hk hb
 go_wp2
 go_ret2
 exact ⟨rfl,G,dm,S,HJ.out,λ _ h=>h,K.out,⟨⟨{{v with root:=.int .i64 (opAlloc A).1} with next:=iV 16},HB.out,rfl,(λ h=>by cases h),λ _=>⟨{HGO.out.rd with nw:=λ _=>HGO.out.rd.nw (by rw [HNX.out];decide),root:=rfl},HGO.out.des,HGO.out.nd⟩⟩,HOM.out⟩,λ x hx=>.inl (.inr hx),.inl rfl⟩
theorem pslotX_6new (hJ:JX w G Φ p A) (off:∀ x,x=m\/x=dm\/S x->¬G x) (h:PX w m dm p S C P) (hx:P.nx=6) (ok:POk A P) (hdd:∃ d,P.D=some d) (hal:(opAlloc A).2.1=0):Calls Try.prog 26 #[pV m] w λ e w'=>e=.returned (.tuple #[.bool (stepP C.leaf C.inner A P).1.1,.bool (stepP C.leaf C.inner A P).1.2])/\PPX w w' G Φ p (stepP C.leaf C.inner A P).2.1 m dm S C (stepP C.leaf C.inner A P).2.2:=by
 obtain ⟨okr,okf⟩:=ok.slot hx
 rw [stepP_6 hx,if_neg (λ h=>h hal)]
 replace hal:=Hd hal
 replace okf:=Hd okf
 clear ok okr
 obtain ⟨⟨v,hb,hn,_,hgo⟩,hom⟩:=h
 have hgo:=hgo (by omega)
 have Enext:Hid (v.next=.int .i64 6):=by show v.next=_;rw [hn,hx];rfl
 have Ea:Hid (v.a=.pointer (some ⟨p,0,none⟩)):=hgo.rd.a
 have hndn:=hgo.rd.nw (by omega)
 obtain ⟨nA1,nk1,e1,_,_⟩:=hndn.1.high.form
 obtain ⟨nA3,nk3,e3,_,_⟩:=hndn.2.keys.form
 obtain ⟨nA4,nk4,e4,_,_⟩:=hndn.2.vals.form
 obtain ⟨nA5,nk5,e5,_,_⟩:=hndn.2.kids.form
 try simp only [List.length_map] at e1 e5
 have En0:Hid (v.n0=.int .i64 P.nw.lvl):=hndn.1.lvl
 have En1:Hid (v.n1=.slice nA1 P.nw.high.length nk1):=e1
 have En2:Hid (v.n2=.int .i64 P.nw.right):=hndn.1.right
 have En3:Hid (v.n3=.slice nA3 P.nw.keys.length nk3):=e3
 have En4:Hid (v.n4=.slice nA4 P.nw.vals.length nk4):=e4
 have En5:Hid (v.n5=.slice nA5 P.nw.kids.length nk5):=e5
 have HNn:Hid (∀ W,PRd W S p dm C v P->IsHd W S (.int .i64 P.nw.lvl) (.slice nA1 P.nw.high.length nk1) (.int .i64 P.nw.right) P.nw/\IsBd W S (.slice nA3 P.nw.keys.length nk3) (.slice nA4 P.nw.vals.length nk4) (.slice nA5 P.nw.kids.length nk5) P.nw):=λ W hr=>by
  have h0:=hr.nw (by omega)
  rw [En0.out,En1.out,En2.out,En3.out,En4.out,En5.out] at h0
  exact ⟨h0.1,h0.2⟩
 clear hndn e1 e3 e4 e5
 have HL:=Hd hb.lt
 have HB:=Hd hb
 have HGO:=Hd hgo
 have HJ:=Hd hJ
 have HOF:Hid (∀ x,x=m\/x=dm\/S x->¬G x):=off
 have HOM:Hid (¬S m):=hom
 have K:Hid (Keeps (λ x=>G x\/x=m\/x=dm) w w):=Hd (Keeps.refl _ _)
 have HNX:Hid (P.nx=6):=hx
 clear hb hgo hJ off hom hn hx
 obtain ⟨d,hd⟩:=hdd
 have HDL:=Hd (HGO.out.des d hd).1.lt
 clear hd
 unfold pV
 go_enter Try.func26,Try.ntmps26
 have qa:w.cell? ⟨m,0,none⟩=some (.pointer (some ⟨p,0,none⟩)):=(Pv.aX_ HB.out).trans (congrArg some Ea.out)
 go_wp2_with fail
 clear qa
 refine HJ.out.allocX.mono ?_
 rintro e w1 ⟨rfl,hj,hk⟩
 rw [hal.out]
 unfold iV
 replace HB:=Hd (HB.out.keeps hk (HOF.out m (.inl rfl)))
 replace HGO:=gg_ HGO hk HOF
 replace HJ:=Hd hj
 replace K:=ky_ K hk
 clear hk hj
 have qnext:w1.cell? ⟨m,9,none⟩=some (.int .i64 6):=(Pv.nextX_ HB.out).trans (congrArg some Enext.out)
 have qn0:w1.cell? ⟨m,20,none⟩=some (.int .i64 P.nw.lvl):=(Pv.n0X_ HB.out).trans (congrArg some En0.out)
 have qn1:w1.cell? ⟨m,21,none⟩=some (.slice nA1 P.nw.high.length nk1):=(Pv.n1X_ HB.out).trans (congrArg some En1.out)
 have qn2:w1.cell? ⟨m,22,none⟩=some (.int .i64 P.nw.right):=(Pv.n2X_ HB.out).trans (congrArg some En2.out)
 have qn3:w1.cell? ⟨m,23,none⟩=some (.slice nA3 P.nw.keys.length nk3):=(Pv.n3X_ HB.out).trans (congrArg some En3.out)
 have qn4:w1.cell? ⟨m,24,none⟩=some (.slice nA4 P.nw.vals.length nk4):=(Pv.n4X_ HB.out).trans (congrArg some En4.out)
 have qn5:w1.cell? ⟨m,25,none⟩=some (.slice nA5 P.nw.kids.length nk5):=(Pv.n5X_ HB.out).trans (congrArg some En5.out)
 have qfresh:=Pv.freshX_ HB.out
 have gfresh:=HB.out.frozen 41
 go_wp2_with fail
 clear qnext qn0 qn1 qn2 qn3 qn4 qn5 qfresh gfresh
 refine calls_at (λ w2 hw=>?_)
 have hk:Keeps (λ x=>x=m) w1 w2:=by rw [hw];exact Keeps.setCell _ (M:=λ x=>x=m) rfl _
 have hb:Blk w2 m 77 (cellsX {v with fresh:=.int .i64 (opAlloc A).1}):=by rw [hw];exact (Pv.putfreshX HB.out _)
 clear hw
 replace HB:=Hd hb
 replace HGO:=gm_ HGO hk HOM
 replace HJ:=jm_ HJ hk HOF
 replace K:=kx_ K hk
 clear hk hb
 have HSA:=Hd K.out.size
 refine (splitP (right:=(opAlloc A).1) ⟨(HNn.out _ HGO.out.rd).1,(HNn.out _ HGO.out.rd).2⟩ (okf.out.sm (by decide))).mono ?_
 rintro e w3 ⟨d0,d1,d2,d3,d4,d5,e0,e1,e2,e3,e4,e5,kv,rfl,p1,hp1,q1,hq1,s1,hs1,hs2,hO,hQ,hK,hk⟩
 replace hO:=hO.mono (T:=Fresh w2 w3) (λ x hx h=>⟨h.1,hx⟩)
 replace hQ:=hQ.mono (T:=Fresh w2 w3) (λ x hx h=>⟨Nat.le_trans hp1 h.1,hx⟩)
 replace hK:=hK.mono (T:=Fresh w2 w3) (λ x hx h=>⟨Nat.le_trans hp1 (Nat.le_trans hq1 (Nat.le_trans hs1 h.1)),hx⟩)
 clear hp1 hq1 hs1 hs2
 replace HB:=Hd (HB.out.keeps hk id)
 replace HGO:=gn_ HGO hk
 replace HJ:=Hd (HJ.out.shr hk (λ _ _ _=>id))
 replace K:=tr_ K hk
 clear hk
 obtain ⟨D1,dj1,f1⟩:=Own.form hO.1.high
 obtain ⟨D3,dj3,f3⟩:=OTx.form hO.2.keys
 obtain ⟨D4,dj4,f4⟩:=OTx.form hO.2.vals
 obtain ⟨D5,dj5,f5⟩:=Own.form hO.2.kids
 have f0:=hO.1.lvl
 have f2:=hO.1.right
 unfold iV at f0 f2
 subst f0 f1 f2 f3 f4 f5
 obtain ⟨E1,ej1,f1⟩:=Own.form hQ.1.high
 obtain ⟨E3,ej3,f3⟩:=OTx.form hQ.2.keys
 obtain ⟨E4,ej4,f4⟩:=OTx.form hQ.2.vals
 obtain ⟨E5,ej5,f5⟩:=Own.form hQ.2.kids
 have f0:=hQ.1.lvl
 have f2:=hQ.1.right
 unfold iV at f0 f2
 subst f0 f1 f2 f3 f4 f5
 obtain ⟨K1,kk1,fk⟩:=hK.form
 subst fk
 have HO:=Hd hO.r
 have HQ:=Hd hQ.r
 have HK:=Hd hK.r
 clear hO hQ hK
 have HSB:Hid (w3.heap.size<=w3.heap.size):=Nat.le_refl _
 have ql0:=Pv.l0X_ HB.out
 have ql1:=Pv.l1X_ HB.out
 have ql2:=Pv.l2X_ HB.out
 have ql3:=Pv.l3X_ HB.out
 have ql4:=Pv.l4X_ HB.out
 have ql5:=Pv.l5X_ HB.out
 have qr0:=Pv.r0X_ HB.out
 have qr1:=Pv.r1X_ HB.out
 have qr2:=Pv.r2X_ HB.out
 have qr3:=Pv.r3X_ HB.out
 have qr4:=Pv.r4X_ HB.out
 have qr5:=Pv.r5X_ HB.out
 have qbtw:=Pv.btwX_ HB.out
 have gl0:=HB.out.frozen 26
 have gl1:=HB.out.frozen 27
 have gl2:=HB.out.frozen 28
 have gl3:=HB.out.frozen 29
 have gl4:=HB.out.frozen 30
 have gl5:=HB.out.frozen 31
 have gr0:=HB.out.frozen 32
 have gr1:=HB.out.frozen 33
 have gr2:=HB.out.frozen 34
 have gr3:=HB.out.frozen 35
 have gr4:=HB.out.frozen 36
 have gr5:=HB.out.frozen 37
 have gbtw:=HB.out.frozen 38
 go_wp2_with fail
 clear ql0 ql1 ql2 ql3 ql4 ql5 qr0 qr1 qr2 qr3 qr4 qr5 qbtw gl0 gl1 gl2 gl3 gl4 gl5 gr0 gr1 gr2 gr3 gr4 gr5 gbtw
 refine calls_at (λ w4 hw=>?_)
 have hk:Keeps (λ x=>x=m) w3 w4:=by rw [hw];exact ((((((((((((Keeps.setCell _ (M:=λ x=>x=m) rfl _).setCell' (λ _=>rfl) _).setCell' (λ _=>rfl) _).setCell' (λ _=>rfl) _).setCell' (λ _=>rfl) _).setCell' (λ _=>rfl) _).setCell' (λ _=>rfl) _).setCell' (λ _=>rfl) _).setCell' (λ _=>rfl) _).setCell' (λ _=>rfl) _).setCell' (λ _=>rfl) _).setCell' (λ _=>rfl) _).setCell' (λ _=>rfl) _
 have hb:Blk w4 m 77 (cellsX {{v with fresh:=.int .i64 (opAlloc A).1} with l0:=.int .i64 (spL P.nw (opAlloc A).1).lvl,l1:=.slice D1 (spL P.nw (opAlloc A).1).high.length dj1,l2:=.int .i64 (spL P.nw (opAlloc A).1).right,l3:=.slice D3 (spL P.nw (opAlloc A).1).keys.length dj3,l4:=.slice D4 (spL P.nw (opAlloc A).1).vals.length dj4,l5:=.slice D5 (spL P.nw (opAlloc A).1).kids.length dj5,r0:=.int .i64 (spR P.nw).lvl,r1:=.slice E1 (spR P.nw).high.length ej1,r2:=.int .i64 (spR P.nw).right,r3:=.slice E3 (spR P.nw).keys.length ej3,r4:=.slice E4 (spR P.nw).vals.length ej4,r5:=.slice E5 (spR P.nw).kids.length ej5,btw:=.slice K1 (spK P.nw).length kk1}):=by rw [hw];exact (Pv.putbtwX (Pv.putr5X (Pv.putr4X (Pv.putr3X (Pv.putr2X (Pv.putr1X (Pv.putr0X (Pv.putl5X (Pv.putl4X (Pv.putl3X (Pv.putl2X (Pv.putl1X (Pv.putl0X HB.out _) _) _) _) _) _) _) _) _) _) _) _) _)
 clear hw
 replace HB:=Hd hb
 replace HGO:=gm_ HGO hk HOM
 replace HO:=Hd (HO.out.keeps hk (λ x _ hx e=>by have h1:=hx.1;have h2:=HL.out;have h3:x=m:=e;have h4:=HSA.out;omega))
 replace HQ:=Hd (HQ.out.keeps hk (λ x _ hx e=>by have h1:=hx.1;have h2:=HL.out;have h3:x=m:=e;have h4:=HSA.out;omega))
 replace HK:=Hd (HK.out.keeps hk (λ x _ hx e=>by have h1:=hx.1;have h2:=HL.out;have h3:x=m:=e;have h4:=HSA.out;omega))
 replace HJ:=Hd (HJ.out.keeps hk (λ x _ hx e=>HOF.out m (.inl rfl) (e▸hx.1)))
 replace K:=kx_ K hk
 replace HSB:=Hd (Nat.le_trans HSB.out hk.size)
 clear hk hb
 refine (ponX (nx:=8) HB.out).mono ?_
 rintro e w5 ⟨rfl,hb,hk⟩
 replace HB:=Hd hb
 replace HGO:=gm_ HGO hk HOM
 replace HO:=Hd (HO.out.keeps hk (λ x _ hx e=>by have h1:=hx.1;have h2:=HL.out;have h3:x=m:=e;have h4:=HSA.out;omega))
 replace HQ:=Hd (HQ.out.keeps hk (λ x _ hx e=>by have h1:=hx.1;have h2:=HL.out;have h3:x=m:=e;have h4:=HSA.out;omega))
 replace HK:=Hd (HK.out.keeps hk (λ x _ hx e=>by have h1:=hx.1;have h2:=HL.out;have h3:x=m:=e;have h4:=HSA.out;omega))
 replace HJ:=Hd (HJ.out.keeps hk (λ x _ hx e=>HOF.out m (.inl rfl) (e▸hx.1)))
 replace K:=kx_ K hk
 replace HSB:=Hd (Nat.le_trans HSB.out hk.size)
 clear hk hb
 go_wp2
 go_ret2
 refine ⟨rfl,Shr G w2 w3,dm,λ x=>S x\/Fresh w2 w3 x,HJ.out,λ _ h=>h.1,K.out,⟨⟨{{{v with fresh:=.int .i64 (opAlloc A).1} with l0:=.int .i64 (spL P.nw (opAlloc A).1).lvl,l1:=.slice D1 (spL P.nw (opAlloc A).1).high.length dj1,l2:=.int .i64 (spL P.nw (opAlloc A).1).right,l3:=.slice D3 (spL P.nw (opAlloc A).1).keys.length dj3,l4:=.slice D4 (spL P.nw (opAlloc A).1).vals.length dj4,l5:=.slice D5 (spL P.nw (opAlloc A).1).kids.length dj5,r0:=.int .i64 (spR P.nw).lvl,r1:=.slice E1 (spR P.nw).high.length ej1,r2:=.int .i64 (spR P.nw).right,r3:=.slice E3 (spR P.nw).keys.length ej3,r4:=.slice E4 (spR P.nw).vals.length ej4,r5:=.slice E5 (spR P.nw).kids.length ej5,btw:=.slice K1 (spK P.nw).length kk1} with next:=iV 8},HB.out,rfl,(λ h=>by cases h),λ _=>⟨{HGO.out.rd.mono (λ _ _ h=>.inl h) with nw:=λ _=>(HGO.out.rd.nw (by rw [HNX.out];decide)).mono (λ _ _ h=>.inl h),fresh:=rfl,left:=HO.out.mono (λ _ _ h=>.inr h),right:=HQ.out.mono (λ _ _ h=>.inr h),btw:=HK.out.mono (λ _ _ h=>.inr h)},λ d' hd'=>⟨(HGO.out.des d' hd').1.mono (λ _ _ h=>.inl h),(HGO.out.des d' hd').2⟩,λ h=>?_⟩⟩,λ h=>?_⟩,λ x hx=>?_,.inl rfl⟩
 ·rcases h with h|h
  ·exact HGO.out.nd h
  ·have h1:=h.1;have h2:=HSA.out;have h3:=HDL.out;omega
 ·rcases h with h|h
  ·exact HOM.out h
  ·have h1:=h.1;have h2:=HSA.out;have h3:=HL.out;omega
 ·rcases hx with h|h|h
  ·exact .inl (.inr (.inl h))
  ·exact .inl (.inr (.inr h))
  ·exact .inr ⟨⟨Nat.le_trans HSA.out h.1,Nat.lt_of_lt_of_le h.2 HSB.out⟩,λ hg=>hg.2 h⟩
theorem pslotX_6 (hJ:JX w G Φ p A) (off:∀ x,x=m\/x=dm\/S x->¬G x) (h:PX w m dm p S C P) (hx:P.nx=6) (ok:POk A P) (hdd:∃ d,P.D=some d):Calls Try.prog 26 #[pV m] w λ e w'=>e=.returned (.tuple #[.bool (stepP C.leaf C.inner A P).1.1,.bool (stepP C.leaf C.inner A P).1.2])/\PPX w w' G Φ p (stepP C.leaf C.inner A P).2.1 m dm S C (stepP C.leaf C.inner A P).2.2:=by
 rcases alloc_err A with hal|hal
 ·exact pslotX_6new hJ off h hx ok hdd hal
 ·exact pslotX_6full hJ off h hx ok hal
theorem stepPX_6 (hJ:JX w G Φ p A) (off:∀ x,x=m\/x=dm\/S x->¬G x) (h:PX w m dm p S C P) (hx:P.nx=6) (ok:POk A P) (hdd:∃ d,P.D=some d):Calls Try.prog 9 #[pV m] w λ e w'=>e=.returned (.tuple #[.bool (stepP C.leaf C.inner A P).1.1,.bool (stepP C.leaf C.inner A P).1.2])/\PPX w w' G Φ p (stepP C.leaf C.inner A P).2.1 m dm S C (stepP C.leaf C.inner A P).2.2:=by
 have FF:=pslotX_6 hJ off h hx ok hdd
 obtain ⟨⟨v,hb,hn,_,_⟩,hom⟩:=h
 have qn:w.cell? ⟨m,9,none⟩=some (.int .i64 6):=(Pv.nextX_ hb).trans (by rw [hn,hx];rfl)
 clear hJ off hb hn hom hx ok
 generalize stepP C.leaf C.inner A P=r at FF ⊢
 obtain ⟨⟨r1,r2⟩,r3,r4⟩:=r
 simp only at FF ⊢
 unfold pV at FF ⊢
 go_enter Try.func9,Try.ntmps9
 go_wp2_with fail
 clear qn
 refine FF.mono ?_
 rintro e w1 ⟨rfl,hp⟩
 clear FF
 go_wp2
 go_ret2
 exact ⟨rfl,hp⟩
theorem pslotX_15 (hJ:JX w G Φ p A) (off:∀ x,x=m\/x=dm\/S x->¬G x) (h:PX w m dm p S C P) (hx:P.nx=15) (ok:POk A P):Calls Try.prog 26 #[pV m] w λ e w'=>e=.returned (.tuple #[.bool (stepP C.leaf C.inner A P).1.1,.bool (stepP C.leaf C.inner A P).1.2])/\PPX w w' G Φ p (stepP C.leaf C.inner A P).2.1 m dm S C (stepP C.leaf C.inner A P).2.2:=by
 rcases alloc_err A with hal|hal
 ·exact pslotX_15new hJ off h hx ok hal
 ·exact pslotX_15full hJ off h hx ok hal
theorem stepPX_15 (hJ:JX w G Φ p A) (off:∀ x,x=m\/x=dm\/S x->¬G x) (h:PX w m dm p S C P) (hx:P.nx=15) (ok:POk A P):Calls Try.prog 9 #[pV m] w λ e w'=>e=.returned (.tuple #[.bool (stepP C.leaf C.inner A P).1.1,.bool (stepP C.leaf C.inner A P).1.2])/\PPX w w' G Φ p (stepP C.leaf C.inner A P).2.1 m dm S C (stepP C.leaf C.inner A P).2.2:=by
 have FF:=pslotX_15 hJ off h hx ok
 obtain ⟨⟨v,hb,hn,_,_⟩,hom⟩:=h
 have qn:w.cell? ⟨m,9,none⟩=some (.int .i64 15):=(Pv.nextX_ hb).trans (by rw [hn,hx];rfl)
 clear hJ off hb hn hom hx ok
 generalize stepP C.leaf C.inner A P=r at FF ⊢
 obtain ⟨⟨r1,r2⟩,r3,r4⟩:=r
 simp only at FF ⊢
 unfold pV at FF ⊢
 go_enter Try.func9,Try.ntmps9
 go_wp2_with fail
 clear qn
 refine FF.mono ?_
 rintro e w1 ⟨rfl,hp⟩
 clear FF
 go_wp2
 go_ret2
 exact ⟨rfl,hp⟩
theorem phalvedX (hJ:JX w G Φ p A) (off:∀ x,x=m\/x=dm\/S x->¬G x) (h:PX w m dm p S C P) (hx:P.nx=13) (ok:POk A P) (old:∀ x,S x->x < w.heap.size):Calls Try.prog 28 #[pV m] w λ e w'=>e=.returned (.tuple #[.bool (stepP C.leaf C.inner A P).1.1,.bool (stepP C.leaf C.inner A P).1.2])/\PPX w w' G Φ p (stepP C.leaf C.inner A P).2.1 m dm S C (stepP C.leaf C.inner A P).2.2:=by
 obtain ⟨oke,okb⟩:=ok.s13 hx
 have hlv0:=ok.lev
 rw [stepP_13 hx oke]
 replace oke:=Hd oke
 have hz:Hid (P.btw.length<=64):=okb
 clear ok okb
 by_cases hl:P.level=0
 ·rw [decide_eq_true hl]
  have HLV:Hid (True):=trivial
  clear hlv0
  have HOLD:Hid (∀ x,S x->x < w.heap.size):=old
  clear old
  obtain ⟨⟨v,hb,hn,_,hgo⟩,hom⟩:=h
  have hgo:=hgo (by omega)
  have Enext:Hid (v.next=.int .i64 13):=by show v.next=_;rw [hn,hx];rfl
  have Ea:Hid (v.a=.pointer (some ⟨p,0,none⟩)):=hgo.rd.a
  have Eid:Hid (v.id=.int .i64 P.id):=hgo.rd.id
  have Efresh:Hid (v.fresh=.int .i64 P.fresh):=hgo.rd.fresh
  obtain ⟨btwA,btwc,ebtw,_,_⟩:=hgo.rd.btw.form
  try simp only [List.length_map] at ebtw
  replace ebtw:=Hd ebtw
  have Ebtw:Hid (v.btw=.slice btwA P.btw.length btwc):=ebtw.out
  clear ebtw
  have Elevel:Hid (v.level=.int .i64 P.level):=hgo.rd.level
  have HL:=Hd hb.lt
  have HB:=Hd hb
  have HGO:=Hd hgo
  have HJ:=Hd hJ
  have HOF:Hid (∀ x,x=m\/x=dm\/S x->¬G x):=off
  have HOM:Hid (¬S m):=hom
  have K:Hid (Keeps (λ x=>G x\/x=m\/x=dm) w w):=Hd (Keeps.refl _ _)
  have HNX:Hid (P.nx=13):=hx
  clear hb hgo hJ off hom hn hx
  have Elevel:Hid (v.level=.int .i64 0):=by have:=Elevel.out;rw [hl] at this;exact this
  unfold pV
  go_enter Try.func28,Try.ntmps28
  go_wp2_with fail
  refine rC_ [0,1,2,3,4,5,6,7,8,9] 8 (λ W=>W.cell? ⟨m,0,none⟩=some (.pointer (some ⟨p,0,none⟩))/\W.cell? ⟨m,12,none⟩=some (.int .i64 P.id)) ?_ ?_
  ·exact ⟨(Pv.aX_ HB.out).trans (congrArg some Ea.out),(Pv.idX_ HB.out).trans (congrArg some Eid.out)⟩
  refine canon_at (λ w1 hw=>?_)
  have hk:Keeps Nob w w1:=by rw [hw];exact Keeps.drew _ _
  clear hw
  replace HB:=Hd (HB.out.keeps hk id)
  replace HGO:=gn_ HGO hk
  replace HJ:=Hd (HJ.out.nob hk)
  replace K:=tr_ K hk
  clear hk
  iterate 8
   refine cR_ (v:=?_) rfl ?_ ?_
   rotate_left
   ·intro W hW
    try (obtain ⟨z1,z2⟩:_/\_:=hW)
    go_simp
    try rfl
   simp only [Act.put,sa_,sb_,sc_]
  refine cA_ rfl ?_
  go_wp2_with (go_at_call 46;refine (HJ.out.unlockX (ix:=P.id)).mono ?_;rintro e w2 ⟨rfl,hj,hk⟩)
  rw [oke.out]
  unfold iV
  replace HB:=Hd (HB.out.keeps hk (HOF.out m (.inl rfl)))
  replace HGO:=gg_ HGO hk HOF
  replace HJ:=Hd hj
  replace K:=ky_ K hk
  clear hk hj
  refine ⟨.inl (by kernel_rfl),?_⟩
  iterate 1
   refine cR_ (v:=?_) rfl ?_ ?_
   rotate_left
   ·intro W hW
    try (obtain ⟨z1,z2⟩:_/\_:=hW)
    go_simp
    try rfl
   simp only [Act.put,sa_,sb_,sc_]
  refine wpCanon_nil ?_
  have qlevel:w2.cell? ⟨m,10,none⟩=some (.int .i64 0):=(Pv.levelX_ HB.out).trans (congrArg some Elevel.out)
  go_wp2_with fail
  clear qlevel
  refine rC_ [0,1,2,3,4,5,6,7,8,9,10,11,12,13,14,15,16,17,18,19,20,21,22,23] 17 (λ W=>W.cell? ⟨m,12,none⟩=some (.int .i64 P.id)/\W.cell? ⟨m,41,none⟩=some (.int .i64 P.fresh)/\W.cell? ⟨m,38,none⟩=some (.slice btwA P.btw.length btwc)) ?_ ?_
  ·exact ⟨(Pv.idX_ HB.out).trans (congrArg some Eid.out),(Pv.freshX_ HB.out).trans (congrArg some Efresh.out),(Pv.btwX_ HB.out).trans (congrArg some Ebtw.out)⟩
  refine canon_at (λ w3 hw=>?_)
  have hk:Keeps Nob w2 w3:=by rw [hw];exact Keeps.drew _ _
  clear hw
  replace HB:=Hd (HB.out.keeps hk id)
  replace HGO:=gn_ HGO hk
  replace HJ:=Hd (HJ.out.nob hk)
  replace K:=tr_ K hk
  clear hk
  iterate 17
   refine cR_ (v:=?_) rfl ?_ ?_
   rotate_left
   ·intro W hW
    try (obtain ⟨z1,z2,z3⟩:_/\_/\_:=hW)
    go_simp
    try rfl
   simp only [Act.put,sa_,sb_,sc_]
  refine cA_ rfl ?_
  have qside:=Pv.sideX_ HB.out
  have gside:=HB.out.frozen 39
  go_wp2
  clear qside gside
  refine ⟨.inl (by kernel_rfl),?_⟩
  refine canon_at (λ w4 hw=>?_)
  have hk:Keeps (λ x=>x=m) w3 w4:=by rw [hw];exact Keeps.setCell _ (M:=λ x=>x=m) rfl _
  have hb:Blk w4 m 77 (cellsX {v with side:=.int .i64 P.id}):=by rw [hw];exact (Pv.putsideX HB.out _)
  clear hw
  replace HB:=Hd hb
  replace HGO:=gm_ HGO hk HOM
  replace HJ:=jm_ HJ hk HOF
  replace K:=kx_ K hk
  clear hk hb
  iterate 2
   refine cR_ (v:=?_) rfl ?_ ?_
   rotate_left
   ·intro W hW
    try (obtain ⟨z1,z2,z3⟩:_/\_/\_:=hW)
    go_simp
    try rfl
   simp only [Act.put,sa_,sb_,sc_]
  refine cA_ rfl ?_
  have qhalf:=Pv.halfX_ HB.out
  have ghalf:=HB.out.frozen 40
  go_wp2
  clear qhalf ghalf
  refine ⟨.inl (by kernel_rfl),?_⟩
  refine canon_at (λ w5 hw=>?_)
  have hk:Keeps (λ x=>x=m) w4 w5:=by rw [hw];exact Keeps.setCell _ (M:=λ x=>x=m) rfl _
  have hb:Blk w5 m 77 (cellsX {{v with side:=.int .i64 P.id} with half:=.int .i64 P.fresh}):=by rw [hw];exact (Pv.puthalfX HB.out _)
  clear hw
  replace HB:=Hd hb
  replace HGO:=gm_ HGO hk HOM
  replace HJ:=jm_ HJ hk HOF
  replace K:=kx_ K hk
  clear hk hb
  iterate 2
   refine cR_ (v:=?_) rfl ?_ ?_
   rotate_left
   ·intro W hW
    try (obtain ⟨z1,z2,z3⟩:_/\_/\_:=hW)
    go_simp
    try rfl
   simp only [Act.put,sa_,sb_,sc_]
  refine cA_ rfl ?_
  have qsep:=Pv.sepX_ HB.out
  have gsep:=HB.out.frozen 11
  go_wp2
  clear qsep gsep
  refine ⟨.inl (by kernel_rfl),?_⟩
  refine canon_at (λ w6 hw=>?_)
  have hk:Keeps (λ x=>x=m) w5 w6:=by rw [hw];exact Keeps.setCell _ (M:=λ x=>x=m) rfl _
  have hb:Blk w6 m 77 (cellsX {{{v with side:=.int .i64 P.id} with half:=.int .i64 P.fresh} with sep:=.slice btwA P.btw.length btwc}):=by rw [hw];exact (Pv.putsepX HB.out _)
  clear hw
  replace HB:=Hd hb
  replace HGO:=gm_ HGO hk HOM
  replace HJ:=jm_ HJ hk HOF
  replace K:=kx_ K hk
  clear hk hb
  refine wpCanon_nil ?_
  have hlv:=HLV.out
  have qlevel:w6.cell? ⟨m,10,none⟩=some (.int .i64 0):=(Pv.levelX_ HB.out).trans (congrArg some Elevel.out)
  have glevel:=HB.out.frozen 10
  go_wp2_with fail
  clear hlv
  clear qlevel glevel
  refine calls_at (λ w7 hw=>?_)
  have hk:Keeps (λ x=>x=m) w6 w7:=by rw [hw];exact Keeps.setCell _ (M:=λ x=>x=m) rfl _
  have hb:Blk w7 m 77 (cellsX {{{{v with side:=.int .i64 P.id} with half:=.int .i64 P.fresh} with sep:=.slice btwA P.btw.length btwc} with level:=.int .i64 (0+1)}):=by rw [hw];exact (Pv.putlevelX HB.out _)
  clear hw
  replace HB:=Hd hb
  replace HGO:=gm_ HGO hk HOM
  replace HJ:=jm_ HJ hk HOF
  replace K:=kx_ K hk
  clear hk hb
  have HSW:=Hd K.out.size
  refine (pgoesX (l:=(0+1)) (sep:=P.btw) HB.out Ea.out rfl rfl (by have h:=HGO.out.rd.btw;rw [Ebtw.out] at h;exact h) hz.out).mono ?_
  rintro e w8 ⟨d,rfl,hf,hX,hb,hk⟩
  have HR:Hid (PRd w7 S p dm C {{{{v with side:=.int .i64 P.id} with half:=.int .i64 P.fresh} with sep:=.slice btwA P.btw.length btwc} with level:=.int .i64 (0+1)} ({P with side:=P.id,half:=P.fresh,sep:=P.btw,level:=P.level+1}:Pm)):={HGO.out.rd with side:=rfl,half:=rfl,sep:=(by have h:=HGO.out.rd.btw;rw [Ebtw.out] at h;exact h),level:=by rw [hl];rfl,nw:=λ _=>HGO.out.rd.nw (by rw [HNX.out];decide)}
  replace HR:=Hd (HR.out.keeps hk (λ x _ hx e=>HOM.out (e▸hx)))
  replace HJ:=Hd (HJ.out.shr hk (λ x _ hx e=>HOF.out m (.inl rfl) (e▸hx)))
  replace K:=kx_ K hk
  have HX:=Hd hX
  have HF:=Hd hf
  have HB1:=Hd hb
  clear hX hf hb hk HB HGO
  go_wp2
  go_ret2
  have hlt:m < w7.heap.size:=Nat.lt_of_lt_of_le HL.out HSW.out
  exact ⟨rfl,Shr G w7 w8,d,_,HJ.out,λ _ h=>h.1,K.out,PX.went HB1.out HR.out (by have h:=HX.out;rw [show (0:Int)+1=P.level+1 by rw [hl]] at h;exact h) HF.out hlt HOM.out (λ x hx=>Nat.lt_of_lt_of_le (HOLD.out x hx) HSW.out) (λ h=>by have h1:P.nx=5:=h;rw [HNX.out] at h1;cases h1),λ x hx=>went_sub HF.out HSW.out hx,.inr ⟨Nat.le_trans HSW.out HF.out.1,HF.out.2⟩⟩
 ·rw [decide_eq_false hl]
  have HLV:Hid (-9223372036854775808<=P.level+1/\P.level+1<=9223372036854775807):=⟨by omega,by omega⟩
  clear hlv0
  have HOLD:Hid (∀ x,S x->x < w.heap.size):=old
  clear old
  obtain ⟨⟨v,hb,hn,_,hgo⟩,hom⟩:=h
  have hgo:=hgo (by omega)
  have Enext:Hid (v.next=.int .i64 13):=by show v.next=_;rw [hn,hx];rfl
  have Ea:Hid (v.a=.pointer (some ⟨p,0,none⟩)):=hgo.rd.a
  have Eid:Hid (v.id=.int .i64 P.id):=hgo.rd.id
  have Efresh:Hid (v.fresh=.int .i64 P.fresh):=hgo.rd.fresh
  obtain ⟨btwA,btwc,ebtw,_,_⟩:=hgo.rd.btw.form
  try simp only [List.length_map] at ebtw
  replace ebtw:=Hd ebtw
  have Ebtw:Hid (v.btw=.slice btwA P.btw.length btwc):=ebtw.out
  clear ebtw
  have Elevel:Hid (v.level=.int .i64 P.level):=hgo.rd.level
  have HL:=Hd hb.lt
  have HB:=Hd hb
  have HGO:=Hd hgo
  have HJ:=Hd hJ
  have HOF:Hid (∀ x,x=m\/x=dm\/S x->¬G x):=off
  have HOM:Hid (¬S m):=hom
  have K:Hid (Keeps (λ x=>G x\/x=m\/x=dm) w w):=Hd (Keeps.refl _ _)
  have HNX:Hid (P.nx=13):=hx
  clear hb hgo hJ off hom hn hx
  have nl:(P.level==0)=false:=by simpa using hl
  unfold pV
  go_enter Try.func28,Try.ntmps28
  go_wp2_with fail
  refine rC_ [0,1,2,3,4,5,6,7,8,9] 8 (λ W=>W.cell? ⟨m,0,none⟩=some (.pointer (some ⟨p,0,none⟩))/\W.cell? ⟨m,12,none⟩=some (.int .i64 P.id)) ?_ ?_
  ·exact ⟨(Pv.aX_ HB.out).trans (congrArg some Ea.out),(Pv.idX_ HB.out).trans (congrArg some Eid.out)⟩
  refine canon_at (λ w1 hw=>?_)
  have hk:Keeps Nob w w1:=by rw [hw];exact Keeps.drew _ _
  clear hw
  replace HB:=Hd (HB.out.keeps hk id)
  replace HGO:=gn_ HGO hk
  replace HJ:=Hd (HJ.out.nob hk)
  replace K:=tr_ K hk
  clear hk
  iterate 8
   refine cR_ (v:=?_) rfl ?_ ?_
   rotate_left
   ·intro W hW
    try (obtain ⟨z1,z2⟩:_/\_:=hW)
    go_simp
    try rfl
   simp only [Act.put,sa_,sb_,sc_]
  refine cA_ rfl ?_
  go_wp2_with (go_at_call 46;refine (HJ.out.unlockX (ix:=P.id)).mono ?_;rintro e w2 ⟨rfl,hj,hk⟩)
  rw [oke.out]
  unfold iV
  replace HB:=Hd (HB.out.keeps hk (HOF.out m (.inl rfl)))
  replace HGO:=gg_ HGO hk HOF
  replace HJ:=Hd hj
  replace K:=ky_ K hk
  clear hk hj
  refine ⟨.inl (by kernel_rfl),?_⟩
  iterate 1
   refine cR_ (v:=?_) rfl ?_ ?_
   rotate_left
   ·intro W hW
    try (obtain ⟨z1,z2⟩:_/\_:=hW)
    go_simp
    try rfl
   simp only [Act.put,sa_,sb_,sc_]
  refine wpCanon_nil ?_
  have qlevel:w2.cell? ⟨m,10,none⟩=some (.int .i64 P.level):=(Pv.levelX_ HB.out).trans (congrArg some Elevel.out)
  go_wp2_with fail
  clear qlevel
  refine rC_ [0,1,2,3,4,5,6,7,8,9,10,11,12,13,14,15,16,17,18,19,20,21,22,23] 17 (λ W=>W.cell? ⟨m,12,none⟩=some (.int .i64 P.id)/\W.cell? ⟨m,41,none⟩=some (.int .i64 P.fresh)/\W.cell? ⟨m,38,none⟩=some (.slice btwA P.btw.length btwc)) ?_ ?_
  ·exact ⟨(Pv.idX_ HB.out).trans (congrArg some Eid.out),(Pv.freshX_ HB.out).trans (congrArg some Efresh.out),(Pv.btwX_ HB.out).trans (congrArg some Ebtw.out)⟩
  refine canon_at (λ w3 hw=>?_)
  have hk:Keeps Nob w2 w3:=by rw [hw];exact Keeps.drew _ _
  clear hw
  replace HB:=Hd (HB.out.keeps hk id)
  replace HGO:=gn_ HGO hk
  replace HJ:=Hd (HJ.out.nob hk)
  replace K:=tr_ K hk
  clear hk
  iterate 17
   refine cR_ (v:=?_) rfl ?_ ?_
   rotate_left
   ·intro W hW
    try (obtain ⟨z1,z2,z3⟩:_/\_/\_:=hW)
    go_simp
    try rfl
   simp only [Act.put,sa_,sb_,sc_]
  refine cA_ rfl ?_
  have qside:=Pv.sideX_ HB.out
  have gside:=HB.out.frozen 39
  go_wp2
  clear qside gside
  refine ⟨.inl (by kernel_rfl),?_⟩
  refine canon_at (λ w4 hw=>?_)
  have hk:Keeps (λ x=>x=m) w3 w4:=by rw [hw];exact Keeps.setCell _ (M:=λ x=>x=m) rfl _
  have hb:Blk w4 m 77 (cellsX {v with side:=.int .i64 P.id}):=by rw [hw];exact (Pv.putsideX HB.out _)
  clear hw
  replace HB:=Hd hb
  replace HGO:=gm_ HGO hk HOM
  replace HJ:=jm_ HJ hk HOF
  replace K:=kx_ K hk
  clear hk hb
  iterate 2
   refine cR_ (v:=?_) rfl ?_ ?_
   rotate_left
   ·intro W hW
    try (obtain ⟨z1,z2,z3⟩:_/\_/\_:=hW)
    go_simp
    try rfl
   simp only [Act.put,sa_,sb_,sc_]
  refine cA_ rfl ?_
  have qhalf:=Pv.halfX_ HB.out
  have ghalf:=HB.out.frozen 40
  go_wp2
  clear qhalf ghalf
  refine ⟨.inl (by kernel_rfl),?_⟩
  refine canon_at (λ w5 hw=>?_)
  have hk:Keeps (λ x=>x=m) w4 w5:=by rw [hw];exact Keeps.setCell _ (M:=λ x=>x=m) rfl _
  have hb:Blk w5 m 77 (cellsX {{v with side:=.int .i64 P.id} with half:=.int .i64 P.fresh}):=by rw [hw];exact (Pv.puthalfX HB.out _)
  clear hw
  replace HB:=Hd hb
  replace HGO:=gm_ HGO hk HOM
  replace HJ:=jm_ HJ hk HOF
  replace K:=kx_ K hk
  clear hk hb
  iterate 2
   refine cR_ (v:=?_) rfl ?_ ?_
   rotate_left
   ·intro W hW
    try (obtain ⟨z1,z2,z3⟩:_/\_/\_:=hW)
    go_simp
    try rfl
   simp only [Act.put,sa_,sb_,sc_]
  refine cA_ rfl ?_
  have qsep:=Pv.sepX_ HB.out
  have gsep:=HB.out.frozen 11
  go_wp2
  clear qsep gsep
  refine ⟨.inl (by kernel_rfl),?_⟩
  refine canon_at (λ w6 hw=>?_)
  have hk:Keeps (λ x=>x=m) w5 w6:=by rw [hw];exact Keeps.setCell _ (M:=λ x=>x=m) rfl _
  have hb:Blk w6 m 77 (cellsX {{{v with side:=.int .i64 P.id} with half:=.int .i64 P.fresh} with sep:=.slice btwA P.btw.length btwc}):=by rw [hw];exact (Pv.putsepX HB.out _)
  clear hw
  replace HB:=Hd hb
  replace HGO:=gm_ HGO hk HOM
  replace HJ:=jm_ HJ hk HOF
  replace K:=kx_ K hk
  clear hk hb
  refine wpCanon_nil ?_
  have hlv:=HLV.out
  have qlevel:w6.cell? ⟨m,10,none⟩=some (.int .i64 P.level):=(Pv.levelX_ HB.out).trans (congrArg some Elevel.out)
  have glevel:=HB.out.frozen 10
  go_wp2_with fail
  clear hlv
  clear qlevel glevel
  refine calls_at (λ w7 hw=>?_)
  have hk:Keeps (λ x=>x=m) w6 w7:=by rw [hw];exact Keeps.setCell _ (M:=λ x=>x=m) rfl _
  have hb:Blk w7 m 77 (cellsX {{{{v with side:=.int .i64 P.id} with half:=.int .i64 P.fresh} with sep:=.slice btwA P.btw.length btwc} with level:=.int .i64 (P.level+1)}):=by rw [hw];exact (Pv.putlevelX HB.out _)
  clear hw
  replace HB:=Hd hb
  replace HGO:=gm_ HGO hk HOM
  replace HJ:=jm_ HJ hk HOF
  replace K:=kx_ K hk
  clear hk hb
  have HSW:=Hd K.out.size
  refine (pgoesX (l:=(P.level+1)) (sep:=P.btw) HB.out Ea.out rfl rfl (by have h:=HGO.out.rd.btw;rw [Ebtw.out] at h;exact h) hz.out).mono ?_
  rintro e w8 ⟨d,rfl,hf,hX,hb,hk⟩
  have HR:Hid (PRd w7 S p dm C {{{{v with side:=.int .i64 P.id} with half:=.int .i64 P.fresh} with sep:=.slice btwA P.btw.length btwc} with level:=.int .i64 (P.level+1)} ({P with side:=P.id,half:=P.fresh,sep:=P.btw,level:=P.level+1}:Pm)):={HGO.out.rd with side:=rfl,half:=rfl,sep:=(by have h:=HGO.out.rd.btw;rw [Ebtw.out] at h;exact h),level:=rfl,nw:=λ _=>HGO.out.rd.nw (by rw [HNX.out];decide)}
  replace HR:=Hd (HR.out.keeps hk (λ x _ hx e=>HOM.out (e▸hx)))
  replace HJ:=Hd (HJ.out.shr hk (λ x _ hx e=>HOF.out m (.inl rfl) (e▸hx)))
  replace K:=kx_ K hk
  have HX:=Hd hX
  have HF:=Hd hf
  have HB1:=Hd hb
  clear hX hf hb hk HB HGO
  go_wp2
  go_ret2
  have hlt:m < w7.heap.size:=Nat.lt_of_lt_of_le HL.out HSW.out
  exact ⟨rfl,Shr G w7 w8,d,_,HJ.out,λ _ h=>h.1,K.out,PX.went HB1.out HR.out HX.out HF.out hlt HOM.out (λ x hx=>Nat.lt_of_lt_of_le (HOLD.out x hx) HSW.out) (λ h=>by have h1:P.nx=5:=h;rw [HNX.out] at h1;cases h1),λ x hx=>went_sub HF.out HSW.out hx,.inr ⟨Nat.le_trans HSW.out HF.out.1,HF.out.2⟩⟩
theorem stepPX_13 (hJ:JX w G Φ p A) (off:∀ x,x=m\/x=dm\/S x->¬G x) (h:PX w m dm p S C P) (hx:P.nx=13) (ok:POk A P) (old:∀ x,S x->x < w.heap.size):Calls Try.prog 9 #[pV m] w λ e w'=>e=.returned (.tuple #[.bool (stepP C.leaf C.inner A P).1.1,.bool (stepP C.leaf C.inner A P).1.2])/\PPX w w' G Φ p (stepP C.leaf C.inner A P).2.1 m dm S C (stepP C.leaf C.inner A P).2.2:=by
 have FF:=phalvedX hJ off h hx ok old
 obtain ⟨⟨v,hb,hn,_,_⟩,hom⟩:=h
 have qn:w.cell? ⟨m,9,none⟩=some (.int .i64 13):=(Pv.nextX_ hb).trans (by rw [hn,hx];rfl)
 clear hJ off hb hn hom hx ok
 generalize stepP C.leaf C.inner A P=r at FF ⊢
 obtain ⟨⟨r1,r2⟩,r3,r4⟩:=r
 simp only at FF ⊢
 unfold pV at FF ⊢
 go_enter Try.func9,Try.ntmps9
 go_wp2_with fail
 clear qn
 refine FF.mono ?_
 rintro e w1 ⟨rfl,hp⟩
 clear FF
 go_wp2
 go_ret2
 exact ⟨rfl,hp⟩
theorem pgrowsX_grown (hJ:JX w G Φ p A) (off:∀ x,x=m\/x=dm\/S x->¬G x) (h:PX w m dm p S C P) (hx:P.nx=19) (ok:POk A P) (hg:(opGrow A P.side P.root).1=true/\(opGrow A P.side P.root).2.1=0):Calls Try.prog 29 #[pV m] w λ e w'=>e=.returned (.tuple #[.bool (stepP C.leaf C.inner A P).1.1,.bool (stepP C.leaf C.inner A P).1.2])/\PPX w w' G Φ p (stepP C.leaf C.inner A P).2.1 m dm S C (stepP C.leaf C.inner A P).2.2:=by
 rw [stepP_19 hx,if_pos (.inl hg.1)]
 rw [hg.2]
 replace hg:=Hd hg
 clear ok
 obtain ⟨⟨v,hb,hn,_,hgo⟩,hom⟩:=h
 have hgo:=hgo (by omega)
 have Enext:Hid (v.next=.int .i64 19):=by show v.next=_;rw [hn,hx];rfl
 have Ea:Hid (v.a=.pointer (some ⟨p,0,none⟩)):=hgo.rd.a
 have Eside:Hid (v.side=.int .i64 P.side):=hgo.rd.side
 have Eroot:Hid (v.root=.int .i64 P.root):=hgo.rd.root
 have Ethere:Hid (v.there=.bool P.there):=hgo.rd.there
 have HL:=Hd hb.lt
 have HB:=Hd hb
 have HGO:=Hd hgo
 have HJ:=Hd hJ
 have HOF:Hid (∀ x,x=m\/x=dm\/S x->¬G x):=off
 have HOM:Hid (¬S m):=hom
 have K:Hid (Keeps (λ x=>G x\/x=m\/x=dm) w w):=Hd (Keeps.refl _ _)
 have HNX:Hid (P.nx=19):=hx
 clear hb hgo hJ off hom hn hx
 unfold pV
 go_enter Try.func29,Try.ntmps29
 go_wp2_with fail
 refine rC_ [0,1,2,3,4,5,6,7,8,9,10,11,12,13,14,15,16,17] 12 (λ W=>W.cell? ⟨m,0,none⟩=some (.pointer (some ⟨p,0,none⟩))/\W.cell? ⟨m,39,none⟩=some (.int .i64 P.side)/\W.cell? ⟨m,42,none⟩=some (.int .i64 P.root)) ?_ ?_
 ·exact ⟨(Pv.aX_ HB.out).trans (congrArg some Ea.out),(Pv.sideX_ HB.out).trans (congrArg some Eside.out),(Pv.rootX_ HB.out).trans (congrArg some Eroot.out)⟩
 refine canon_at (λ w1 hw=>?_)
 have hk:Keeps Nob w w1:=by rw [hw];exact Keeps.drew _ _
 clear hw
 replace HB:=Hd (HB.out.keeps hk id)
 replace HGO:=gn_ HGO hk
 replace HJ:=Hd (HJ.out.nob hk)
 replace K:=tr_ K hk
 clear hk
 iterate 12
  refine cR_ (v:=?_) rfl ?_ ?_
  rotate_left
  ·intro W hW
   try (obtain ⟨z1,z2,z3⟩:_/\_/\_:=hW)
   go_simp
   try rfl
  simp only [Act.put,sa_,sb_,sc_]
 refine cA_ rfl ?_
 go_wp2_with (go_at_call 50;refine (HJ.out.growX (o:=P.side) (ix:=P.root)).mono ?_;rintro e w2 ⟨rfl,hj,hk⟩)
 rw [hg.out.1,hg.out.2]
 unfold iV
 replace HB:=Hd (HB.out.keeps hk (HOF.out m (.inl rfl)))
 replace HGO:=gg_ HGO hk HOF
 replace HJ:=Hd hj
 replace K:=ky_ K hk
 clear hk hj
 refine ⟨.inl (by kernel_rfl),?_⟩
 iterate 5
  refine cR_ (v:=?_) rfl ?_ ?_
  rotate_left
  ·intro W hW
   try (obtain ⟨z1,z2,z3⟩:_/\_/\_:=hW)
   go_simp
   try rfl
  simp only [Act.put,sa_,sb_,sc_]
 refine wpCanon_nil ?_
 go_wp2_with fail
 refine (pendsX (th:=P.there) (took:=false) (er:=0) HB.out Ethere.out).mono ?_
 rintro e w3 ⟨rfl,hb,hk⟩
 replace HB:=Hd hb
 replace HGO:=gm_ HGO hk HOM
 replace HJ:=jm_ HJ hk HOF
 replace K:=kx_ K hk
 clear hk hb
 go_wp2
 go_ret2
 exact ⟨rfl,G,dm,S,HJ.out,λ _ h=>h,K.out,⟨⟨{v with next:=iV 20,err:=iV 0,there:=.bool (P.there&&decide ((0:Int)=0))},HB.out,rfl,λ _=>⟨rfl,rfl⟩,λ h=>absurd rfl h⟩,HOM.out⟩,λ x hx=>.inl (.inr hx),.inl rfl⟩
theorem pgrowsX_err (hJ:JX w G Φ p A) (off:∀ x,x=m\/x=dm\/S x->¬G x) (h:PX w m dm p S C P) (hx:P.nx=19) (ok:POk A P) (hg:(opGrow A P.side P.root).1=false/\(opGrow A P.side P.root).2.1=101):Calls Try.prog 29 #[pV m] w λ e w'=>e=.returned (.tuple #[.bool (stepP C.leaf C.inner A P).1.1,.bool (stepP C.leaf C.inner A P).1.2])/\PPX w w' G Φ p (stepP C.leaf C.inner A P).2.1 m dm S C (stepP C.leaf C.inner A P).2.2:=by
 rw [stepP_19 hx,if_pos (.inr (by rw [hg.2];decide))]
 rw [hg.2]
 replace hg:=Hd hg
 clear ok
 obtain ⟨⟨v,hb,hn,_,hgo⟩,hom⟩:=h
 have hgo:=hgo (by omega)
 have Enext:Hid (v.next=.int .i64 19):=by show v.next=_;rw [hn,hx];rfl
 have Ea:Hid (v.a=.pointer (some ⟨p,0,none⟩)):=hgo.rd.a
 have Eside:Hid (v.side=.int .i64 P.side):=hgo.rd.side
 have Eroot:Hid (v.root=.int .i64 P.root):=hgo.rd.root
 have Ethere:Hid (v.there=.bool P.there):=hgo.rd.there
 have HL:=Hd hb.lt
 have HB:=Hd hb
 have HGO:=Hd hgo
 have HJ:=Hd hJ
 have HOF:Hid (∀ x,x=m\/x=dm\/S x->¬G x):=off
 have HOM:Hid (¬S m):=hom
 have K:Hid (Keeps (λ x=>G x\/x=m\/x=dm) w w):=Hd (Keeps.refl _ _)
 have HNX:Hid (P.nx=19):=hx
 clear hb hgo hJ off hom hn hx
 unfold pV
 go_enter Try.func29,Try.ntmps29
 go_wp2_with fail
 refine rC_ [0,1,2,3,4,5,6,7,8,9,10,11,12,13,14,15,16,17] 12 (λ W=>W.cell? ⟨m,0,none⟩=some (.pointer (some ⟨p,0,none⟩))/\W.cell? ⟨m,39,none⟩=some (.int .i64 P.side)/\W.cell? ⟨m,42,none⟩=some (.int .i64 P.root)) ?_ ?_
 ·exact ⟨(Pv.aX_ HB.out).trans (congrArg some Ea.out),(Pv.sideX_ HB.out).trans (congrArg some Eside.out),(Pv.rootX_ HB.out).trans (congrArg some Eroot.out)⟩
 refine canon_at (λ w1 hw=>?_)
 have hk:Keeps Nob w w1:=by rw [hw];exact Keeps.drew _ _
 clear hw
 replace HB:=Hd (HB.out.keeps hk id)
 replace HGO:=gn_ HGO hk
 replace HJ:=Hd (HJ.out.nob hk)
 replace K:=tr_ K hk
 clear hk
 iterate 12
  refine cR_ (v:=?_) rfl ?_ ?_
  rotate_left
  ·intro W hW
   try (obtain ⟨z1,z2,z3⟩:_/\_/\_:=hW)
   go_simp
   try rfl
  simp only [Act.put,sa_,sb_,sc_]
 refine cA_ rfl ?_
 go_wp2_with (go_at_call 50;refine (HJ.out.growX (o:=P.side) (ix:=P.root)).mono ?_;rintro e w2 ⟨rfl,hj,hk⟩)
 rw [hg.out.1,hg.out.2]
 unfold iV
 replace HB:=Hd (HB.out.keeps hk (HOF.out m (.inl rfl)))
 replace HGO:=gg_ HGO hk HOF
 replace HJ:=Hd hj
 replace K:=ky_ K hk
 clear hk hj
 refine ⟨.inl (by kernel_rfl),?_⟩
 iterate 5
  refine cR_ (v:=?_) rfl ?_ ?_
  rotate_left
  ·intro W hW
   try (obtain ⟨z1,z2,z3⟩:_/\_/\_:=hW)
   go_simp
   try rfl
  simp only [Act.put,sa_,sb_,sc_]
 refine wpCanon_nil ?_
 go_wp2_with fail
 refine (pendsX (th:=P.there) (took:=false) (er:=101) HB.out Ethere.out).mono ?_
 rintro e w3 ⟨rfl,hb,hk⟩
 replace HB:=Hd hb
 replace HGO:=gm_ HGO hk HOM
 replace HJ:=jm_ HJ hk HOF
 replace K:=kx_ K hk
 clear hk hb
 go_wp2
 go_ret2
 exact ⟨rfl,G,dm,S,HJ.out,λ _ h=>h,K.out,⟨⟨{v with next:=iV 20,err:=iV 101,there:=.bool (P.there&&decide ((101:Int)=0))},HB.out,rfl,λ _=>⟨rfl,rfl⟩,λ h=>absurd rfl h⟩,HOM.out⟩,λ x hx=>.inl (.inr hx),.inl rfl⟩
theorem pgrowsX_goes (hJ:JX w G Φ p A) (off:∀ x,x=m\/x=dm\/S x->¬G x) (h:PX w m dm p S C P) (hx:P.nx=19) (ok:POk A P) (old:∀ x,S x->x < w.heap.size) (hg:(opGrow A P.side P.root).1=false/\(opGrow A P.side P.root).2.1=0):Calls Try.prog 29 #[pV m] w λ e w'=>e=.returned (.tuple #[.bool (stepP C.leaf C.inner A P).1.1,.bool (stepP C.leaf C.inner A P).1.2])/\PPX w w' G Φ p (stepP C.leaf C.inner A P).2.1 m dm S C (stepP C.leaf C.inner A P).2.2:=by
 have HOLD:Hid (∀ x,S x->x < w.heap.size):=old
 clear old
 rw [stepP_19 hx,if_neg (λ h=>h.elim (λ h=>by rw [hg.1] at h;cases h) (λ h=>h hg.2))]
 have okk:=ok.key (by omega) (by omega)
 have hz:Hid (P.sep.length<=64):=okk.1
 clear okk
 replace hg:=Hd hg
 clear ok
 obtain ⟨⟨v,hb,hn,_,hgo⟩,hom⟩:=h
 have hgo:=hgo (by omega)
 have Enext:Hid (v.next=.int .i64 19):=by show v.next=_;rw [hn,hx];rfl
 have Ea:Hid (v.a=.pointer (some ⟨p,0,none⟩)):=hgo.rd.a
 have Eside:Hid (v.side=.int .i64 P.side):=hgo.rd.side
 have Eroot:Hid (v.root=.int .i64 P.root):=hgo.rd.root
 obtain ⟨sepA,sepc,esep,_,_⟩:=hgo.rd.sep.form
 try simp only [List.length_map] at esep
 replace esep:=Hd esep
 have Esep:Hid (v.sep=.slice sepA P.sep.length sepc):=esep.out
 clear esep
 have Elevel:Hid (v.level=.int .i64 P.level):=hgo.rd.level
 have HL:=Hd hb.lt
 have HB:=Hd hb
 have HGO:=Hd hgo
 have HJ:=Hd hJ
 have HOF:Hid (∀ x,x=m\/x=dm\/S x->¬G x):=off
 have HOM:Hid (¬S m):=hom
 have K:Hid (Keeps (λ x=>G x\/x=m\/x=dm) w w):=Hd (Keeps.refl _ _)
 have HNX:Hid (P.nx=19):=hx
 clear hb hgo hJ off hom hn hx
 unfold pV
 go_enter Try.func29,Try.ntmps29
 go_wp2_with fail
 refine rC_ [0,1,2,3,4,5,6,7,8,9,10,11,12,13,14,15,16,17] 12 (λ W=>W.cell? ⟨m,0,none⟩=some (.pointer (some ⟨p,0,none⟩))/\W.cell? ⟨m,39,none⟩=some (.int .i64 P.side)/\W.cell? ⟨m,42,none⟩=some (.int .i64 P.root)) ?_ ?_
 ·exact ⟨(Pv.aX_ HB.out).trans (congrArg some Ea.out),(Pv.sideX_ HB.out).trans (congrArg some Eside.out),(Pv.rootX_ HB.out).trans (congrArg some Eroot.out)⟩
 refine canon_at (λ w1 hw=>?_)
 have hk:Keeps Nob w w1:=by rw [hw];exact Keeps.drew _ _
 clear hw
 replace HB:=Hd (HB.out.keeps hk id)
 replace HGO:=gn_ HGO hk
 replace HJ:=Hd (HJ.out.nob hk)
 replace K:=tr_ K hk
 clear hk
 iterate 12
  refine cR_ (v:=?_) rfl ?_ ?_
  rotate_left
  ·intro W hW
   try (obtain ⟨z1,z2,z3⟩:_/\_/\_:=hW)
   go_simp
   try rfl
  simp only [Act.put,sa_,sb_,sc_]
 refine cA_ rfl ?_
 go_wp2_with (go_at_call 50;refine (HJ.out.growX (o:=P.side) (ix:=P.root)).mono ?_;rintro e w2 ⟨rfl,hj,hk⟩)
 rw [hg.out.1,hg.out.2]
 unfold iV
 replace HB:=Hd (HB.out.keeps hk (HOF.out m (.inl rfl)))
 replace HGO:=gg_ HGO hk HOF
 replace HJ:=Hd hj
 replace K:=ky_ K hk
 clear hk hj
 refine ⟨.inl (by kernel_rfl),?_⟩
 iterate 5
  refine cR_ (v:=?_) rfl ?_ ?_
  rotate_left
  ·intro W hW
   try (obtain ⟨z1,z2,z3⟩:_/\_/\_:=hW)
   go_simp
   try rfl
  simp only [Act.put,sa_,sb_,sc_]
 refine wpCanon_nil ?_
 go_wp2_with fail
 have HSW:=Hd K.out.size
 refine (pgoesX (l:=P.level) HB.out Ea.out Elevel.out Esep.out (by have h:=HGO.out.rd.sep;rw [Esep.out] at h;exact h) hz.out).mono ?_
 rintro e w3 ⟨d,rfl,hf,hX,hb,hk⟩
 have HR:=Hd HGO.out.rd
 replace HR:=Hd (HR.out.keeps hk (λ x _ hx e=>HOM.out (e▸hx)))
 replace HJ:=Hd (HJ.out.shr hk (λ x _ hx e=>HOF.out m (.inl rfl) (e▸hx)))
 replace K:=kx_ K hk
 have HX:=Hd hX
 have HF:=Hd hf
 have HB1:=Hd hb
 clear hX hf hb hk HB HGO
 go_wp2
 try rw [Exit.noGoto_ret]
 go_ret2
 have hlt:m < w2.heap.size:=Nat.lt_of_lt_of_le HL.out HSW.out
 exact ⟨rfl,Shr G w2 w3,d,_,HJ.out,λ _ h=>h.1,K.out,PX.went HB1.out HR.out HX.out HF.out hlt HOM.out (λ x hx=>Nat.lt_of_lt_of_le (HOLD.out x hx) HSW.out) (by rw [HNX.out];decide),λ x hx=>went_sub HF.out HSW.out hx,.inr ⟨Nat.le_trans HSW.out HF.out.1,HF.out.2⟩⟩
theorem grow_three (A:Ar) (o t:Int):((opGrow A o t).1=true/\(opGrow A o t).2.1=0)\/((opGrow A o t).1=false/\(opGrow A o t).2.1=101)\/((opGrow A o t).1=false/\(opGrow A o t).2.1=0):=by
 unfold opGrow
 split
 ·exact .inr (.inl ⟨rfl,rfl⟩)
 ·split
  ·exact .inl ⟨rfl,rfl⟩
  ·exact .inr (.inr ⟨rfl,rfl⟩)
theorem pgrowsX (hJ:JX w G Φ p A) (off:∀ x,x=m\/x=dm\/S x->¬G x) (h:PX w m dm p S C P) (hx:P.nx=19) (ok:POk A P) (old:∀ x,S x->x < w.heap.size):Calls Try.prog 29 #[pV m] w λ e w'=>e=.returned (.tuple #[.bool (stepP C.leaf C.inner A P).1.1,.bool (stepP C.leaf C.inner A P).1.2])/\PPX w w' G Φ p (stepP C.leaf C.inner A P).2.1 m dm S C (stepP C.leaf C.inner A P).2.2:=by
 rcases grow_three A P.side P.root with hg|hg|hg
 ·exact pgrowsX_grown hJ off h hx ok hg
 ·exact pgrowsX_err hJ off h hx ok hg
 ·exact pgrowsX_goes hJ off h hx ok old hg
theorem stepPX_19 (hJ:JX w G Φ p A) (off:∀ x,x=m\/x=dm\/S x->¬G x) (h:PX w m dm p S C P) (hx:P.nx=19) (ok:POk A P) (old:∀ x,S x->x < w.heap.size):Calls Try.prog 9 #[pV m] w λ e w'=>e=.returned (.tuple #[.bool (stepP C.leaf C.inner A P).1.1,.bool (stepP C.leaf C.inner A P).1.2])/\PPX w w' G Φ p (stepP C.leaf C.inner A P).2.1 m dm S C (stepP C.leaf C.inner A P).2.2:=by
 have FF:=pgrowsX hJ off h hx ok old
 obtain ⟨⟨v,hb,hn,_,_⟩,hom⟩:=h
 have qn:w.cell? ⟨m,9,none⟩=some (.int .i64 19):=(Pv.nextX_ hb).trans (by rw [hn,hx];rfl)
 clear hJ off hb hn hom hx ok
 generalize stepP C.leaf C.inner A P=r at FF ⊢
 obtain ⟨⟨r1,r2⟩,r3,r4⟩:=r
 simp only at FF ⊢
 unfold pV at FF ⊢
 go_enter Try.func9,Try.ntmps9
 go_wp2_with fail
 clear qn
 refine FF.mono ?_
 rintro e w1 ⟨rfl,hp⟩
 clear FF
 go_wp2
 go_ret2
 exact ⟨rfl,hp⟩
end
end Go.Proofs.Ytjcgphhpaenjkaa

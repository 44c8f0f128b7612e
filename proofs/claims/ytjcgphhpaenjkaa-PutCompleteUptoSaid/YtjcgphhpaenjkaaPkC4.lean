import Derived.Test.YtjcgphhpaenjkaaPkC3
set_option maxHeartbeats 64000000
set_option maxRecDepth 100000
set_option linter.unusedVariables false
namespace Go.Proofs.Ytjcgphhpaenjkaa
open Go.RowKit
theorem sm0 {n:Nd} (h:Few 7 n):NdSm 0 n:=(h.smI (by decide)).mono (by decide)
section
variable {w:World} {G S:Nat->Prop} {b p q m dm:Nat} {A B:Ar} {Φ:Fr} {C:Cf} {P:Pm}
theorem stepPX_0 (hJ:JX w G Φ p A) (off:∀ x,x=m\/x=dm\/S x->¬G x) (h:PX w m dm p S C P) (hx:P.nx=0) (ok:POk A P):Calls Try.prog 9 #[pV m] w λ e w'=>e=.returned (.tuple #[.bool (stepP C.leaf C.inner A P).1.1,.bool (stepP C.leaf C.inner A P).1.2])/\PPX w w' G Φ p (stepP C.leaf C.inner A P).2.1 m dm S C (stepP C.leaf C.inner A P).2.2:=by
 rw [stepP_0 hx]
 clear ok
 obtain ⟨⟨v,hb,hn,_,hgo⟩,hom⟩:=h
 have hgo:=hgo (by omega)
 have Enext:Hid (v.next=.int .i64 0):=by show v.next=_;rw [hn,hx];rfl
 have Ethere:Hid (v.there=.bool P.there):=hgo.rd.there
 have HL:=Hd hb.lt
 have HB:=Hd hb
 have HGO:=Hd hgo
 have HJ:=Hd hJ
 have HOF:Hid (∀ x,x=m\/x=dm\/S x->¬G x):=off
 have HOM:Hid (¬S m):=hom
 have K:Hid (Keeps (λ x=>G x\/x=m\/x=dm) w w):=Hd (Keeps.refl _ _)
 have HNX:Hid (P.nx=0):=hx
 clear hb hgo hJ off hom hn hx
 unfold pV
 go_enter Try.func9,Try.ntmps9
 have qnext:w.cell? ⟨m,9,none⟩=some (.int .i64 0):=(Pv.nextX_ HB.out).trans (congrArg some Enext.out)
 go_wp2_with fail
 clear qnext
 refine (pendsX (th:=P.there) (took:=true) (er:=3) HB.out Ethere.out).mono ?_
 rintro e w1 ⟨rfl,hb,hk⟩
 replace HB:=Hd hb
 replace HGO:=gm_ HGO hk HOM
 replace HJ:=jm_ HJ hk HOF
 replace K:=kx_ K hk
 clear hk hb
 go_wp2
 go_ret2
 exact ⟨rfl,G,dm,S,HJ.out,λ _ h=>h,K.out,⟨⟨{v with next:=iV 20,err:=iV 3,there:=.bool (P.there&&decide ((3:Int)=0))},HB.out,rfl,λ _=>⟨rfl,rfl⟩,λ h=>absurd rfl h⟩,HOM.out⟩,λ x hx=>.inl (.inr hx),.inl rfl⟩
theorem stepPX_20 (h:PX w m dm p S C P) (hx:P.nx=20):Calls Try.prog 9 #[pV m] w λ e w'=>e=.returned (.tuple #[.bool true,.bool false])/\w=w':=by
 obtain ⟨⟨v,hb,hn,_,_⟩,hom⟩:=h
 have qn:w.cell? ⟨m,9,none⟩=some (.int .i64 20):=(Pv.nextX_ hb).trans (by rw [hn,hx];rfl)
 clear hb hn hom hx
 unfold pV
 go_enter Try.func9,Try.ntmps9
 go_wp2
 go_ret2
 exact ⟨rfl,rfl⟩
theorem stepPX_3 (hJ:JX w G Φ p A) (off:∀ x,x=m\/x=dm\/S x->¬G x) (h:PX w m dm p S C P) (hx:P.nx=3) (ok:POk A P):Calls Try.prog 9 #[pV m] w λ e w'=>e=.returned (.tuple #[.bool (stepP C.leaf C.inner A P).1.1,.bool (stepP C.leaf C.inner A P).1.2])/\PPX w w' G Φ p (stepP C.leaf C.inner A P).2.1 m dm S C (stepP C.leaf C.inner A P).2.2:=by
 obtain ⟨oke,okf⟩:=ok.body hx
 rw [stepP_3 hx oke]
 replace oke:=Hd oke
 replace okf:=Hd (sm0 okf)
 clear ok
 obtain ⟨⟨v,hb,hn,_,hgo⟩,hom⟩:=h
 have hgo:=hgo (by omega)
 have Enext:Hid (v.next=.int .i64 3):=by show v.next=_;rw [hn,hx];rfl
 have Ea:Hid (v.a=.pointer (some ⟨p,0,none⟩)):=hgo.rd.a
 have Eid:Hid (v.id=.int .i64 P.id):=hgo.rd.id
 have hndn:=hgo.rd.nw (by omega)
 obtain ⟨nA1,nk1,e1,_,_⟩:=hndn.1.high.form
 obtain ⟨nA3,nk3,e3,_,_⟩:=hndn.2.keys.form
 obtain ⟨nA4,nk4,e4,_,_⟩:=hndn.2.vals.form
 obtain ⟨nA5,nk5,e5,_,_⟩:=hndn.2.kids.form
 try simp only [List.length_map] at e1 e5
 have En0:Hid (v.n0=.int .i64 P.nw.lvl):=hndn.1.lvl
 have En1:Hid (v.n1=.slice nA1 P.nw.high.length nk1):=e1
 have En2:Hid (v.n2=.int .i64 P.nw.right):=hndn.1.right
 have En3:Hid (v.n3=.slice nA3 P.nw.keys.length nk3):=e3
 have En4:Hid (v.n4=.slice nA4 P.nw.vals.length nk4):=e4
 have En5:Hid (v.n5=.slice nA5 P.nw.kids.length nk5):=e5
 have HNn:Hid (∀ W,PRd W S p dm C v P->IsHd W S (.int .i64 P.nw.lvl) (.slice nA1 P.nw.high.length nk1) (.int .i64 P.nw.right) P.nw/\IsBd W S (.slice nA3 P.nw.keys.length nk3) (.slice nA4 P.nw.vals.length nk4) (.slice nA5 P.nw.kids.length nk5) P.nw):=λ W hr=>by
  have h0:=hr.nw (by omega)
  rw [En0.out,En1.out,En2.out,En3.out,En4.out,En5.out] at h0
  exact ⟨h0.1,h0.2⟩
 clear hndn e1 e3 e4 e5
 have HL:=Hd hb.lt
 have HB:=Hd hb
 have HGO:=Hd hgo
 have HJ:=Hd hJ
 have HOF:Hid (∀ x,x=m\/x=dm\/S x->¬G x):=off
 have HOM:Hid (¬S m):=hom
 have K:Hid (Keeps (λ x=>G x\/x=m\/x=dm) w w):=Hd (Keeps.refl _ _)
 have HNX:Hid (P.nx=3):=hx
 clear hb hgo hJ off hom hn hx
 unfold pV
 go_enter Try.func9,Try.ntmps9
 have qnext:w.cell? ⟨m,9,none⟩=some (.int .i64 3):=(Pv.nextX_ HB.out).trans (congrArg some Enext.out)
 go_wp2_with fail
 clear qnext
 refine rC_ [0,1,2,3,4,5,6,7,8,9,10,11,12,13,14,15,16,17,18,19] 14 (λ W=>W.cell? ⟨m,0,none⟩=some (.pointer (some ⟨p,0,none⟩))/\W.cell? ⟨m,12,none⟩=some (.int .i64 P.id)/\W.cell? ⟨m,23,none⟩=some (.slice nA3 P.nw.keys.length nk3)/\W.cell? ⟨m,24,none⟩=some (.slice nA4 P.nw.vals.length nk4)/\W.cell? ⟨m,25,none⟩=some (.slice nA5 P.nw.kids.length nk5)) ?_ ?_
 ·exact ⟨(Pv.aX_ HB.out).trans (congrArg some Ea.out),(Pv.idX_ HB.out).trans (congrArg some Eid.out),(Pv.n3X_ HB.out).trans (congrArg some En3.out),(Pv.n4X_ HB.out).trans (congrArg some En4.out),(Pv.n5X_ HB.out).trans (congrArg some En5.out)⟩
 refine canon_at (λ w1 hw=>?_)
 have hk:Keeps Nob w w1:=by rw [hw];exact Keeps.drew _ _
 clear hw
 replace HB:=Hd (HB.out.keeps hk id)
 replace HGO:=gn_ HGO hk
 replace HJ:=Hd (HJ.out.nob hk)
 replace K:=tr_ K hk
 clear hk
 iterate 14
  refine cR_ (v:=?_) rfl ?_ ?_
  rotate_left
  ·intro W hW
   try (obtain ⟨z1,z2,z3,z4,z5⟩:_/\_/\_/\_/\_:=hW)
   go_simp
   try rfl
  simp only [Act.put,sa_,sb_,sc_]
 refine cA_ rfl ?_
 go_wp2_with (go_at_call 24;refine (HJ.out.setBodyX (ix:=P.id) (HNn.out _ HGO.out.rd).2 okf.out).mono ?_;rintro e w2 ⟨rfl,hj,hk⟩)
 rw [oke.out]
 replace HB:=Hd (HB.out.keeps hk (HOF.out m (.inl rfl)))
 replace HGO:=gg_ HGO hk HOF
 replace HJ:=Hd hj
 replace K:=ky_ K hk
 clear hk hj
 refine ⟨.inl (by kernel_rfl),?_⟩
 refine cA_ rfl ?_
 go_wp2_with (go_at_call 23;refine (ponX (nx:=4) HB.out).mono ?_;rintro e w3 ⟨rfl,hb,hk⟩)
 replace HB:=Hd hb
 replace HGO:=gm_ HGO hk HOM
 replace HJ:=jm_ HJ hk HOF
 replace K:=kx_ K hk
 clear hk hb
 refine ⟨.inl (by kernel_rfl),?_⟩
 iterate 4
  refine cR_ (v:=?_) rfl ?_ ?_
  rotate_left
  ·intro W hW
   try (obtain ⟨z1,z2,z3,z4,z5⟩:_/\_/\_/\_/\_:=hW)
   go_simp
   try rfl
  simp only [Act.put,sa_,sb_,sc_]
 refine wpCanon_nil ?_
 go_wp2
 go_ret2
 exact ⟨rfl,G,dm,S,HJ.out,λ _ h=>h,K.out,⟨⟨{v with next:=iV 4},HB.out,rfl,(λ h=>by cases h),λ _=>⟨{HGO.out.rd with nw:=λ _=>HGO.out.rd.nw (by rw [HNX.out];decide)},HGO.out.des,HGO.out.nd⟩⟩,HOM.out⟩,λ x hx=>.inl (.inr hx),.inl rfl⟩
theorem stepPX_14 (hJ:JX w G Φ p A) (off:∀ x,x=m\/x=dm\/S x->¬G x) (h:PX w m dm p S C P) (hx:P.nx=14) (ok:POk A P):Calls Try.prog 9 #[pV m] w λ e w'=>e=.returned (.tuple #[.bool (stepP C.leaf C.inner A P).1.1,.bool (stepP C.leaf C.inner A P).1.2])/\PPX w w' G Φ p (stepP C.leaf C.inner A P).2.1 m dm S C (stepP C.leaf C.inner A P).2.2:=by
 rw [stepP_14 hx]
 clear ok
 by_cases hr:A.root=P.side
 ·rw [if_neg (λ h=>h hr)]
  have nr:(A.root != P.side)=false:=by simpa using hr
  obtain ⟨⟨v,hb,hn,_,hgo⟩,hom⟩:=h
  have hgo:=hgo (by omega)
  have Enext:Hid (v.next=.int .i64 14):=by show v.next=_;rw [hn,hx];rfl
  have Ea:Hid (v.a=.pointer (some ⟨p,0,none⟩)):=hgo.rd.a
  have Eside:Hid (v.side=.int .i64 P.side):=hgo.rd.side
  have Ethere:Hid (v.there=.bool P.there):=hgo.rd.there
  have HL:=Hd hb.lt
  have HB:=Hd hb
  have HGO:=Hd hgo
  have HJ:=Hd hJ
  have HOF:Hid (∀ x,x=m\/x=dm\/S x->¬G x):=off
  have HOM:Hid (¬S m):=hom
  have K:Hid (Keeps (λ x=>G x\/x=m\/x=dm) w w):=Hd (Keeps.refl _ _)
  have HNX:Hid (P.nx=14):=hx
  clear hb hgo hJ off hom hn hx
  have HR:=Hd HJ.out.rootX
  unfold pV
  go_enter Try.func9,Try.ntmps9
  have qnext:w.cell? ⟨m,9,none⟩=some (.int .i64 14):=(Pv.nextX_ HB.out).trans (congrArg some Enext.out)
  go_wp2_with fail
  clear qnext
  refine rC_ [0,1,2,3,5,6,7,8,4,9] 99 (λ W=>W.cell? ⟨m,0,none⟩=some (.pointer (some ⟨p,0,none⟩))/\W.cell? ⟨m,39,none⟩=some (.int .i64 P.side)) ?_ ?_
  ·exact ⟨(Pv.aX_ HB.out).trans (congrArg some Ea.out),(Pv.sideX_ HB.out).trans (congrArg some Eside.out)⟩
  refine canon_at (λ w1 hw=>?_)
  have hk:Keeps Nob w w1:=by rw [hw];exact Keeps.drew _ _
  clear hw
  replace HB:=Hd (HB.out.keeps hk id)
  replace HGO:=gn_ HGO hk
  replace HJ:=Hd (HJ.out.nob hk)
  replace K:=tr_ K hk
  clear hk
  iterate 8
   refine cR_ (v:=?_) rfl ?_ ?_
   rotate_left
   ·intro W hW
    try (obtain ⟨z1,z2⟩:_/\_:=hW)
    go_simp
    try rfl
   simp only [Act.put,sa_,sb_,sc_]
  refine cA_ rfl ?_
  go_wp2_with (go_at_call 27;refine HJ.out.rootX.mono ?_;rintro e w2 ⟨rfl,rfl⟩)
  refine ⟨.inr ⟨(Pv.aX_ HB.out).trans (congrArg some Ea.out),(Pv.sideX_ HB.out).trans (congrArg some Eside.out)⟩,?_⟩
  unfold iV
  iterate 1
   refine cR_ (v:=?_) rfl ?_ ?_
   rotate_left
   ·intro W hW
    try (obtain ⟨z1,z2⟩:_/\_:=hW)
    go_simp
    try rfl
   simp only [Act.put,sa_,sb_,sc_]
  refine wpCanon_nil ?_
  go_wp2_with fail
  refine (ponX (nx:=15) HB.out).mono ?_
  rintro e w3 ⟨rfl,hb,hk⟩
  replace HB:=Hd hb
  replace HGO:=gm_ HGO hk HOM
  replace HJ:=jm_ HJ hk HOF
  replace K:=kx_ K hk
  clear hk hb
  go_wp2
  go_ret2
  exact ⟨rfl,G,dm,S,HJ.out,λ _ h=>h,K.out,⟨⟨{v with next:=iV 15},HB.out,rfl,(λ h=>by cases h),λ _=>⟨{HGO.out.rd with nw:=λ _=>HGO.out.rd.nw (by rw [HNX.out];decide)},HGO.out.des,HGO.out.nd⟩⟩,HOM.out⟩,λ x hx=>.inl (.inr hx),.inl rfl⟩
 ·rw [if_pos hr]
  have nr:(A.root != P.side)=true:=by simpa using hr
  obtain ⟨⟨v,hb,hn,_,hgo⟩,hom⟩:=h
  have hgo:=hgo (by omega)
  have Enext:Hid (v.next=.int .i64 14):=by show v.next=_;rw [hn,hx];rfl
  have Ea:Hid (v.a=.pointer (some ⟨p,0,none⟩)):=hgo.rd.a
  have Eside:Hid (v.side=.int .i64 P.side):=hgo.rd.side
  have Ethere:Hid (v.there=.bool P.there):=hgo.rd.there
  have HL:=Hd hb.lt
  have HB:=Hd hb
  have HGO:=Hd hgo
  have HJ:=Hd hJ
  have HOF:Hid (∀ x,x=m\/x=dm\/S x->¬G x):=off
  have HOM:Hid (¬S m):=hom
  have K:Hid (Keeps (λ x=>G x\/x=m\/x=dm) w w):=Hd (Keeps.refl _ _)
  have HNX:Hid (P.nx=14):=hx
  clear hb hgo hJ off hom hn hx
  have HR:=Hd HJ.out.rootX
  unfold pV
  go_enter Try.func9,Try.ntmps9
  have qnext:w.cell? ⟨m,9,none⟩=some (.int .i64 14):=(Pv.nextX_ HB.out).trans (congrArg some Enext.out)
  go_wp2_with fail
  clear qnext
  refine rC_ [0,1,2,3,5,6,7,8,4,9] 99 (λ W=>W.cell? ⟨m,0,none⟩=some (.pointer (some ⟨p,0,none⟩))/\W.cell? ⟨m,39,none⟩=some (.int .i64 P.side)) ?_ ?_
  ·exact ⟨(Pv.aX_ HB.out).trans (congrArg some Ea.out),(Pv.sideX_ HB.out).trans (congrArg some Eside.out)⟩
  refine canon_at (λ w1 hw=>?_)
  have hk:Keeps Nob w w1:=by rw [hw];exact Keeps.drew _ _
  clear hw
  replace HB:=Hd (HB.out.keeps hk id)
  replace HGO:=gn_ HGO hk
  replace HJ:=Hd (HJ.out.nob hk)
  replace K:=tr_ K hk
  clear hk
  iterate 8
   refine cR_ (v:=?_) rfl ?_ ?_
   rotate_left
   ·intro W hW
    try (obtain ⟨z1,z2⟩:_/\_:=hW)
    go_simp
    try rfl
   simp only [Act.put,sa_,sb_,sc_]
  refine cA_ rfl ?_
  go_wp2_with (go_at_call 27;refine HJ.out.rootX.mono ?_;rintro e w2 ⟨rfl,rfl⟩)
  refine ⟨.inr ⟨(Pv.aX_ HB.out).trans (congrArg some Ea.out),(Pv.sideX_ HB.out).trans (congrArg some Eside.out)⟩,?_⟩
  unfold iV
  iterate 1
   refine cR_ (v:=?_) rfl ?_ ?_
   rotate_left
   ·intro W hW
    try (obtain ⟨z1,z2⟩:_/\_:=hW)
    go_simp
    try rfl
   simp only [Act.put,sa_,sb_,sc_]
  refine wpCanon_nil ?_
  go_wp2_with fail
  refine (pendsX (th:=P.there) (took:=false) (er:=0) HB.out Ethere.out).mono ?_
  rintro e w3 ⟨rfl,hb,hk⟩
  replace HB:=Hd hb
  replace HGO:=gm_ HGO hk HOM
  replace HJ:=jm_ HJ hk HOF
  replace K:=kx_ K hk
  clear hk hb
  go_wp2
  go_ret2
  exact ⟨rfl,G,dm,S,HJ.out,λ _ h=>h,K.out,⟨⟨{v with next:=iV 20,err:=iV 0,there:=.bool (P.there&&decide ((0:Int)=0))},HB.out,rfl,λ _=>⟨rfl,rfl⟩,λ h=>absurd rfl h⟩,HOM.out⟩,λ x hx=>.inl (.inr hx),.inl rfl⟩
theorem pgivesX_g:(∀ (hJ:JX w G Φ p A) (off:∀ x,x=m\/x=dm\/S x->¬G x) (h:PX w m dm p S C P) (hx:P.nx=4) (ok:POk A P),Calls Try.prog 25 #[pV m] w λ e w'=>e=.returned (.tuple #[.bool (stepP C.leaf C.inner A P).1.1,.bool (stepP C.leaf C.inner A P).1.2])/\PPX w w' G Φ p (stepP C.leaf C.inner A P).2.1 m dm S C (stepP C.leaf C.inner A P).2.2)/\(∀ (hJ:JX w G Φ p A) (off:∀ x,x=m\/x=dm\/S x->¬G x) (h:PX w m dm p S C P) (hx:P.nx=5) (ok:POk A P),Calls Try.prog 25 #[pV m] w λ e w'=>e=.returned (.tuple #[.bool (stepP C.leaf C.inner A P).1.1,.bool (stepP C.leaf C.inner A P).1.2])/\PPX w w' G Φ p (stepP C.leaf C.inner A P).2.1 m dm S C (stepP C.leaf C.inner A P).2.2)/\(∀ (hJ:JX w G Φ p A) (off:∀ x,x=m\/x=dm\/S x->¬G x) (h:PX w m dm p S C P) (hx:P.nx=7) (ok:POk A P),Calls Try.prog 25 #[pV m] w λ e w'=>e=.returned (.tuple #[.bool (stepP C.leaf C.inner A P).1.1,.bool (stepP C.leaf C.inner A P).1.2])/\PPX w w' G Φ p (stepP C.leaf C.inner A P).2.1 m dm S C (stepP C.leaf C.inner A P).2.2):=by
 refine ⟨λ hJ off h hx ok=>?_,λ hJ off h hx ok=>?_,λ hJ off h hx ok=>?_⟩
 all_goals
  first
  |
   have oke:Hid ((opUnlock A P.id false).1=0):=by have:=ok.gives (by omega);rw [hx] at this;exact this
   rw [stepP_5 hx oke.out]
  |
   have oke:Hid ((opUnlock A P.id false).1=0):=by have:=ok.gives (by omega);rw [hx] at this;exact this
   rw [stepP_7 hx oke.out]
  |
   have oke:Hid ((opUnlock A P.id true).1=0):=by have:=ok.gives (by omega);rw [hx] at this;exact this
   rw [stepP_4 hx oke.out]
  clear ok
  by_cases hl:P.level=0
  ·first
   |
    rw [decide_eq_true hl]
   |
    rw [if_pos hl]
   obtain ⟨⟨v,hb,hn,_,hgo⟩,hom⟩:=h
   have hgo:=hgo (by omega)
   first
   |
    have Enext:Hid (v.next=.int .i64 4):=by show v.next=_;rw [hn,hx];rfl
   |
    have Enext:Hid (v.next=.int .i64 5):=by show v.next=_;rw [hn,hx];rfl
   |
    have Enext:Hid (v.next=.int .i64 7):=by show v.next=_;rw [hn,hx];rfl
   have Ea:Hid (v.a=.pointer (some ⟨p,0,none⟩)):=hgo.rd.a
   have Eid:Hid (v.id=.int .i64 P.id):=hgo.rd.id
   have Elevel:Hid (v.level=.int .i64 P.level):=hgo.rd.level
   have Ethere:Hid (v.there=.bool P.there):=hgo.rd.there
   have HL:=Hd hb.lt
   have HB:=Hd hb
   have HGO:=Hd hgo
   have HJ:=Hd hJ
   have HOF:Hid (∀ x,x=m\/x=dm\/S x->¬G x):=off
   have HOM:Hid (¬S m):=hom
   have K:Hid (Keeps (λ x=>G x\/x=m\/x=dm) w w):=Hd (Keeps.refl _ _)
   first
   |
    have HNX:Hid (P.nx=4):=hx
   |
    have HNX:Hid (P.nx=5):=hx
   |
    have HNX:Hid (P.nx=7):=hx
   clear hb hgo hJ off hom hn hx
   have Elevel:Hid (v.level=.int .i64 0):=by have:=Elevel.out;rw [hl] at this;exact this
   unfold pV
   go_enter Try.func25,Try.ntmps25
   go_wp2_with fail
   first
   |
    refine rC_ [0,1,2,3,4,5,6,7,8,9,10,11,12,13,14] 13 (λ W=>W.cell? ⟨m,0,none⟩=some (.pointer (some ⟨p,0,none⟩))/\W.cell? ⟨m,12,none⟩=some (.int .i64 P.id)/\W.cell? ⟨m,9,none⟩=some (.int .i64 4)) ?_ ?_
    ·exact ⟨(Pv.aX_ HB.out).trans (congrArg some Ea.out),(Pv.idX_ HB.out).trans (congrArg some Eid.out),(Pv.nextX_ HB.out).trans (congrArg some Enext.out)⟩
   |
    refine rC_ [0,1,2,3,4,5,6,7,8,9,10,11,12,13,14] 13 (λ W=>W.cell? ⟨m,0,none⟩=some (.pointer (some ⟨p,0,none⟩))/\W.cell? ⟨m,12,none⟩=some (.int .i64 P.id)/\W.cell? ⟨m,9,none⟩=some (.int .i64 5)) ?_ ?_
    ·exact ⟨(Pv.aX_ HB.out).trans (congrArg some Ea.out),(Pv.idX_ HB.out).trans (congrArg some Eid.out),(Pv.nextX_ HB.out).trans (congrArg some Enext.out)⟩
   |
    refine rC_ [0,1,2,3,4,5,6,7,8,9,10,11,12,13,14] 13 (λ W=>W.cell? ⟨m,0,none⟩=some (.pointer (some ⟨p,0,none⟩))/\W.cell? ⟨m,12,none⟩=some (.int .i64 P.id)/\W.cell? ⟨m,9,none⟩=some (.int .i64 7)) ?_ ?_
    ·exact ⟨(Pv.aX_ HB.out).trans (congrArg some Ea.out),(Pv.idX_ HB.out).trans (congrArg some Eid.out),(Pv.nextX_ HB.out).trans (congrArg some Enext.out)⟩
   refine canon_at (λ w1 hw=>?_)
   have hk:Keeps Nob w w1:=by rw [hw];exact Keeps.drew _ _
   clear hw
   replace HB:=Hd (HB.out.keeps hk id)
   replace HGO:=gn_ HGO hk
   replace HJ:=Hd (HJ.out.nob hk)
   replace K:=tr_ K hk
   clear hk
   iterate 13
    refine cR_ (v:=?_) rfl ?_ ?_
    rotate_left
    ·intro W hW
     try (obtain ⟨z1,z2,z3⟩:_/\_/\_:=hW)
     go_simp
     try rfl
    simp only [Act.put,sa_,sb_,sc_]
   refine cA_ rfl ?_
   go_wp2_with (go_at_call 46;refine (HJ.out.unlockX (ix:=P.id)).mono ?_;rintro e w2 ⟨rfl,hj,hk⟩)
   rw [oke.out]
   unfold iV
   replace HB:=Hd (HB.out.keeps hk (HOF.out m (.inl rfl)))
   replace HGO:=gg_ HGO hk HOF
   replace HJ:=Hd hj
   replace K:=ky_ K hk
   clear hk hj
   refine ⟨.inl (by kernel_rfl),?_⟩
   iterate 1
    refine cR_ (v:=?_) rfl ?_ ?_
    rotate_left
    ·intro W hW
     try (obtain ⟨z1,z2,z3⟩:_/\_/\_:=hW)
     go_simp
     try rfl
    simp only [Act.put,sa_,sb_,sc_]
   refine wpCanon_nil ?_
   first
   |
    have qnext:w2.cell? ⟨m,9,none⟩=some (.int .i64 4):=(Pv.nextX_ HB.out).trans (congrArg some Enext.out)
    have qlevel:w2.cell? ⟨m,10,none⟩=some (.int .i64 0):=(Pv.levelX_ HB.out).trans (congrArg some Elevel.out)
    go_wp2_with fail
    clear qnext qlevel
    refine (pendsX (th:=P.there) (took:=true) (er:=0) HB.out Ethere.out).mono ?_
    rintro e w3 ⟨rfl,hb,hk⟩
    replace HB:=Hd hb
    replace HGO:=gm_ HGO hk HOM
    replace HJ:=jm_ HJ hk HOF
    replace K:=kx_ K hk
    clear hk hb
    go_wp2
    go_ret2
    exact ⟨rfl,G,dm,S,HJ.out,λ _ h=>h,K.out,⟨⟨{v with next:=iV 20,err:=iV 0,there:=.bool (P.there&&decide ((0:Int)=0))},HB.out,rfl,λ _=>⟨rfl,rfl⟩,λ h=>absurd rfl h⟩,HOM.out⟩,λ x hx=>.inl (.inr hx),.inl rfl⟩
   |
    have qnext:w2.cell? ⟨m,9,none⟩=some (.int .i64 5):=(Pv.nextX_ HB.out).trans (congrArg some Enext.out)
    have qlevel:w2.cell? ⟨m,10,none⟩=some (.int .i64 0):=(Pv.levelX_ HB.out).trans (congrArg some Elevel.out)
    go_wp2_with fail
    clear qnext qlevel
    refine (pendsX (th:=P.there) (took:=true) (er:=0) HB.out Ethere.out).mono ?_
    rintro e w3 ⟨rfl,hb,hk⟩
    replace HB:=Hd hb
    replace HGO:=gm_ HGO hk HOM
    replace HJ:=jm_ HJ hk HOF
    replace K:=kx_ K hk
    clear hk hb
    go_wp2
    go_ret2
    exact ⟨rfl,G,dm,S,HJ.out,λ _ h=>h,K.out,⟨⟨{v with next:=iV 20,err:=iV 0,there:=.bool (P.there&&decide ((0:Int)=0))},HB.out,rfl,λ _=>⟨rfl,rfl⟩,λ h=>absurd rfl h⟩,HOM.out⟩,λ x hx=>.inl (.inr hx),.inl rfl⟩
   |
    have qnext:w2.cell? ⟨m,9,none⟩=some (.int .i64 7):=(Pv.nextX_ HB.out).trans (congrArg some Enext.out)
    have qlevel:w2.cell? ⟨m,10,none⟩=some (.int .i64 0):=(Pv.levelX_ HB.out).trans (congrArg some Elevel.out)
    go_wp2_with fail
    clear qnext qlevel
    refine (pendsX (th:=P.there) (took:=true) (er:=2) HB.out Ethere.out).mono ?_
    rintro e w3 ⟨rfl,hb,hk⟩
    replace HB:=Hd hb
    replace HGO:=gm_ HGO hk HOM
    replace HJ:=jm_ HJ hk HOF
    replace K:=kx_ K hk
    clear hk hb
    go_wp2
    go_ret2
    exact ⟨rfl,G,dm,S,HJ.out,λ _ h=>h,K.out,⟨⟨{v with next:=iV 20,err:=iV 2,there:=.bool (P.there&&decide ((2:Int)=0))},HB.out,rfl,λ _=>⟨rfl,rfl⟩,λ h=>absurd rfl h⟩,HOM.out⟩,λ x hx=>.inl (.inr hx),.inl rfl⟩
  ·first
   |
    rw [decide_eq_false hl]
   |
    rw [if_neg hl]
   obtain ⟨⟨v,hb,hn,_,hgo⟩,hom⟩:=h
   have hgo:=hgo (by omega)
   first
   |
    have Enext:Hid (v.next=.int .i64 4):=by show v.next=_;rw [hn,hx];rfl
   |
    have Enext:Hid (v.next=.int .i64 5):=by show v.next=_;rw [hn,hx];rfl
   |
    have Enext:Hid (v.next=.int .i64 7):=by show v.next=_;rw [hn,hx];rfl
   have Ea:Hid (v.a=.pointer (some ⟨p,0,none⟩)):=hgo.rd.a
   have Eid:Hid (v.id=.int .i64 P.id):=hgo.rd.id
   have Elevel:Hid (v.level=.int .i64 P.level):=hgo.rd.level
   have Ethere:Hid (v.there=.bool P.there):=hgo.rd.there
   have HL:=Hd hb.lt
   have HB:=Hd hb
   have HGO:=Hd hgo
   have HJ:=Hd hJ
   have HOF:Hid (∀ x,x=m\/x=dm\/S x->¬G x):=off
   have HOM:Hid (¬S m):=hom
   have K:Hid (Keeps (λ x=>G x\/x=m\/x=dm) w w):=Hd (Keeps.refl _ _)
   first
   |
    have HNX:Hid (P.nx=4):=hx
   |
    have HNX:Hid (P.nx=5):=hx
   |
    have HNX:Hid (P.nx=7):=hx
   clear hb hgo hJ off hom hn hx
   have nl:(P.level==0)=false:=by simpa using hl
   unfold pV
   go_enter Try.func25,Try.ntmps25
   go_wp2_with fail
   first
   |
    refine rC_ [0,1,2,3,4,5,6,7,8,9,10,11,12,13,14] 13 (λ W=>W.cell? ⟨m,0,none⟩=some (.pointer (some ⟨p,0,none⟩))/\W.cell? ⟨m,12,none⟩=some (.int .i64 P.id)/\W.cell? ⟨m,9,none⟩=some (.int .i64 4)) ?_ ?_
    ·exact ⟨(Pv.aX_ HB.out).trans (congrArg some Ea.out),(Pv.idX_ HB.out).trans (congrArg some Eid.out),(Pv.nextX_ HB.out).trans (congrArg some Enext.out)⟩
   |
    refine rC_ [0,1,2,3,4,5,6,7,8,9,10,11,12,13,14] 13 (λ W=>W.cell? ⟨m,0,none⟩=some (.pointer (some ⟨p,0,none⟩))/\W.cell? ⟨m,12,none⟩=some (.int .i64 P.id)/\W.cell? ⟨m,9,none⟩=some (.int .i64 5)) ?_ ?_
    ·exact ⟨(Pv.aX_ HB.out).trans (congrArg some Ea.out),(Pv.idX_ HB.out).trans (congrArg some Eid.out),(Pv.nextX_ HB.out).trans (congrArg some Enext.out)⟩
   |
    refine rC_ [0,1,2,3,4,5,6,7,8,9,10,11,12,13,14] 13 (λ W=>W.cell? ⟨m,0,none⟩=some (.pointer (some ⟨p,0,none⟩))/\W.cell? ⟨m,12,none⟩=some (.int .i64 P.id)/\W.cell? ⟨m,9,none⟩=some (.int .i64 7)) ?_ ?_
    ·exact ⟨(Pv.aX_ HB.out).trans (congrArg some Ea.out),(Pv.idX_ HB.out).trans (congrArg some Eid.out),(Pv.nextX_ HB.out).trans (congrArg some Enext.out)⟩
   refine canon_at (λ w1 hw=>?_)
   have hk:Keeps Nob w w1:=by rw [hw];exact Keeps.drew _ _
   clear hw
   replace HB:=Hd (HB.out.keeps hk id)
   replace HGO:=gn_ HGO hk
   replace HJ:=Hd (HJ.out.nob hk)
   replace K:=tr_ K hk
   clear hk
   iterate 13
    refine cR_ (v:=?_) rfl ?_ ?_
    rotate_left
    ·intro W hW
     try (obtain ⟨z1,z2,z3⟩:_/\_/\_:=hW)
     go_simp
     try rfl
    simp only [Act.put,sa_,sb_,sc_]
   refine cA_ rfl ?_
   go_wp2_with (go_at_call 46;refine (HJ.out.unlockX (ix:=P.id)).mono ?_;rintro e w2 ⟨rfl,hj,hk⟩)
   rw [oke.out]
   unfold iV
   replace HB:=Hd (HB.out.keeps hk (HOF.out m (.inl rfl)))
   replace HGO:=gg_ HGO hk HOF
   replace HJ:=Hd hj
   replace K:=ky_ K hk
   clear hk hj
   refine ⟨.inl (by kernel_rfl),?_⟩
   iterate 1
    refine cR_ (v:=?_) rfl ?_ ?_
    rotate_left
    ·intro W hW
     try (obtain ⟨z1,z2,z3⟩:_/\_/\_:=hW)
     go_simp
     try rfl
    simp only [Act.put,sa_,sb_,sc_]
   refine wpCanon_nil ?_
   first
   |
    have qnext:w2.cell? ⟨m,9,none⟩=some (.int .i64 4):=(Pv.nextX_ HB.out).trans (congrArg some Enext.out)
    have qlevel:w2.cell? ⟨m,10,none⟩=some (.int .i64 P.level):=(Pv.levelX_ HB.out).trans (congrArg some Elevel.out)
    go_wp2_with fail
    clear qnext qlevel
    refine (pendsX (th:=P.there) (took:=false) (er:=0) HB.out Ethere.out).mono ?_
   |
    have qnext:w2.cell? ⟨m,9,none⟩=some (.int .i64 5):=(Pv.nextX_ HB.out).trans (congrArg some Enext.out)
    have qlevel:w2.cell? ⟨m,10,none⟩=some (.int .i64 P.level):=(Pv.levelX_ HB.out).trans (congrArg some Elevel.out)
    go_wp2_with fail
    clear qnext qlevel
    refine (pendsX (th:=P.there) (took:=false) (er:=0) HB.out Ethere.out).mono ?_
   |
    have qnext:w2.cell? ⟨m,9,none⟩=some (.int .i64 7):=(Pv.nextX_ HB.out).trans (congrArg some Enext.out)
    have qlevel:w2.cell? ⟨m,10,none⟩=some (.int .i64 P.level):=(Pv.levelX_ HB.out).trans (congrArg some Elevel.out)
    go_wp2_with fail
    clear qnext qlevel
    refine (pendsX (th:=P.there) (took:=false) (er:=0) HB.out Ethere.out).mono ?_
   rintro e w3 ⟨rfl,hb,hk⟩
   replace HB:=Hd hb
   replace HGO:=gm_ HGO hk HOM
   replace HJ:=jm_ HJ hk HOF
   replace K:=kx_ K hk
   clear hk hb
   go_wp2
   go_ret2
   exact ⟨rfl,G,dm,S,HJ.out,λ _ h=>h,K.out,⟨⟨{v with next:=iV 20,err:=iV 0,there:=.bool (P.there&&decide ((0:Int)=0))},HB.out,rfl,λ _=>⟨rfl,rfl⟩,λ h=>absurd rfl h⟩,HOM.out⟩,λ x hx=>.inl (.inr hx),.inl rfl⟩
theorem stepPX_457 (hJ:JX w G Φ p A) (off:∀ x,x=m\/x=dm\/S x->¬G x) (h:PX w m dm p S C P) (hx:P.nx=4\/P.nx=5\/P.nx=7) (ok:POk A P):Calls Try.prog 9 #[pV m] w λ e w'=>e=.returned (.tuple #[.bool (stepP C.leaf C.inner A P).1.1,.bool (stepP C.leaf C.inner A P).1.2])/\PPX w w' G Φ p (stepP C.leaf C.inner A P).2.1 m dm S C (stepP C.leaf C.inner A P).2.2:=by
 rcases hx with hx|hx|hx
 all_goals
  first
  |
   have FF:=pgivesX_g.2.1 hJ off h hx ok
  |
   have FF:=pgivesX_g.2.2 hJ off h hx ok
  |
   have FF:=pgivesX_g.1 hJ off h hx ok
  obtain ⟨⟨v,hb,hn,_,_⟩,hom⟩:=h
  first
  |
   have qn:w.cell? ⟨m,9,none⟩=some (.int .i64 4):=(Pv.nextX_ hb).trans (by rw [hn,hx];rfl)
   clear hJ off hb hn hom hx ok
   generalize stepP C.leaf C.inner A P=r at FF ⊢
   obtain ⟨⟨r1,r2⟩,r3,r4⟩:=r
   simp only at FF ⊢
   unfold pV at FF ⊢
   go_enter Try.func9,Try.ntmps9
   go_wp2_with fail
   clear qn
   refine FF.mono ?_
  |
   have qn:w.cell? ⟨m,9,none⟩=some (.int .i64 5):=(Pv.nextX_ hb).trans (by rw [hn,hx];rfl)
   clear hJ off hb hn hom hx ok
   generalize stepP C.leaf C.inner A P=r at FF ⊢
   obtain ⟨⟨r1,r2⟩,r3,r4⟩:=r
   simp only at FF ⊢
   unfold pV at FF ⊢
   go_enter Try.func9,Try.ntmps9
   go_wp2_with fail
   clear qn
   refine FF.mono ?_
  |
   have qn:w.cell? ⟨m,9,none⟩=some (.int .i64 7):=(Pv.nextX_ hb).trans (by rw [hn,hx];rfl)
   clear hJ off hb hn hom hx ok
   generalize stepP C.leaf C.inner A P=r at FF ⊢
   obtain ⟨⟨r1,r2⟩,r3,r4⟩:=r
   simp only at FF ⊢
   unfold pV at FF ⊢
   go_enter Try.func9,Try.ntmps9
   go_wp2_with fail
   clear qn
   refine FF.mono ?_
  rintro e w1 ⟨rfl,hp⟩
  clear FF
  go_wp2
  go_ret2
  exact ⟨rfl,hp⟩
end
end Go.Proofs.Ytjcgphhpaenjkaa

import Derived.Test.YtjcgphhpaenjkaaPkD2
import Derived.Test.YtjcgphhpaenjkaaPkD3
set_option maxHeartbeats 64000000
set_option maxRecDepth 100000
set_option linter.unusedVariables false
namespace Go.Proofs.Ytjcgphhpaenjkaa
open Go.RowKit
theorem JX.weaken {w:World} {G G':Nat->Prop} {Φ:Fr} {p:Nat} {A:Ar} (h:JX w G Φ p A) (hg:∀ x,G x->G' x):JX w G' Φ p A:=h.enterN (Keeps.refl Nob _) (λ _ _ _ h=>h) (λ x _=>hg x) (λ x hx=>hg x (h.new x hx))
theorem rootHd {w:World} {m:Pm}:IsHd w (λ _=>False) (.int .i64 m.level) (.slice none 0 0) (.int .i64 0) (rootNd m):=⟨rfl,SlR.nil _ _ _ _ (by decide),rfl⟩
theorem rootBd {w:World} {S:Nat->Prop} {m:Pm} {N1 N2:Nat} {A0:Option Addr} {c0:Nat} (h1:Blk w N1 34 #[.slice A0 m.sep.length c0]) (h2:Blk w N2 3 #[.int .i64 m.side,.int .i64 m.half]) (hs:Byts w S (.slice A0 m.sep.length c0) m.sep):IsBd w (λ x=>x=N1\/x=N2\/S x) (.slice (some ⟨N1,0,none⟩) 1 1) (.slice none 0 0) (.slice (some ⟨N2,0,none⟩) 2 2) (rootNd m):=by
 refine ⟨⟨[.slice A0 m.sep.length c0],⟨_,1,rfl,Nat.le_refl _,by decide,λ _=>⟨⟨N1,0,none⟩,rfl,.inl rfl,λ i x hi=>?_⟩⟩,rfl,λ i u x hu hx=>?_⟩,⟨[],SlR.nil _ _ _ _ (by decide),rfl,λ i u x hu hx=>by simp at hu⟩,⟨_,2,rfl,Nat.le_refl _,by decide,λ _=>⟨⟨N2,0,none⟩,rfl,.inr (.inl rfl),λ i x hi=>?_⟩⟩⟩
 ·cases i with
  | zero=>cases hi;exact h1.cell 0
  | succ i=>simp at hi
 ·cases i with
  | zero=>
   cases hu
   simp only [rootNd,List.getElem?_cons_zero,Option.some.injEq] at hx
   subst hx
   exact hs.mono (λ _ _ h=>.inr (.inr h))
  | succ i=>simp at hu
 ·match i,hi with
  | 0,hi=>cases hi;exact h2.cell 0
  | 1,hi=>cases hi;exact h2.cell 1
  | i+2,hi=>simp [rootNd] at hi
def laid (A:Ar) (P:Pm):Int × Ar:=match P.nx with
 | 8=>opSetHead A P.fresh P.right
 | 9=>opSetBody A P.fresh P.right
 | 10=>opUnlock A P.fresh true
 | 11=>opSetHead A P.id P.left
 | 12=>opSetBody A P.id P.left
 | 16=>opSetHead A P.root (rootNd P)
 | 17=>opSetBody A P.root (rootNd P)
 | _=>opUnlock A P.root true
def LaidAt (k:Nat):Prop:=k=8\/k=9\/k=10\/k=11\/k=12\/k=16\/k=17\/k=18
def La1 (A:Ar) (P:Pm) (k:Nat) (o:Int × Ar):Prop:=P.nx=k/\laid A P=o/\o.1=0
theorem POk.laidAt {A:Ar} {P:Pm} (ok:POk A P) (hx:LaidAt P.nx):((La1 A P 8 (opSetHead A P.fresh P.right)\/La1 A P 9 (opSetBody A P.fresh P.right))/\NdSm 0 P.right\/La1 A P 10 (opUnlock A P.fresh true))\/(True/\(La1 A P 11 (opSetHead A P.id P.left)\/La1 A P 12 (opSetBody A P.id P.left))/\NdSm 0 P.left)\/(True/\((La1 A P 16 (opSetHead A P.root (rootNd P))\/La1 A P 17 (opSetBody A P.root (rootNd P)))/\NdSm 0 (rootNd P)\/La1 A P 18 (opUnlock A P.root true))):=by
 have hr:=λ (h:P.nx=16\/P.nx=17)=>(sm0 ((few_root (ok.key (by omega) (by omega)).1).mono (by decide)):NdSm 0 (rootNd P))
 rcases hx with hx|hx|hx|hx|hx|hx|hx|hx
 ·exact .inl (.inl ⟨.inl ⟨hx,by simp only [laid,hx],(ok.s8 hx).1⟩,sm0 (ok.s8 hx).2⟩)
 ·exact .inl (.inl ⟨.inr ⟨hx,by simp only [laid,hx],(ok.s9 hx).1⟩,sm0 (ok.s9 hx).2⟩)
 ·exact .inl (.inr ⟨hx,by simp only [laid,hx],ok.s10 hx⟩)
 ·exact .inr (.inl ⟨trivial,.inl ⟨hx,by simp only [laid,hx],(ok.s11 hx).1⟩,sm0 (ok.s11 hx).2⟩)
 ·exact .inr (.inl ⟨trivial,.inr ⟨hx,by simp only [laid,hx],(ok.s12 hx).1⟩,sm0 (ok.s12 hx).2⟩)
 ·exact .inr (.inr ⟨trivial,.inl ⟨.inl ⟨hx,by simp only [laid,hx],ok.s16 hx⟩,hr (.inl hx)⟩⟩)
 ·exact .inr (.inr ⟨trivial,.inl ⟨.inr ⟨hx,by simp only [laid,hx],ok.s17 hx⟩,hr (.inr hx)⟩⟩)
 ·exact .inr (.inr ⟨trivial,.inr ⟨hx,by simp only [laid,hx],ok.s18 hx⟩⟩)
def NdBlk (w:World) (N:Nat) (n:Nd):Prop:=∃ T L R A1 n1 k1 A3 n3 k3 A4 n4 k4 A5 n5 k5,Blk w N 75 #[.int .i64 L,.slice A1 n1 k1,.int .i64 R,.slice A3 n3 k3,.slice A4 n4 k4,.slice A5 n5 k5]/\IsHd w T (.int .i64 L) (.slice A1 n1 k1) (.int .i64 R) n/\IsBd w T (.slice A3 n3 k3) (.slice A4 n4 k4) (.slice A5 n5 k5) n
theorem cells6 {w:World} {N ty:Nat} {a b c d e f:Value} (h:Blk w N ty #[a,b,c,d,e,f]):w.cell? ⟨N,0,none⟩=some a/\w.frozen? ⟨N,0,none⟩=false/\w.cell? ⟨N,1,none⟩=some b/\w.frozen? ⟨N,1,none⟩=false/\w.cell? ⟨N,2,none⟩=some c/\w.frozen? ⟨N,2,none⟩=false/\w.cell? ⟨N,3,none⟩=some d/\w.frozen? ⟨N,3,none⟩=false/\w.cell? ⟨N,4,none⟩=some e/\w.frozen? ⟨N,4,none⟩=false/\w.cell? ⟨N,5,none⟩=some f/\w.frozen? ⟨N,5,none⟩=false:=
 ⟨h.cell 0,h.frozen 0,h.cell 1,h.frozen 1,h.cell 2,h.frozen 2,h.cell 3,h.frozen 3,h.cell 4,h.frozen 4,h.cell 5,h.frozen 5⟩
theorem set6 {w w':World} {N ty:Nat} {a b c d e f a' b' c' d' e' f':Value} (h:Blk w N ty #[a,b,c,d,e,f]) (hw:w'=(((((w.setCell ⟨N,0,none⟩ a').setCell ⟨N,1,none⟩ b').setCell ⟨N,2,none⟩ c').setCell ⟨N,3,none⟩ d').setCell ⟨N,4,none⟩ e').setCell ⟨N,5,none⟩ f'):Keeps (λ x=>x=N) w w'/\Blk w' N ty #[a',b',c',d',e',f']:=by
 rw [hw]
 exact ⟨(((((Keeps.setCell _ (M:=λ x=>x=N) rfl _).setCell' (λ _=>rfl) _).setCell' (λ _=>rfl) _).setCell' (λ _=>rfl) _).setCell' (λ _=>rfl) _).setCell' (λ _=>rfl) _,(((((h.set_ 0 _).set_ 1 _).set_ 2 _).set_ 3 _).set_ 4 _).set_ 5 _⟩
section
variable {w:World} {G S:Nat->Prop} {b p q m dm:Nat} {A B:Ar} {Φ:Fr} {C:Cf} {P:Pm}
theorem playsX (hJ:JX w G Φ p A) (off:∀ x,x=m\/x=dm\/S x->¬G x) (h:PX w m dm p S C P) (hx:LaidAt P.nx) (ok:POk A P) (old:∀ x,S x->x < w.heap.size):Calls Try.prog 30 #[pV m] w λ e w'=>e=.returned (.int .i64 0)/\JX w' G Φ p (laid A P).2/\Keeps G w w':=by
 have HLA:=Hd (ok.laidAt hx)
 clear ok
 have HOLD:Hid (∀ x,S x->x < w.heap.size):=old
 clear old
 obtain ⟨⟨v,hb,hn,_,hgo⟩,hom⟩:=h
 have hgo:=hgo (by rcases hx with h|h|h|h|h|h|h|h<;>omega)
 have Enext:Hid (v.next=.int .i64 P.nx):=hn
 have Ea:Hid (v.a=.pointer (some ⟨p,0,none⟩)):=hgo.rd.a
 have Efresh:Hid (v.fresh=.int .i64 P.fresh):=hgo.rd.fresh
 have Eid:Hid (v.id=.int .i64 P.id):=hgo.rd.id
 have Eroot:Hid (v.root=.int .i64 P.root):=hgo.rd.root
 have Elevel:Hid (v.level=.int .i64 P.level):=hgo.rd.level
 obtain ⟨sepA,sepc,esep,_,_⟩:=hgo.rd.sep.form
 try simp only [List.length_map] at esep
 replace esep:=Hd esep
 have Esep:Hid (v.sep=.slice sepA P.sep.length sepc):=esep.out
 clear esep
 have Eside:Hid (v.side=.int .i64 P.side):=hgo.rd.side
 have Ehalf:Hid (v.half=.int .i64 P.half):=hgo.rd.half
 have hndr:=hgo.rd.right
 obtain ⟨rA1,rk1,e1,_,_⟩:=hndr.1.high.form
 obtain ⟨rA3,rk3,e3,_,_⟩:=hndr.2.keys.form
 obtain ⟨rA4,rk4,e4,_,_⟩:=hndr.2.vals.form
 obtain ⟨rA5,rk5,e5,_,_⟩:=hndr.2.kids.form
 try simp only [List.length_map] at e1 e5
 have Er0:Hid (v.r0=.int .i64 P.right.lvl):=hndr.1.lvl
 have Er1:Hid (v.r1=.slice rA1 P.right.high.length rk1):=e1
 have Er2:Hid (v.r2=.int .i64 P.right.right):=hndr.1.right
 have Er3:Hid (v.r3=.slice rA3 P.right.keys.length rk3):=e3
 have Er4:Hid (v.r4=.slice rA4 P.right.vals.length rk4):=e4
 have Er5:Hid (v.r5=.slice rA5 P.right.kids.length rk5):=e5
 have HNr:Hid (∀ W,PRd W S p dm C v P->IsHd W S (.int .i64 P.right.lvl) (.slice rA1 P.right.high.length rk1) (.int .i64 P.right.right) P.right/\IsBd W S (.slice rA3 P.right.keys.length rk3) (.slice rA4 P.right.vals.length rk4) (.slice rA5 P.right.kids.length rk5) P.right):=λ W hr=>by
  have h0:=hr.right
  rw [Er0.out,Er1.out,Er2.out,Er3.out,Er4.out,Er5.out] at h0
  exact ⟨h0.1,h0.2⟩
 clear hndr e1 e3 e4 e5
 have hndl:=hgo.rd.left
 obtain ⟨lA1,lk1,e1,_,_⟩:=hndl.1.high.form
 obtain ⟨lA3,lk3,e3,_,_⟩:=hndl.2.keys.form
 obtain ⟨lA4,lk4,e4,_,_⟩:=hndl.2.vals.form
 obtain ⟨lA5,lk5,e5,_,_⟩:=hndl.2.kids.form
 try simp only [List.length_map] at e1 e5
 have El0:Hid (v.l0=.int .i64 P.left.lvl):=hndl.1.lvl
 have El1:Hid (v.l1=.slice lA1 P.left.high.length lk1):=e1
 have El2:Hid (v.l2=.int .i64 P.left.right):=hndl.1.right
 have El3:Hid (v.l3=.slice lA3 P.left.keys.length lk3):=e3
 have El4:Hid (v.l4=.slice lA4 P.left.vals.length lk4):=e4
 have El5:Hid (v.l5=.slice lA5 P.left.kids.length lk5):=e5
 have HNl:Hid (∀ W,PRd W S p dm C v P->IsHd W S (.int .i64 P.left.lvl) (.slice lA1 P.left.high.length lk1) (.int .i64 P.left.right) P.left/\IsBd W S (.slice lA3 P.left.keys.length lk3) (.slice lA4 P.left.vals.length lk4) (.slice lA5 P.left.kids.length lk5) P.left):=λ W hr=>by
  have h0:=hr.left
  rw [El0.out,El1.out,El2.out,El3.out,El4.out,El5.out] at h0
  exact ⟨h0.1,h0.2⟩
 clear hndl e1 e3 e4 e5
 have HL:=Hd hb.lt
 have HB:=Hd hb
 have HGO:=Hd hgo
 have HJ:=Hd hJ
 have HDL:Hid (∀ d,P.D=some d->dm < w.heap.size):=Hd (λ d hd=>(hgo.des d hd).1.lt)
 have K:Hid (Keeps G w w):=Hd (Keeps.refl _ _)
 clear hb hgo hJ off hom hn hx
 unfold pV
 go_enter Try.func30,Try.ntmps30
 go_wp2_with fail
 refine rC_ [0,1,2,3,4,5,6,7,8,9,10] 10 (λ W=>W.cell? ⟨m,41,none⟩=some (.int .i64 P.fresh)/\W.cell? ⟨m,32,none⟩=some (.int .i64 P.right.lvl)/\W.cell? ⟨m,33,none⟩=some (.slice rA1 P.right.high.length rk1)/\W.cell? ⟨m,34,none⟩=some (.int .i64 P.right.right)/\W.cell? ⟨m,35,none⟩=some (.slice rA3 P.right.keys.length rk3)/\W.cell? ⟨m,36,none⟩=some (.slice rA4 P.right.vals.length rk4)/\W.cell? ⟨m,37,none⟩=some (.slice rA5 P.right.kids.length rk5)) ?_ ?_
 ·exact ⟨(Pv.freshX_ HB.out).trans (congrArg some Efresh.out),(Pv.r0X_ HB.out).trans (congrArg some Er0.out),(Pv.r1X_ HB.out).trans (congrArg some Er1.out),(Pv.r2X_ HB.out).trans (congrArg some Er2.out),(Pv.r3X_ HB.out).trans (congrArg some Er3.out),(Pv.r4X_ HB.out).trans (congrArg some Er4.out),(Pv.r5X_ HB.out).trans (congrArg some Er5.out)⟩
 refine canon_at (λ w1 hw=>?_)
 have hk:Keeps Nob w w1:=by rw [hw];exact Keeps.drew _ _
 clear hw
 replace HB:=Hd (HB.out.keeps hk id)
 replace HGO:=gn_ HGO hk
 replace HJ:=Hd (HJ.out.nob hk)
 replace K:=tr_ K hk
 clear hk
 iterate 8
  refine cR_ (v:=?_) rfl ?_ ?_
  rotate_left
  ·intro W hW
   try (obtain ⟨z1,z2,z3,z4,z5,z6,z7⟩:_/\_/\_/\_/\_/\_/\_:=hW)
   go_simp
   try rfl
  simp only [Act.put,sa_,sb_,sc_]
 refine cA_ rfl ?_
 go_wp2
 refine ⟨.inr ⟨(Pv.freshX_ (HB.out.alloc _)).trans (congrArg some Efresh.out),(Pv.r0X_ (HB.out.alloc _)).trans (congrArg some Er0.out),(Pv.r1X_ (HB.out.alloc _)).trans (congrArg some Er1.out),(Pv.r2X_ (HB.out.alloc _)).trans (congrArg some Er2.out),(Pv.r3X_ (HB.out.alloc _)).trans (congrArg some Er3.out),(Pv.r4X_ (HB.out.alloc _)).trans (congrArg some Er4.out),(Pv.r5X_ (HB.out.alloc _)).trans (congrArg some Er5.out)⟩,?_⟩
 refine canon_at (λ w2 hw=>?_)
 have hk:Keeps Nob w1 w2:=by rw [hw];exact Keeps.alloc Nob _ _
 obtain ⟨N,hN⟩:∃ N,w1.heap.size=N:=⟨_,rfl⟩
 have hb:Blk w2 N 75 #[.int .i64 0,.slice none 0 0,.int .i64 0,.slice none 0 0,.slice none 0 0,.slice none 0 0]:=by rw [hw,<-hN];exact Blk.new _ _ _
 have HN:=Hd hb
 have HNW:Hid (w.heap.size<=N):=by show _<=_;rw [<-hN];exact K.out.size
 have HNF:Hid (Fresh w1 w2 N):=⟨by rw [hN];exact Nat.le_refl _,hb.lt⟩
 rw [hN]
 clear hw hb hN
 replace HB:=Hd (HB.out.keeps hk id)
 replace HGO:=gn_ HGO hk
 replace HJ:=Hd (HJ.out.shr hk (λ _ _ _=>id))
 replace K:=tr_ K hk
 clear hk
 iterate 1
  refine cR_ (v:=?_) rfl ?_ ?_
  rotate_left
  ·intro W hW
   try (obtain ⟨z1,z2,z3,z4,z5,z6,z7⟩:_/\_/\_/\_/\_/\_/\_:=hW)
   go_simp
   try rfl
  simp only [Act.put,sa_,sb_,sc_]
 refine cA_ rfl ?_
 obtain ⟨n0,fn0,n1,fn1,n2,fn2,n3,fn3,n4,fn4,n5,fn5⟩:=cells6 HN.out
 go_wp2
 clear n0 fn0 n1 fn1 n2 fn2 n3 fn3 n4 fn4 n5 fn5
 refine ⟨.inl (by kernel_rfl),?_⟩
 refine canon_at (λ wf hw=>?_)
 obtain ⟨hk,hb⟩:=set6 HN.out hw
 clear hw
 replace HB:=Hd (HB.out.keeps hk (λ e=>by have h1:=HL.out;have h2:=HNW.out;omega))
 replace HGO:=Hd (HGO.out.keeps hk (λ ⟨d,hd⟩ e=>by have h1:=HDL.out d hd;have h2:=HNW.out;omega) (λ x hx0 hx e=>by have h1:=HOLD.out x hx;have h2:=HNW.out;have h3:x=N:=e;omega))
 replace HJ:=Hd (HJ.out.keeps hk (λ x hx hg e=>hg.2 (by rw [show x=N from e];exact HNF.out)))
 replace K:=Hd (K.out.trans hk (λ x hx e=>by have h1:=HNW.out;have h2:x=N:=e;omega))
 replace HN:=Hd hb
 clear hk hb
 refine wpCanon_nil ?_
 have HNr2:Hid (NdBlk wf N P.right):=Hd ⟨_,_,_,_,_,_,_,_,_,_,_,_,_,_,_,HN.out,(HNr.out _ HGO.out.rd).1,(HNr.out _ HGO.out.rd).2⟩
 rcases HLA.out with (⟨fh|fb,okf⟩|fu)|⟨gl,fh|fb,okf⟩|⟨gr,⟨fh|fb,okf⟩|fu⟩
 all_goals
  first
  | (have h:=fh;obtain ⟨hx,he,oke⟩:=h)
  | (have h:=fb;obtain ⟨hx,he,oke⟩:=h)
  | (have h:=fu;obtain ⟨hx,he,oke⟩:=h)
  have h:=Enext.out
  rw [hx] at h
  simp only [Int.cast_ofNat_Int] at h
  replace Enext:=Hd h
  clear h
  replace he:=Hd he
  replace oke:=Hd oke
  clear hx HLA
  try replace okf:=Hd okf
  have qnext:=(Pv.nextX_ HB.out).trans (congrArg some Enext.out)
  have qroot:=(Pv.rootX_ HB.out).trans (congrArg some Eroot.out)
  have qa:=(Pv.aX_ HB.out).trans (congrArg some Ea.out)
  go_wp2_with fail
  clear qnext qroot qa
 all_goals try
   clear gl HNr2
   refine rC_ [0,1,2,3,4,5,6,7,8,9] 9 (λ W=>W.cell? ⟨m,12,none⟩=some (.int .i64 P.id)/\W.cell? ⟨m,26,none⟩=some (.int .i64 P.left.lvl)/\W.cell? ⟨m,27,none⟩=some (.slice lA1 P.left.high.length lk1)/\W.cell? ⟨m,28,none⟩=some (.int .i64 P.left.right)/\W.cell? ⟨m,29,none⟩=some (.slice lA3 P.left.keys.length lk3)/\W.cell? ⟨m,30,none⟩=some (.slice lA4 P.left.vals.length lk4)/\W.cell? ⟨m,31,none⟩=some (.slice lA5 P.left.kids.length lk5)) ?_ ?_
   ·exact ⟨(Pv.idX_ HB.out).trans (congrArg some Eid.out),(Pv.l0X_ HB.out).trans (congrArg some El0.out),(Pv.l1X_ HB.out).trans (congrArg some El1.out),(Pv.l2X_ HB.out).trans (congrArg some El2.out),(Pv.l3X_ HB.out).trans (congrArg some El3.out),(Pv.l4X_ HB.out).trans (congrArg some El4.out),(Pv.l5X_ HB.out).trans (congrArg some El5.out)⟩
   refine canon_at (λ w4 hw=>?_)
   have hk:Keeps Nob wf w4:=by rw [hw];exact Keeps.drew _ _
   clear hw
   replace HB:=Hd (HB.out.keeps hk id)
   replace HGO:=gn_ HGO hk
   replace HN:=Hd (HN.out.keeps hk id)
   replace HJ:=Hd (HJ.out.nob hk)
   replace K:=tr_ K hk
   clear hk
   iterate 9
    refine cR_ (v:=?_) rfl ?_ ?_
    rotate_left
    ·intro W hW
     try (obtain ⟨z1,z2,z3,z4,z5,z6,z7⟩:_/\_/\_/\_/\_/\_/\_:=hW)
     go_simp
     try rfl
    simp only [Act.put,sa_,sb_,sc_]
   refine cA_ rfl ?_
   obtain ⟨n0,fn0,n1,fn1,n2,fn2,n3,fn3,n4,fn4,n5,fn5⟩:=cells6 HN.out
   go_wp2
   clear n0 fn0 n1 fn1 n2 fn2 n3 fn3 n4 fn4 n5 fn5
   refine ⟨.inl (by kernel_rfl),?_⟩
   refine canon_at (λ wf hw=>?_)
   obtain ⟨hk,hb⟩:=set6 HN.out hw
   clear hw
   replace HB:=Hd (HB.out.keeps hk (λ e=>by have h1:=HL.out;have h2:=HNW.out;omega))
   replace HGO:=Hd (HGO.out.keeps hk (λ ⟨d,hd⟩ e=>by have h1:=HDL.out d hd;have h2:=HNW.out;omega) (λ x hx0 hx e=>by have h1:=HOLD.out x hx;have h2:=HNW.out;have h3:x=N:=e;omega))
   replace HJ:=Hd (HJ.out.keeps hk (λ x hx hg e=>hg.2 (by rw [show x=N from e];exact HNF.out)))
   replace K:=Hd (K.out.trans hk (λ x hx e=>by have h1:=HNW.out;have h2:x=N:=e;omega))
   replace HN:=Hd hb
   clear hk hb
   refine wpCanon_nil ?_
   have qnext:=(Pv.nextX_ HB.out).trans (congrArg some Enext.out)
   go_wp2_with fail
   clear qnext
   have HNr2:Hid (NdBlk wf N P.left):=Hd ⟨_,_,_,_,_,_,_,_,_,_,_,_,_,_,_,HN.out,(HNl.out _ HGO.out.rd).1,(HNl.out _ HGO.out.rd).2⟩
 all_goals try
   clear gr HNr2
   refine wp_region_tre (Wlk.reads [0,1,2,3,4,5,6,7,8,10,11,12,13,14,15,16,17] (.two 9 (.act 18 (Wlk.reads [19,20] (.act 21 .nil))) 18 (.act 9 (Wlk.reads [19,20] (.act 21 .nil))))) 21 (λ W=>W.cell? ⟨m,10,none⟩=some (.int .i64 P.level)/\W.cell? ⟨m,11,none⟩=some (.slice sepA P.sep.length sepc)/\W.cell? ⟨m,39,none⟩=some (.int .i64 P.side)/\W.cell? ⟨m,40,none⟩=some (.int .i64 P.half)) _ (by kernel_rfl) (by kernel_rfl) (of_decide_eq_true (by kernel_rfl)) (by kernel_rfl) (λ _ _ d _ _ h=>by cases d<;>exact h) ?_ ?_ (λ _ _ h=>h)
   ·exact ⟨(Pv.levelX_ HB.out).trans (congrArg some Elevel.out),(Pv.sepX_ HB.out).trans (congrArg some Esep.out),(Pv.sideX_ HB.out).trans (congrArg some Eside.out),(Pv.halfX_ HB.out).trans (congrArg some Ehalf.out)⟩
   refine tre_at (λ w4 hw=>?_)
   have hk:Keeps Nob wf w4:=by rw [hw];exact Keeps.drew _ _
   clear hw
   replace HB:=Hd (HB.out.keeps hk id)
   replace HGO:=gn_ HGO hk
   replace HN:=Hd (HN.out.keeps hk id)
   replace HJ:=Hd (HJ.out.nob hk)
   replace K:=tr_ K hk
   clear hk
   unfold Wlk.reads
   iterate 17
    refine wpTre_read (v:=?_) rfl (by rfl) ?_ ?_
    rotate_left
    ·intro W hW
     try (obtain ⟨z1,z2,z3,z4⟩:_/\_/\_/\_:=hW)
     go_simp
     try rfl
    simp only [Act.put,sa_,sb_,sc_]
   refine wpTre_two rfl rfl ?_ ?_
   focus
    go_wp2
    refine tre_at' (λ w5 hw=>?_)
    obtain ⟨N1,hN⟩:∃ N,w4.heap.size=N:=⟨_,rfl⟩
    have hk:Keeps Nob w4 w5:=by rw [hw];exact Keeps.alloc Nob _ _
    have hb:Blk w5 N1 34 #[.slice sepA P.sep.length sepc]:=by rw [hw,<-hN];exact Blk.new _ _ _
    have HR1:=Hd hb
    have HRN1:Hid (N < N1):=by show _ < _;rw [<-hN];exact HN.out.lt
    rw [hN]
    clear hw hb hN
    replace HR1:=Hd HR1.out
    replace HB:=Hd (HB.out.keeps hk id)
    replace HGO:=gn_ HGO hk
    replace HN:=Hd (HN.out.keeps hk id)
    replace HJ:=Hd (HJ.out.nob hk)
    replace K:=tr_ K hk
    clear hk
    refine ⟨.inr ⟨(Pv.levelX_ HB.out).trans (congrArg some Elevel.out),(Pv.sepX_ HB.out).trans (congrArg some Esep.out),(Pv.sideX_ HB.out).trans (congrArg some Eside.out),(Pv.halfX_ HB.out).trans (congrArg some Ehalf.out)⟩,?_⟩
    refine wpTre_act rfl ?_
    go_wp2
    refine tre_at' (λ w6 hw=>?_)
    obtain ⟨N2,hN⟩:∃ N,w5.heap.size=N:=⟨_,rfl⟩
    have hk:Keeps Nob w5 w6:=by rw [hw];exact Keeps.alloc Nob _ _
    have hb:Blk w6 N2 3 #[.int .i64 P.side,.int .i64 P.half]:=by rw [hw,<-hN];exact Blk.new _ _ _
    have HR2:=Hd hb
    have HRN2:Hid (N < N2):=by show _ < _;rw [<-hN];exact HN.out.lt
    rw [hN]
    clear hw hb hN
    replace HR1:=Hd (HR1.out.keeps hk id)
    replace HB:=Hd (HB.out.keeps hk id)
    replace HGO:=gn_ HGO hk
    replace HN:=Hd (HN.out.keeps hk id)
    replace HJ:=Hd (HJ.out.nob hk)
    replace K:=tr_ K hk
    clear hk
    refine ⟨.inr ⟨(Pv.levelX_ HB.out).trans (congrArg some Elevel.out),(Pv.sepX_ HB.out).trans (congrArg some Esep.out),(Pv.sideX_ HB.out).trans (congrArg some Eside.out),(Pv.halfX_ HB.out).trans (congrArg some Ehalf.out)⟩,?_⟩
   rotate_left
   focus
    go_wp2
    refine tre_at' (λ w5 hw=>?_)
    obtain ⟨N2,hN⟩:∃ N,w4.heap.size=N:=⟨_,rfl⟩
    have hk:Keeps Nob w4 w5:=by rw [hw];exact Keeps.alloc Nob _ _
    have hb:Blk w5 N2 3 #[.int .i64 P.side,.int .i64 P.half]:=by rw [hw,<-hN];exact Blk.new _ _ _
    have HR2:=Hd hb
    have HRN2:Hid (N < N2):=by show _ < _;rw [<-hN];exact HN.out.lt
    rw [hN]
    clear hw hb hN
    replace HR2:=Hd HR2.out
    replace HB:=Hd (HB.out.keeps hk id)
    replace HGO:=gn_ HGO hk
    replace HN:=Hd (HN.out.keeps hk id)
    replace HJ:=Hd (HJ.out.nob hk)
    replace K:=tr_ K hk
    clear hk
    refine ⟨.inr ⟨(Pv.levelX_ HB.out).trans (congrArg some Elevel.out),(Pv.sepX_ HB.out).trans (congrArg some Esep.out),(Pv.sideX_ HB.out).trans (congrArg some Eside.out),(Pv.halfX_ HB.out).trans (congrArg some Ehalf.out)⟩,?_⟩
    refine wpTre_act rfl ?_
    go_wp2
    refine tre_at' (λ w6 hw=>?_)
    obtain ⟨N1,hN⟩:∃ N,w5.heap.size=N:=⟨_,rfl⟩
    have hk:Keeps Nob w5 w6:=by rw [hw];exact Keeps.alloc Nob _ _
    have hb:Blk w6 N1 34 #[.slice sepA P.sep.length sepc]:=by rw [hw,<-hN];exact Blk.new _ _ _
    have HR1:=Hd hb
    have HRN1:Hid (N < N1):=by show _ < _;rw [<-hN];exact HN.out.lt
    rw [hN]
    clear hw hb hN
    replace HR2:=Hd (HR2.out.keeps hk id)
    replace HB:=Hd (HB.out.keeps hk id)
    replace HGO:=gn_ HGO hk
    replace HN:=Hd (HN.out.keeps hk id)
    replace HJ:=Hd (HJ.out.nob hk)
    replace K:=tr_ K hk
    clear hk
    refine ⟨.inr ⟨(Pv.levelX_ HB.out).trans (congrArg some Elevel.out),(Pv.sepX_ HB.out).trans (congrArg some Esep.out),(Pv.sideX_ HB.out).trans (congrArg some Eside.out),(Pv.halfX_ HB.out).trans (congrArg some Ehalf.out)⟩,?_⟩
   all_goals
    iterate 2
     refine wpTre_read (v:=?_) rfl (by rfl) ?_ ?_
     rotate_left
     ·intro W hW
      try (obtain ⟨z1,z2,z3,z4⟩:_/\_/\_/\_:=hW)
      go_simp
      try rfl
     simp only [Act.put,sa_,sb_,sc_]
    refine wpTre_act rfl ?_
    obtain ⟨n0,fn0,n1,fn1,n2,fn2,n3,fn3,n4,fn4,n5,fn5⟩:=cells6 HN.out
    go_wp2
    clear n0 fn0 n1 fn1 n2 fn2 n3 fn3 n4 fn4 n5 fn5
    refine tre_at' (λ wf hw=>?_)
    obtain ⟨hk,hb⟩:=set6 HN.out hw
    clear hw
    replace HB:=Hd (HB.out.keeps hk (λ e=>by have h1:=HL.out;have h2:=HNW.out;omega))
    replace HGO:=Hd (HGO.out.keeps hk (λ ⟨d,hd⟩ e=>by have h1:=HDL.out d hd;have h2:=HNW.out;omega) (λ x hx0 hx e=>by have h1:=HOLD.out x hx;have h2:=HNW.out;have h3:x=N:=e;omega))
    replace HJ:=Hd (HJ.out.keeps hk (λ x hx hg e=>hg.2 (by rw [show x=N from e];exact HNF.out)))
    replace K:=Hd (K.out.trans hk (λ x hx e=>by have h1:=HNW.out;have h2:x=N:=e;omega))
    replace HR1:=Hd (HR1.out.keeps hk (λ e=>by have h1:=HRN1.out;omega))
    replace HR2:=Hd (HR2.out.keeps hk (λ e=>by have h1:=HRN2.out;omega))
    replace HN:=Hd hb
    clear hk hb
    refine ⟨.inl (by rfl),?_⟩
    refine wpTre_nil ?_
    have qnext:=(Pv.nextX_ HB.out).trans (congrArg some Enext.out)
    have qa:=(Pv.aX_ HB.out).trans (congrArg some Ea.out)
    go_wp2_with fail
    clear qnext qa
    have HNr2:Hid (NdBlk wf N (rootNd P)):=Hd ⟨_,_,_,_,_,_,_,_,_,_,_,_,_,_,_,HN.out,(rootHd (m:=P)).mono (λ _ _ h=>h.elim),rootBd (S:=S) (m:=P) HR1.out HR2.out (by have h:=HGO.out.rd.sep;rw [Esep.out] at h;exact h)⟩
 all_goals
  first
  |
   obtain ⟨T,L,R,A1,n1,k1,A3,n3,k3,A4,n4,k4,A5,n5,k5,hN,hd,bd⟩:=HNr2.out
   clear fh HNr2
   refine rC_ [0,1,2,3,4,5,6,7,8] 7 (λ W=>W.cell? ⟨m,0,none⟩=some (.pointer (some ⟨p,0,none⟩))/\W.cell? ⟨N,0,none⟩=some (.int .i64 L)/\W.cell? ⟨N,1,none⟩=some (.slice A1 n1 k1)/\W.cell? ⟨N,2,none⟩=some (.int .i64 R)) ?_ ?_
   ·exact ⟨(Pv.aX_ HB.out).trans (congrArg some Ea.out),hN.cell 0,hN.cell 1,hN.cell 2⟩
   refine canon_at (λ w8 hw=>?_)
   have hk:Keeps Nob wf w8:=by rw [hw];exact Keeps.drew _ _
   clear hw
   replace HJ:=Hd (HJ.out.nob hk)
   replace K:=tr_ K hk
   have HD:=Hd (hd.keeps hk (λ _ _ _=>id))
   clear hk hN hd bd
   iterate 7
    refine cR_ (v:=?_) rfl ?_ ?_
    rotate_left
    ·intro W hW
     try (obtain ⟨z1,z2,z3,z4⟩:_/\_/\_/\_:=hW)
     go_simp
     try rfl
    simp only [Act.put,sa_,sb_,sc_]
   refine cA_ rfl ?_
   go_wp2_with (go_at_call 51;refine (HJ.out.setHeadX HD.out okf.out).mono ?_;rintro e w9 ⟨rfl,hj,hk⟩)
   rw [oke.out]
   unfold iV
   refine ⟨.inl (by kernel_rfl),?_⟩
   iterate 1
    refine cR_ (v:=?_) rfl ?_ ?_
    rotate_left
    ·intro W hW
     try (obtain ⟨z1,z2,z3,z4⟩:_/\_/\_/\_:=hW)
     go_simp
     try rfl
    simp only [Act.put,sa_,sb_,sc_]
   refine wpCanon_nil ?_
   go_wp2
   go_ret
   rw [he.out]
   exact ⟨rfl,hj.weaken (λ _ h=>h.1),K.out.trans hk (λ x _ h=>h.1)⟩
  |
   obtain ⟨T,L,R,A1,n1,k1,A3,n3,k3,A4,n4,k4,A5,n5,k5,hN,hd,bd⟩:=HNr2.out
   clear fb HNr2
   refine rC_ [0,1,2,3,4,5,6,7,8] 7 (λ W=>W.cell? ⟨m,0,none⟩=some (.pointer (some ⟨p,0,none⟩))/\W.cell? ⟨N,3,none⟩=some (.slice A3 n3 k3)/\W.cell? ⟨N,4,none⟩=some (.slice A4 n4 k4)/\W.cell? ⟨N,5,none⟩=some (.slice A5 n5 k5)) ?_ ?_
   ·exact ⟨(Pv.aX_ HB.out).trans (congrArg some Ea.out),hN.cell 3,hN.cell 4,hN.cell 5⟩
   refine canon_at (λ w8 hw=>?_)
   have hk:Keeps Nob wf w8:=by rw [hw];exact Keeps.drew _ _
   clear hw
   replace HJ:=Hd (HJ.out.nob hk)
   replace K:=tr_ K hk
   have HD:=Hd (bd.keeps hk (λ _ _ _=>id))
   clear hk hN hd bd
   iterate 7
    refine cR_ (v:=?_) rfl ?_ ?_
    rotate_left
    ·intro W hW
     try (obtain ⟨z1,z2,z3,z4⟩:_/\_/\_/\_:=hW)
     go_simp
     try rfl
    simp only [Act.put,sa_,sb_,sc_]
   refine cA_ rfl ?_
   go_wp2_with (go_at_call 24;refine (HJ.out.setBodyX HD.out okf.out).mono ?_;rintro e w9 ⟨rfl,hj,hk⟩)
   rw [oke.out]
   unfold iV
   refine ⟨.inl (by kernel_rfl),?_⟩
   iterate 1
    refine cR_ (v:=?_) rfl ?_ ?_
    rotate_left
    ·intro W hW
     try (obtain ⟨z1,z2,z3,z4⟩:_/\_/\_/\_:=hW)
     go_simp
     try rfl
    simp only [Act.put,sa_,sb_,sc_]
   refine wpCanon_nil ?_
   go_wp2
   go_ret
   rw [he.out]
   exact ⟨rfl,hj.weaken (λ _ h=>h.1),K.out.trans hk (λ x _ h=>h.1)⟩
  |
   clear fu
   refine HJ.out.unlockX.mono ?_
   rintro e w8 ⟨rfl,hj,hk⟩
   rw [oke.out]
   unfold iV
   go_wp2
   go_ret
   rw [he.out]
   exact ⟨rfl,hj.weaken (λ _ h=>h.1),K.out.trans hk (λ x _ h=>h.1)⟩
end
section
variable {w:World} {G S:Nat->Prop} {b p q m dm:Nat} {A B:Ar} {Φ:Fr} {C:Cf} {P:Pm}
theorem stepP_laid {leaf inner:Int} (ok:POk A P) (hx:LaidAt P.nx):stepP leaf inner A P=((false,false),(laid A P).2,{P with nx:=P.nx+1}):=by
 rcases ok.laidAt hx with (⟨h|h,_⟩|h)|⟨_,h|h,_⟩|⟨_,⟨h|h,_⟩|h⟩
 all_goals
  obtain ⟨h1,h2,h3⟩:=h
  rw [h2]
  first|rw [stepP_8 h1 h3]|rw [stepP_9 h1 h3]|rw [stepP_10 h1 h3]|rw [stepP_11 h1 h3]|rw [stepP_12 h1 h3]|rw [stepP_16 h1 h3]|rw [stepP_17 h1 h3]|rw [stepP_18 h1 h3]
  rw [h1]
theorem stepPX_laid (hJ:JX w G Φ p A) (off:∀ x,x=m\/x=dm\/S x->¬G x) (h:PX w m dm p S C P) (hx:LaidAt P.nx) (ok:POk A P) (old:∀ x,S x->x < w.heap.size):Calls Try.prog 9 #[pV m] w λ e w'=>e=.returned (.tuple #[.bool (stepP C.leaf C.inner A P).1.1,.bool (stepP C.leaf C.inner A P).1.2])/\PPX w w' G Φ p (stepP C.leaf C.inner A P).2.1 m dm S C (stepP C.leaf C.inner A P).2.2:=by
 have hs:=stepP_laid (leaf:=C.leaf) (inner:=C.inner) ok hx
 have HLX:=Hd hx
 have HOLD:Hid (∀ x,S x->x < w.heap.size):=old
 have HOK:=Hd ok
 rw [hs]
 clear hs ok old
 obtain ⟨⟨v,hb,hn,_,hgo⟩,hom⟩:=h
 have hgo:=hgo (by rcases hx with h|h|h|h|h|h|h|h<;>omega)
 have Enext:Hid (v.next=.int .i64 P.nx):=hn
 have HL:=Hd hb.lt
 have HB:=Hd hb
 have HGO:=Hd hgo
 have HJ:=Hd hJ
 have HOF:Hid (∀ x,x=m\/x=dm\/S x->¬G x):=off
 have HOM:Hid (¬S m):=hom
 have K:Hid (Keeps (λ x=>G x\/x=m\/x=dm) w w):=Hd (Keeps.refl _ _)
 clear hb hgo hJ off hom hn hx
 unfold pV
 rcases HLX.out with hx|hx|hx|hx|hx|hx|hx|hx
 all_goals
  have h:=Enext.out
  rw [hx] at h
  simp only [Int.cast_ofNat_Int] at h
  replace Enext:=Hd h
  have HNX:=Hd hx
  clear h hx
  go_enter Try.func9,Try.ntmps9
  have qnext:=(Pv.nextX_ HB.out).trans (congrArg some Enext.out)
  go_wp2_with fail
  clear qnext
  refine rC_ [0,1,3,4,5,6,7,2,8,9,10,11,12] 8 (λ W=>W.cell? ⟨m,9,none⟩=some (.int .i64 P.nx)) ?_ ?_
  ·rw [HNX.out];exact (Pv.nextX_ HB.out).trans (congrArg some Enext.out)
  refine canon_at (λ w1 hw=>?_)
  have hk:Keeps Nob w w1:=by rw [hw];exact Keeps.drew _ _
  clear hw
  replace HB:=Hd (HB.out.keeps hk id)
  replace HGO:=gn_ HGO hk
  replace HJ:=Hd (HJ.out.nob hk)
  replace K:=tr_ K hk
  clear hk
  iterate 7
   refine cR_ (v:=?_) rfl ?_ ?_
   rotate_left
   ·intro W hW
    try (replace hW:World.cell? _ _=some _:=hW;rw [HNX.out] at hW;simp only [Int.cast_ofNat_Int] at hW)
    go_simp
    try rfl
   simp only [Act.put,sa_,sb_,sc_]
  have hP:PX w1 m dm p S C P:=⟨⟨v,HB.out,(by rw [HNX.out];exact Enext.out),(λ h=>absurd (HNX.out.symm.trans h) (by decide)),λ _=>HGO.out⟩,HOM.out⟩
  have FL:=playsX HJ.out HOF.out hP HLX.out HOK.out (λ x hx=>Nat.lt_of_lt_of_le (HOLD.out x hx) K.out.size)
  clear hP
  unfold pV at FL
  refine cA_ rfl ?_
  go_wp2_with (go_at_call 30;refine FL.mono ?_;rintro e w2 ⟨rfl,hj,hk⟩)
  clear FL
  replace HB:=Hd (HB.out.keeps hk (HOF.out m (.inl rfl)))
  replace HGO:=gg_ HGO hk HOF
  replace HJ:=Hd hj
  replace K:=ky_ K hk
  clear hk hj
  refine ⟨.inr (by rw [HNX.out];exact (Pv.nextX_ HB.out).trans (congrArg some Enext.out)),?_⟩
  refine cA_ rfl ?_
  go_wp2_with (go_at_call 23;refine (ponX HB.out).mono ?_;rintro e w3 ⟨rfl,hb,hk⟩)
  replace HB:=Hd hb
  replace HGO:=gm_ HGO hk HOM
  replace HJ:=jm_ HJ hk HOF
  replace K:=kx_ K hk
  clear hk hb
  refine ⟨.inl (by kernel_rfl),?_⟩
  iterate 4
   refine cR_ (v:=?_) rfl ?_ ?_
   rotate_left
   ·intro W hW
    try (replace hW:World.cell? _ _=some _:=hW;rw [HNX.out] at hW;simp only [Int.cast_ofNat_Int] at hW)
    go_simp
    try rfl
   simp only [Act.put,sa_,sb_,sc_]
  refine wpCanon_nil ?_
  go_wp2
  go_ret2
  exact ⟨rfl,G,dm,S,HJ.out,λ _ h=>h,K.out,⟨⟨{v with next:=iV _},HB.out,(by show _=Value.int .i64 ((P.nx+1:Nat):Int);rw [HNX.out];rfl),(λ h=>absurd h (by show P.nx+1≠20;rw [HNX.out];decide)),λ _=>⟨{HGO.out.rd with nw:=λ _=>HGO.out.rd.nw (by rw [HNX.out];decide)},HGO.out.des,HGO.out.nd⟩⟩,HOM.out⟩,λ x hx=>.inl (.inr hx),.inl rfl⟩
theorem stepPX (hJ:JX w G Φ p A) (off:∀ x,x=m\/x=dm\/S x->¬G x) (h:PX w m dm p S C P) (ok:POk A P) (old:∀ x,S x->x < w.heap.size) (hn:P.nx<=20):Calls Try.prog 9 #[pV m] w λ e w'=>e=.returned (.tuple #[.bool (stepP C.leaf C.inner A P).1.1,.bool (stepP C.leaf C.inner A P).1.2])/\PPX w w' G Φ p (stepP C.leaf C.inner A P).2.1 m dm S C (stepP C.leaf C.inner A P).2.2:=by
 have hdd:P.nx=2\/P.nx=6->∃ d,P.D=some d:=ok.way
 obtain ⟨k,hk⟩:∃ k,P.nx=k:=⟨_,rfl⟩
 have hk20:k<=20:=hk▸hn
 match k,hk,hk20 with
 | 0,hk,_=>exact stepPX_0 hJ off h hk ok
 | 1,hk,_=>exact stepPX_1 hJ off h hk ok
 | 2,hk,_=>exact stepPX_2 hJ off h hk ok old (hdd (.inl hk))
 | 3,hk,_=>exact stepPX_3 hJ off h hk ok
 | 4,hk,_=>exact stepPX_457 hJ off h (by rw [hk];decide) ok
 | 5,hk,_=>exact stepPX_457 hJ off h (by rw [hk];decide) ok
 | 6,hk,_=>exact stepPX_6 hJ off h hk ok (hdd (.inr hk))
 | 7,hk,_=>exact stepPX_457 hJ off h (by rw [hk];decide) ok
 | 8,hk,_=>exact stepPX_laid hJ off h (by rw [hk];simp [LaidAt]) ok old
 | 9,hk,_=>exact stepPX_laid hJ off h (by rw [hk];simp [LaidAt]) ok old
 | 10,hk,_=>exact stepPX_laid hJ off h (by rw [hk];simp [LaidAt]) ok old
 | 11,hk,_=>exact stepPX_laid hJ off h (by rw [hk];simp [LaidAt]) ok old
 | 12,hk,_=>exact stepPX_laid hJ off h (by rw [hk];simp [LaidAt]) ok old
 | 13,hk,_=>exact stepPX_13 hJ off h hk ok old
 | 14,hk,_=>exact stepPX_14 hJ off h hk ok
 | 15,hk,_=>exact stepPX_15 hJ off h hk ok
 | 16,hk,_=>exact stepPX_laid hJ off h (by rw [hk];simp [LaidAt]) ok old
 | 17,hk,_=>exact stepPX_laid hJ off h (by rw [hk];simp [LaidAt]) ok old
 | 18,hk,_=>exact stepPX_laid hJ off h (by rw [hk];simp [LaidAt]) ok old
 | 19,hk,_=>exact stepPX_19 hJ off h hk ok old
 | 20,hk,_=>
  rw [stepP_through hk]
  refine (stepPX_20 h hk).mono ?_
  rintro e w' ⟨rfl,rfl⟩
  exact ⟨rfl,G,dm,S,hJ,λ _ h=>h,Keeps.refl _ _,h,λ x hx=>.inl (.inr hx),.inl rfl⟩
 | n+21,_,h=>exact absurd h (by omega)
end
end Go.Proofs.Ytjcgphhpaenjkaa

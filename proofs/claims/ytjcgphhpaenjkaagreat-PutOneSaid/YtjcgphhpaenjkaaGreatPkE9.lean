import Derived.Test.YtjcgphhpaenjkaaGreatPkD9
import Derived.Test.YtjcgphhpaenjkaaGreatPkE0
import Derived.Test.YtjcgphhpaenjkaaGreatPkE1
import Derived.Test.YtjcgphhpaenjkaaGreatPkE3
import Derived.Test.YtjcgphhpaenjkaaGreatPkE8
import Derived.Test.YtjcgphhpaenjkaaGreatPkC3
import Derived.Lib.SlBytesConst
import Derived.Test.YtjcgphhpaenjkaaGreatPkB4
set_option maxHeartbeats 64000000
set_option maxRecDepth 100000
set_option linter.unusedVariables false
namespace Go.Proofs.YtjcgphhpaenjkaaGreat
open Go.RowKit
def LaR (R:Nat->Prop) (w:World) (p:Nat) (A:Ar):Prop:=∃ G,JX w G Fr.no p A/\∀ x,G x->¬R x
def LnR (R:Nat->Prop) (w:World) (p m:Nat) (C:Cf) (A:Ar) (P:Pm):Prop:=
 ∃ G dm S,JX w G Fr.no p A/\PX w m dm p S C P/\(∀ x,x=m\/x=dm\/S x->¬G x)/\(∀ x,S x->x < w.heap.size)/\∀ x,G x\/x=m\/x=dm->¬R x
section
variable {w w':World} {p m:Nat} {C:Cf} {A:Ar} {P:Pm} {R R' S N:Nat->Prop} {kv vv:Value} {key val:List UInt8}
theorem LaR.lt (h:LaR R w p A) {x:Nat} (hx:R x):x < w.heap.size:=by
 obtain ⟨G,hJ,hR⟩:=h
 rcases Nat.lt_or_ge x w.heap.size with h1|h1
 ·exact h1
 ·exact absurd hx (hR x (hJ.new x h1))
theorem LnR.arena (h:LnR R w p m C A P):LaR R w p A:=by
 obtain ⟨G,dm,S,hJ,hP,off,old,hR⟩:=h
 exact ⟨G,hJ,λ x hx=>hR x (.inl hx)⟩
theorem LaR.nob (h:LaR R w p A) (k:Keeps Nob w w'):LaR R w' p A:=by
 obtain ⟨G,hJ,hR⟩:=h
 exact ⟨G,hJ.nob k,hR⟩
theorem LaR.take (h:LaR R w p A) (k:Keeps Nob w w') (hr:∀ x,R' x->R x\/Fresh w w' x):LaR R' w' p A:=by
 have hlt:=λ x hx=>h.lt (x:=x) hx
 obtain ⟨G,hJ,hR⟩:=h
 have hs:=k.size
 refine ⟨λ x=>(G x/\x < w.heap.size)\/w'.heap.size<=x,hJ.enterN k (λ _ _ _=>id) (λ x hx hg=>.inl ⟨hg,hx⟩) (λ x hx=>.inr hx),λ x hx hr'=>?_⟩
 rcases hr x hr' with h1|h1
 ·rcases hx with hx|hx
  ·exact hR x hx.1 h1
  ·have:=hlt x h1;omega
 ·have h2:=h1.1
  have h3:=h1.2
  rcases hx with hx|hx<;>omega
theorem LnR.nob (h:LnR R w p m C A P) (k:Keeps Nob w w'):LnR R w' p m C A P:=by
 obtain ⟨G,dm,S,hJ,hP,off,old,hR⟩:=h
 exact ⟨G,dm,S,hJ.nob k,hP.keeps k id (λ _=>id) (λ _ _ _=>id),off,λ x hx=>Nat.lt_of_lt_of_le (old x hx) k.size,hR⟩
theorem LnR.step (h:LnR R w p m C A P) (ok:POk A P) (hn:P.nx<=20):Calls Tryz.prog 48 #[pV m] w λ e w'=>e=.returned (.tuple #[.bool (stepP C.leaf C.inner A P).1.1,.bool (stepP C.leaf C.inner A P).1.2])/\LnR R w' p m C (stepP C.leaf C.inner A P).2.1 (stepP C.leaf C.inner A P).2.2/\Keeps (λ x=>¬R x) w w':=by
 have hlt:=λ x hx=>h.arena.lt (x:=x) hx
 obtain ⟨G,dm,S,hJ,hP,off,old,hR⟩:=h
 refine (stepPX hJ off hP ok old hn).mono ?_
 rintro e w' ⟨rfl,G',dm',S',hJ',hs,hk',hP',hF,hD⟩
 have hm:=hP.lt
 have hsz:=hk'.size
 refine ⟨rfl,⟨G',dm',S',hJ',hP',λ x hx hg=>?_,λ x hx=>?_,λ x hx=>?_⟩,hk'.mono (λ x _ hx=>hR x hx)⟩
 ·rcases hx with hx|hx
  ·exact off x (.inl hx) (hs x hg)
  ·rcases hF x hx with h1|h1
   ·exact off x h1 (hs x hg)
   ·exact h1.2 hg
 ·rcases hF x (.inr hx) with h1|h1
  ·rcases h1 with rfl|rfl|h1
   ·omega
   ·have h2:¬w'.heap.size<=x:=λ h=>off x (.inr (.inl rfl)) (hJ.new x (by omega))
    omega
   ·have:=old x h1;omega
  ·exact h1.1.2
 ·rcases hx with hx|hx|hx
  ·exact hR x (.inl (hs x hx))
  ·exact hR x (.inr (.inl hx))
  ·rcases hD with h1|h1
   ·exact hR x (.inr (.inr (hx.trans h1)))
   ·intro hr
    have h2:=h1.1
    have h3:=hlt x hr
    omega
theorem LnR.ask (h:LnR R w p m C A P):Calls Tryz.prog 49 #[pV m] w λ e w'=>e=.returned (.tuple #[.bool P.out.1,iV P.out.2])/\Keeps Nob w w':=by
 obtain ⟨G,dm,S,hJ,hP,off,old,hR⟩:=h
 exact answerPX hP
theorem LaR.put (h:LaR R w p A) (hk:Byts w S kv key) (hv:Byts w S vv val) (hz:Sm 0 1 key.length) (hzv:Sm 0 1 val.length):Calls Tryz.prog 47 #[pV p,.agg #[.int .i64 C.nodes,.int .i64 C.leaf,.int .i64 C.inner,.int .i64 C.fill,.int .i64 C.block],kv,vv] w λ e w'=>∃ m,e=.returned (pV m)/\LnR R w' p m C A (Pm.new key val)/\Keeps Nob w w':=by
 have hlt:=λ x hx=>h.lt (x:=x) hx
 obtain ⟨G,hJ,hR⟩:=h
 refine (pnewX hk hv hz hzv).mono ?_
 rintro e w' ⟨m,dm,S',rfl,hP,hF,hk'⟩
 refine ⟨m,rfl,⟨Shr G w w',dm,S',hJ.shr hk' (λ _ _ _ h=>h),hP,λ x hx hg=>hg.2 (hF x hx),λ x hx=>(hF x (.inr (.inr hx))).2,λ x hx=>?_⟩,hk'⟩
 rcases hx with hx|hx
 ·exact hR x hx.1
 ·intro hr
  have h1:=hlt x hr
  have h2:=(hF x (by rcases hx with hx|hx;exact .inl hx;exact .inr (.inl hx))).1
  omega
theorem LaR.held (h:LaR R w p A):Calls Tryz.prog 30 #[pV p] w λ e w'=>∃ v,e=.returned v/\OIn w' (From w.heap.size) v (heldFrom 1 A.sl)/\Keeps Nob w w':=by
 obtain ⟨G,hJ,_⟩:=h
 exact hJ.heldX.mono (λ e w' ⟨v,a,b,_,c⟩=>⟨v,a,b,c⟩)
theorem LaR.words (h:LaR R w p A) (hl:A.sl.length<=65536):Calls Tryz.prog 55 #[pV p] w λ e w'=>∃ v,e=.returned v/\Own w' (From w.heap.size) 54 1 v A.sl.length (A.sl.map wV)/\Keeps Nob w w':=by
 obtain ⟨G,hJ,_⟩:=h
 exact wordsR hJ hl
theorem LaR.left (h:LaR R w p A):Calls Tryz.prog 58 #[pV p] w λ e w'=>e=.returned (iV (A.nodes-A.sl.length))/\Keeps Nob w w':=by
 obtain ⟨G,hJ,_⟩:=h
 exact hJ.leftX.mono (λ e w' ⟨a,_,b⟩=>⟨a,b⟩)
theorem LaR.check (h:LaR R w p A) (hw:Wide64 A):Calls Tryz.prog 52 #[pV p,.agg #[.int .i64 C.nodes,.int .i64 C.leaf,.int .i64 C.inner,.int .i64 C.fill,.int .i64 C.block]] w λ e w'=>e=.returned (.agg (rpV (checkM A C.nodes C.leaf C.inner C.fill C.block)))/\Keeps Nob w w':=by
 obtain ⟨G,⟨⟨M,D,⟨sl,ids,hX⟩,_⟩,_,_,_,hsm⟩,_⟩:=h
 exact pcheckR hX hsm (λ s hs=>(hw s hs).2)
theorem LaR.map (h:LaR R w p A) (hw:Wide64 A) (hr:1<=A.root/\A.root<=A.sl.length) {es:List En} (hR:mapOf A=es.map En.e) (hb:es.length<=4000000000000):Calls Tryz.prog 20 #[pV p] w λ e w'=>∃ v,e=.returned v/\MapAt w' (Fresh w w') v (es.map En.e)/\Keeps Nob w w':=by
 obtain ⟨G,⟨⟨M,D,⟨sl,ids,hX⟩,_⟩,_,_,_,hsm⟩,_⟩:=h
 refine (pmapR hX hsm hw hr hR (by rw [List.length_map];exact hb)).mono ?_
 rintro e w' ⟨v,rfl,⟨l,ho,ht,hm⟩,hk⟩
 exact ⟨v,rfl,⟨l,ho,λ x hx=>⟨(ht x hx).1.r,(ht x hx).2.r⟩,hm⟩,hk⟩
theorem LaR.new (n:Nat) (h1:1<=n) (h2:n<=65536) (w:World) (hr:∀ x,R x->x < w.heap.size):Calls Tryz.prog 54 #[iV n] w λ e w'=>∃ p,e=.returned (.tuple #[pV p,iV 0])/\LaR R w' p (ar0 n)/\Keeps Nob w w':=by
 refine (new_ok w h1 h2).mono ?_
 rintro e w' ⟨rfl,hX,hk⟩
 exact ⟨_,rfl,⟨From w.heap.size,⟨⟨_,_,hX,λ x hx=>⟨hx.1,id⟩,λ x hx=>hx.elim⟩,trivial,λ x hx=>hx.elim,λ x hx=>Nat.le_trans hk.size hx,λ s hs=>by rw [show s=⟨0,Nd.zero⟩ from List.mem_singleton.1 hs];exact sm_zero⟩,λ x hx hR=>Nat.lt_irrefl _ (Nat.lt_of_lt_of_le (hr x hR) hx)⟩,hk⟩
structure Alo (w0:World) (S0:Nat->Prop) (C:Cf) (n0:Nat) (A0:Ar) (es0:List En) (x:En) (c:Nat) (w:World) (R:Nat->Prop) (p m B:Nat) (A:Ar) (us:List Pu) (es:List En) (u:Pu):Prop where
 sn:Sn14 w0 S0 C c A us es
 at_:us[n0]?=some u
 ln:LnR R w p m C A u.X
 free:FreeOk A u.X
 bud:Bud C.leaf B A u.X es
 tale:Tale A0 es0 x A u.X es
 ent:x=⟨u.kv,u.vv,u.X.key,u.X.val⟩
 wide:Wide64 A
 sz:us.length=n0+1
theorem Sn14.wide_ {w0:World} {S0:Nat->Prop} {n c:Nat} {es:List En} {us:List Pu} {u:Pu} (h:Sn14 w0 S0 C c A us es) (hC:Cf14 C) (hn:us[n]?=some u) (hw:Wide64 A):Wide64 (stepP C.leaf C.inner A u.X).2.1:=by
 obtain ⟨V,lv,ls,hD⟩:=h.dinv
 exact hD.wide (i:=n) (by rw [List.getElem?_map,hn];rfl) (h.nx u (List.mem_of_getElem? hn)).1 hw hC.leaf.1 hC.inner.1 (by have:=hC.nodes;omega)
theorem Sn14.rootIn_ {w0:World} {S0:Nat->Prop} {c:Nat} {es:List En} {us:List Pu} (h:Sn14 w0 S0 C c A us es):1<=A.root/\A.root<=A.sl.length:=by
 obtain ⟨V,lv,ls,hD⟩:=h.dinv
 exact hD.rootIn
theorem Alo.step {w0:World} {S0:Nat->Prop} {n0 c B:Nat} {A0:Ar} {es0 es:List En} {x:En} {us:List Pu} {u:Pu} (h:Alo w0 S0 C n0 A0 es0 x c w R p m (B+1) A us es u) (hC:Cf14 C) (hc:c < 9223372036854775807) (hx:u.X.nx≠20) :
  Calls Tryz.prog 48 #[pV m] w λ e w'=>∃ b A' us' es' u',e=.returned (.tuple #[.bool (decide (u'.X.nx=20)),.bool b])/\Alo w0 S0 C n0 A0 es0 x (c+1) w' R p m B A' us' es' u'/\((NoHold u'.X.nx\/Un u.X.nx+1<=Un u'.X.nx)/\(u.X.nx=0->u'.X.nx=20))/\Keeps (λ x=>¬R x) w w':=by
 have hu:=List.mem_of_getElem? h.at_
 have ok:=h.sn.ok hu hc
 have hnx:=(h.sn.nx u hu).1
 refine (h.ln.step ok hnx).mono ?_
 rintro e w' ⟨rfl,hl,hk⟩
 obtain ⟨g1,g2⟩:=stepP_says (leaf:=C.leaf) (inner:=C.inner) ok hnx hx
 obtain ⟨u',hu'⟩:∃ u':Pu,u'={u with X:=(stepP C.leaf C.inner A u.X).2.2}:=⟨_,rfl⟩
 have hX:u'.X=(stepP C.leaf C.inner A u.X).2.2:=by rw [hu']
 have hS:=h.sn.put hC h.at_ hc hX (by rw [hu']) (by rw [hu'])
 have hat:(us.set n0 u')[n0]?=some u':=List.getElem?_set_self (List.getElem?_eq_some_iff.1 h.at_).1
 have hf:FreeOk (stepP C.leaf C.inner A u.X).2.1 (stepP C.leaf C.inner A u.X).2.2:=by
  obtain ⟨V,lv,ls,hD⟩:=h.sn.dinv
  exact h.free.step hD.inv (List.mem_map.2 ⟨u,hu,rfl⟩) ok hnx hC.inner.1
 have hb:=Bud.step h.sn hC h.at_ hc h.free h.bud hS hat hX rfl
 have ht:=Tale.step h.sn h.at_ hc h.free h.bud h.tale h.ent
 obtain ⟨k1,k2⟩:=stepP_keeps (A:=A) (leaf:=C.leaf) (inner:=C.inner) (m:=u.X)
 refine ⟨_,_,us.set n0 u',_,u',by rw [g1,hX],⟨hS,hat,by rw [hX];exact hl,by rw [hX];exact hf,by rw [hX];exact hb,by rw [hX];exact ht,?_,h.sn.wide_ hC h.at_ h.wide,by rw [List.length_set];exact h.sz⟩,⟨by rw [hX];exact g2,λ h0=>by rw [hX,stepP_0 h0];rfl⟩,hk⟩
 rw [h.ent,hu']
 simp only
 rw [k1,k2]
theorem Alo.nob {w0:World} {S0:Nat->Prop} {n0 c B:Nat} {A0:Ar} {es0 es:List En} {x:En} {us:List Pu} {u:Pu} (h:Alo w0 S0 C n0 A0 es0 x c w R p m B A us es u) (k:Keeps Nob w w'):Alo w0 S0 C n0 A0 es0 x c w' R p m B A us es u:=
 ⟨h.sn,h.at_,h.ln.nob k,h.free,h.bud,h.tale,h.ent,h.wide,h.sz⟩
theorem aloneR {w0:World} {S0:Nat->Prop} {n0 c:Nat} {A0:Ar} {es0 es:List En} {x:En} {us:List Pu} {u:Pu} (h:Alo w0 S0 C n0 A0 es0 x c w R p m 600 A us es u) (hC:Cf14 C) (hc:c < 9223372036854770000) (hx:u.X.nx≠20) (hun:Un u.X.nx=0) :
  Calls Tryz.prog 56 #[pV p,pV m,.int .i64 1000] w λ e w'=>∃ n B:Nat,∃ A' us' es' u',e=.returned (.int .i64 n)/\n<=600/\(u.X.nx=0->n=1)/\u'.X.nx=20/\Alo w0 S0 C n0 A0 es0 x (c+n) w' R p m B A' us' es' u'/\Keeps (λ x=>¬R x) w w':=by
 have H:=Hd h
 clear h
 unfold pV
 go_enter Tryz.func56,Tryz.ntmps56
 go_wp2
 go_loopw [7,8,9] (λ nv unv tv wr=>∃ n un B:Nat,∃ A' us' es' u',nv=.int .i64 n/\unv=.int .i64 un/\tv=.bool (decide (u'.X.nx=20))/\n+B<=600/\un<=Un u'.X.nx/\(u.X.nx=0->(n=0/\u'.X.nx=0\/n=1/\u'.X.nx=20))/\Alo w0 S0 C n0 A0 es0 x (c+n) wr R p m B A' us' es' u'/\Keeps (λ x=>¬R x) w wr) (λ nv _ _ _=>601-(intOf nv).toNat)
 case atStart=>exact ⟨0,0,600,A,us,es,u,rfl,rfl,by rw [decide_eq_false hx],Nat.le_refl _,Nat.zero_le _,λ h0=>.inl ⟨rfl,h0⟩,H.out,Keeps.refl _ _⟩
 case round=>
  obtain ⟨n,un,B,A',us',es',u',rfl,rfl,rfl,hnB,hunl,hz,ha,hkr⟩:=hrel
  have HA:=Hd ha
  have HK:=Hd hkr
  have HZ:=Hd hz
  clear ha hkr hz
  by_cases h20:u'.X.nx=20
  ·rw [decide_eq_true h20]
   go_wp2
   go_ret
   refine ⟨n,B,A',us',es',u',rfl,by omega,λ h0=>?_,h20,HA.out,HK.out⟩
   rcases HZ.out h0 with h1|h1
   ·omega
   ·exact h1.1
  ·rw [decide_eq_false h20]
   have hu:=List.mem_of_getElem? HA.out.at_
   have hBp:=HA.out.bud.pos (HA.out.sn.nx u' hu).1 h20
   obtain ⟨B,rfl⟩:∃ b,B=b+1:=⟨B-1,by omega⟩
   have FS:=HA.out.step hC (by omega) h20
   have hul:=un_le u'.X.nx
   unfold pV at FS
   clear hu hBp
   go_wp2_with (go_at_call 48;refine FS.mono ?_;rintro e w1 ⟨b1,A2,us2,es2,u2,rfl,ha,⟨hh,h00⟩,hk⟩)
   have HA2:=Hd ha
   replace HK:=tq_ HK hk
   have HH:=Hd hh
   have hz2:Hid (u.X.nx=0->n+1=0/\u2.X.nx=0\/n+1=1/\u2.X.nx=20):=Hd (λ h0=>by
    rcases HZ.out h0 with h1|h1
    ·exact .inr ⟨by omega,h00 h1.2⟩
    ·exact absurd h1.2 h20)
   have FH:=ha.ln.arena.held
   unfold pV at FH
   clear FS ha hh h00 hk HA
   refine FH.mono ?_
   rintro e w2 ⟨hv,rfl,ho,hk⟩
   replace HA2:=Hd (HA2.out.nob hk)
   replace HK:=tr_ HK hk
   obtain ⟨XA,xc,rfl⟩:=Own.form ho
   clear FH ho hk
   obtain ⟨L,hL⟩:∃ L,heldFrom 1 A2.sl=L:=⟨_,rfl⟩
   rw [hL]
   cases L with
   | nil=>
    rw [List.length_nil]
    go_wp2
    go_roundw
    case rel=>exact ⟨n+1,0,B,A2,us2,es2,u2,by go_num,rfl,rfl,by omega,Nat.zero_le _,hz2.out,HA2.out,HK.out⟩
    case measure=>simp [intOf];omega
   | cons l0 L=>
    have hun2:un+1<=Un u2.X.nx:=by
     rcases HH.out with h1|h1
     ·rw [HA2.out.free.held h1] at hL;cases hL
     ·omega
    have hul2:=un_le u2.X.nx
    rw [List.length_cons]
    clear hL
    have hun8:(un:Int)+1<=8:=by omega
    go_wp2
    go_roundw
    case rel=>exact ⟨n+1,un+1,B,A2,us2,es2,u2,by go_num,by go_num,rfl,by omega,hun2,hz2.out,HA2.out,HK.out⟩
    case measure=>simp [intOf];omega
end
def hC:Cf:=⟨3,2,3,1,1⟩
def hP:Nat->Ar × Pm
 | 0=>(ar0 3,Pm.new [107] [118])
 | k+1=>(stepP 2 3 (hP k).1 (hP k).2).2
theorem hP_go:∀ k,k < 7->(stepP 2 3 (hP k).1 (hP k).2).1=(false,false)
 | 0,_=>by decide +kernel|1,_=>by decide +kernel|2,_=>by decide +kernel|3,_=>by decide +kernel|4,_=>by decide +kernel|5,_=>by decide +kernel|6,_=>by decide +kernel
 | n+7,h=>by omega
theorem hP_end:(stepP 2 3 (hP 7).1 (hP 7).2).1=(true,true):=by decide +kernel
theorem hP_nx:∀ k,k<=7->(hP k).2.nx<=20/\(hP k).2.level=0
 | 0,_=>by decide +kernel|1,_=>by decide +kernel|2,_=>by decide +kernel|3,_=>by decide +kernel|4,_=>by decide +kernel|5,_=>by decide +kernel|6,_=>by decide +kernel|7,_=>by decide +kernel
 | n+8,h=>by omega
theorem hP_inv:∀ k,k<=8->PInv 2 3 (hP k).1 [(hP k).2]/\WordsLe k (hP k).1/\∀ d,(hP k).2.D=some d->d.le k
 | 0,_=>⟨(show PInv 2 3 (ar0 3) ([]++[Pm.new [107] [118]]) from PInv.new (PInv.start 3)),λ s hs=>by simp [hP,ar0] at hs;subst hs;exact Nat.le_refl _,λ d hd=>by cases hd;exact Mc.le.new _ _ _⟩
 | k+1,hk=>by
  obtain ⟨h1,h2,h3⟩:=hP_inv k (by omega)
  obtain ⟨_,s3,_,_⟩:=stepP_sh (A:=(hP k).1) (leaf:=2) (inner:=3) (hP_nx k (by omega)).1
  refine ⟨h1.step (i:=0) rfl (by decide) (by decide) (by decide) (by decide) (λ s hs=>by have:=h2 s hs;omega),h2.step,λ d' hd=>?_⟩
  rcases s3 d' hd with e|⟨d0,e,rfl⟩|⟨_,_,rfl⟩
  ·exact (h3 d' e).mono (by omega)
  ·exact (h3 d0 e).step _
  ·exact Mc.le.new _ _ _
theorem hP_ok (k:Nat) (hk:k<=7):POk (hP k).1 (hP k).2:=
 (hP_inv k (by omega)).1.ok List.mem_cons_self (λ d hd=>((hP_inv k (by omega)).2.2 d hd).low (by omega)) (by rw [(hP_nx k hk).2];decide)
theorem hP_map:mapOf (hP 8).1=[([107],[118])]:=by decide +kernel
theorem hP_wide:Wide64 (hP 8).1/\1<=(hP 8).1.root/\(hP 8).1.root<=(hP 8).1.sl.length:=by
 have h:(hP 8).1.sl.all (λ s=>decide (s.nd.right=0)&&decide (s.nd.kids=[]))=true/\1<=(hP 8).1.root/\(hP 8).1.root<=(hP 8).1.sl.length:=by decide +kernel
 refine ⟨λ s hs=>?_,h.2⟩
 have h1:=List.all_eq_true.1 h.1 s hs
 simp only [Bool.and_eq_true,decide_eq_true_eq] at h1
 exact ⟨by rw [h1.1];rfl,λ k hk=>by rw [h1.2] at hk;cases hk⟩
theorem mark14 (w:World) (x:UInt8) {n:Nat} (hn:n=w.heap.size):Byts (w.alloc (.cells #[bV x] 5 (1,2))) (λ b=>b=n) (.slice (some ⟨n,0,none⟩) 1 1) [x]:=by
 subst hn
 refine ⟨some ⟨w.heap.size,0,none⟩,1,rfl,by simp,by decide,λ _=>⟨_,rfl,rfl,λ i y hy=>?_⟩⟩
 match i,hy with
 | 0,hy=>cases hy;rw [add_lit];exact cell_of_row _ _ 0 #[bV x] _ _ (heap_alloc_new w _)
 | i+1,hy=>simp at hy
theorem head14 (w:World):Calls Tryz.prog 13 #[] w λ e w'=>e=.returned (.bool true)/\Keeps Nob w w':=by
 have HN:=Hd (La.new 3 (by decide) (by decide) w)
 unfold iV pV at *
 go_enter Tryz.func13,Tryz.ntmps13
 go_wp2_with fail
 refine HN.out.mono ?_
 rintro e w1 ⟨p,rfl,ha⟩
 have HA:=Hd ha
 clear ha HN
 have hcv:∀ (w:World) (b:Nat) (C:Array Value) (n c:Nat),b=w.heap.size->(convert 29 29 (.slice (some ⟨b,0,none⟩) n c)).run Tryz.prog (w.alloc (.cells C 5))=.ok (.slice (some ⟨b,0,none⟩) n c) (w.alloc (.cells C 5 (C.size,C.size+1))):=λ w b C n c hb=>by
  subst hb;exact Lib.run_convert_bytes_const (P:=Tryz.prog) w 29 5 C n c Tryz.underlying29 Tryz.underlying5
 go_wp2_with fail
 clear hcv
 refine calls_at (λ w2 hw=>?_)
 have hk:Keeps Nob w1 w2:=by rw [hw];exact (Keeps.alloc Nob _ _).alloc' _
 have HBk:Hid (Byts w2 (λ b=>b=w1.heap.size) (.slice (some ⟨w1.heap.size,0,none⟩) 1 1) [107]):=by show Byts _ _ _ _;rw [hw];exact (mark14 w1 107 rfl).keeps (Keeps.alloc Nob _ _) (λ _ _ _=>id)
 have HBv:Hid (Byts w2 (λ b=>b=w1.heap.size+1) (.slice (some ⟨w1.heap.size+1,0,none⟩) 1 1) [118]):=by show Byts _ _ _ _;rw [hw];exact mark14 _ 118 (by simp)
 clear hw
 replace HA:=Hd (HA.out.nob hk)
 clear hk
 refine (La.put (C:=hC) HA.out (HBk.out.mono (T:=λ b=>b=w1.heap.size\/b=w1.heap.size+1) (λ _ _ h=>.inl h)) (HBv.out.mono (λ _ _ h=>.inr h)) (by unfold Sm;decide) (by unfold Sm;decide)).mono ?_
 rintro e w3 ⟨m,rfl,hl⟩
 have HL:Hid (Ln w w3 p m hC (hP 0).1 (hP 0).2):=hl
 clear hl HA HBk HBv
 unfold pV
 go_wp2
 go_loopw [4] (λ i wr=>∃ k:Nat,k<=7/\i=.int .i64 k/\Ln w wr p m hC (hP k).1 (hP k).2) (λ i _=>7-(intOf i).toNat)
 case atStart=>exact ⟨0,Nat.zero_le _,rfl,HL.out⟩
 clear HL
 obtain ⟨k,hk,rfl,hl⟩:=hrel
 have FS:=hl.step (hP_ok k hk) (hP_nx k hk).1
 unfold pV at FS
 clear hl
 rcases Nat.lt_or_ge k 7 with hlt|hlt
 ·rw [show stepP hC.leaf hC.inner (hP k).1 (hP k).2=((false,false),hP (k+1)) from Prod.ext (hP_go k hlt) rfl] at FS
  simp only at FS
  go_wp2_with fail
  refine FS.mono ?_
  rintro e w4 ⟨rfl,hl⟩
  clear FS
  go_wp2
  go_roundw
  case rel=>exact ⟨k+1,by omega,by go_num,hl⟩
  case measure=>simp [intOf];omega
 obtain rfl:k=7:=by omega
 rw [show stepP hC.leaf hC.inner (hP 7).1 (hP 7).2=((true,true),hP 8) from Prod.ext hP_end rfl] at FS
 simp only at FS
 clear hk hlt
 go_wp2_with fail
 refine FS.mono ?_
 rintro e w4 ⟨rfl,hl⟩
 obtain ⟨G,⟨⟨M,D,⟨sl,ids,hX⟩,_,_⟩,_,_,_,hsm⟩,_,hk4⟩:=hl.arena
 have FM:=pmapR hX hsm hP_wide.1 hP_wide.2 hP_map (by decide)
 have K4:=Hd hk4
 unfold pV at FM
 clear FS hl hX hsm hk4
 go_wp2_with fail
 refine FM.mono ?_
 rintro e w5 ⟨v,rfl,⟨l,ho,ht,hmap⟩,hk5⟩
 replace K4:=Hd (K4.out.trans hk5 (λ _ _ h=>h))
 obtain ⟨x,rfl⟩:=List.length_eq_one_iff.1 (show l.length=1 by have:=congrArg List.length hmap;simpa using this)
 have hx1:x.k=[107]:=congrArg Prod.fst (List.cons.inj hmap).1
 have hx2:x.v=[118]:=congrArg Prod.snd (List.cons.inj hmap).1
 have t1:=run_str (ht x List.mem_cons_self).1.r
 have t2:=run_str (ht x List.mem_cons_self).2.r
 rw [hx1] at t1
 rw [hx2] at t2
 have ho':Own w5 (Fresh w4 w5) 46 2 v 1 (enCells [x]):=ho
 obtain ⟨VA,vc,ev⟩:=ho'.form
 subst ev
 obtain ⟨hd1,hd1',hf⟩:=ho'.at_
 rcases hf with ⟨_,hd0⟩|⟨gb,o5,cur,rfl,hgb,hb,hcz,hxx⟩
 ·exact absurd hd1 (by omega)
 have r0:w5.cell? ⟨gb,o5,none⟩=some x.kv:=by rw [hb.cell];exact hxx 0 _ rfl
 have r1:w5.cell? ⟨gb,o5+1,none⟩=some x.vv:=by rw [hb.cell];exact hxx 1 _ rfl
 clear ho ho' hgb hb hcz hxx ht hx1 hx2 hmap hk5 FM
 go_wp2
 go_ret
 exact ⟨by simp,K4.out⟩
section
variable {w:World} {S:Nat->Prop} {val:List UInt8} {vv:Value}
theorem valFitR (h:Byts w S vv val):Calls Tryz.prog 50 #[vv] w λ e w'=>e=.returned (.bool (valFit val))/\w=w':=by
 obtain ⟨A,c,rfl,hn,hm⟩:=h.form
 have hz:val.length<=9223372036854775807:=Nat.le_trans hn hm
 clear h hn hm
 unfold valFit
 by_cases h1:(val.length:Int)<=256
 ·go_enter Tryz.func50,Tryz.ntmps50
  go_wp2
  go_ret
  exact ⟨by simp;omega,rfl⟩
 ·go_enter Tryz.func50,Tryz.ntmps50
  go_wp2
  go_ret
  exact ⟨by simp;omega,rfl⟩
end
end Go.Proofs.YtjcgphhpaenjkaaGreat

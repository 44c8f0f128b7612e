import Derived.Test.YtjcgphhpaenjkaaGreatPkE7
import Derived.Test.YtjcgphhpaenjkaaGreatPkB5
import Derived.Test.YtjcgphhpaenjkaaGreatPkE1
import Derived.Test.YtjcgphhpaenjkaaGreatPkE6
import Derived.Test.YtjcgphhpaenjkaaGreatPkE8
import Derived.Test.YtjcgphhpaenjkaaGreatPkD8
import Derived.Test.YtjcgphhpaenjkaaGreatPkD9
import Derived.Test.YtjcgphhpaenjkaaGreatPkA5
import Derived.Test.YtjcgphhpaenjkaaGreatPkE0
import Derived.Test.YtjcgphhpaenjkaaGreatPkB8
import Derived.Test.YtjcgphhpaenjkaaGreatPkC3
import Derived.Lib.SlBytesConst
set_option maxHeartbeats 64000000
set_option maxRecDepth 100000
namespace Go.Proofs.YtjcgphhpaenjkaaGreat
open Go.RowKit
section
variable {S T:Nat->Prop} {w:World} {a b:Value} {R:List Ent}
theorem enAt {w:World} {S:Nat->Prop} {A:Option Addr} {n c k:Nat} {l:List En} {x:En} (h:Own w S 46 2 (.slice A n c) n (enCells l)) (hn:l.length=n) (hx:l[k]?=some x):∃ g o,A=some ⟨g,o,none⟩/\w.cell? ⟨g,o+k*2,none⟩=some x.kv/\w.cell? ⟨g,o+k*2+1,none⟩=some x.vv:=by
 have hk:k < l.length:=(List.getElem?_eq_some_iff.1 hx).1
 obtain ⟨q1,_,hf⟩:=h.at_
 rcases hf with ⟨_,hc⟩|⟨g,o,cur,rfl,_,hb,_,hc⟩
 ·omega
 obtain ⟨h1,h2⟩:=enCells_at hx
 exact ⟨g,o,rfl,by rw [hb.cell];exact hc _ _ h1,by rw [hb.cell];exact hc _ _ h2⟩
theorem sameE (h1:MapAt w S a R) (h2:MapAt w T b R):Calls Tryz.prog 28 #[a,b] w λ e w'=>e=.returned (.bool true)/\Keeps Nob w w':=by
 obtain ⟨l1,o1,x1,e1⟩:=h1
 obtain ⟨l2,o2,x2,e2⟩:=h2
 have n1:l1.length=R.length:=by rw [<-e1,List.length_map]
 have n2:l2.length=R.length:=by rw [<-e2,List.length_map]
 obtain ⟨n,hn⟩:∃ n,R.length=n:=⟨_,rfl⟩
 rw [hn] at n1 n2
 rw [n1] at o1
 rw [n2] at o2
 obtain ⟨A,c,rfl⟩:=o1.form
 obtain ⟨B,d,rfl⟩:=o2.form
 have hz:n<=9223372036854775807:=by obtain ⟨q1,q2,_⟩:=o1.at_;unfold maxLen at q2;omega
 have HO1:=Hd o1
 have HO2:=Hd o2
 have HX1:=Hd x1
 have HX2:=Hd x2
 have HE:=Hd (And.intro e1 e2)
 have HN:=Hd (And.intro n1 n2)
 clear o1 o2 x1 x2 e1 e2 n1 n2 hn
 go_enter Tryz.func28,Tryz.ntmps28
 go_wp2
 go_loopw [5] (λ i wr=>∃ k:Nat,k<=n/\i=.int .i64 k/\Keeps Nob w wr) (λ i _=>n-(intOf i).toNat)
 case atStart=>exact ⟨0,Nat.zero_le _,rfl,Keeps.refl _ _⟩
 obtain ⟨k,hk1,rfl,hK⟩:=hrel
 have HK:=Hd hK
 clear hK
 rcases Nat.lt_or_ge k n with hlt|hlt
 rotate_left
 ·obtain rfl:k=n:=by omega
  go_wp2
  go_ret
  exact ⟨rfl,HK.out⟩
 obtain ⟨x,hx⟩:∃ x,l1[k]?=some x:=⟨_,List.getElem?_eq_getElem (by have:=HN.out;omega)⟩
 obtain ⟨y,hy⟩:∃ y,l2[k]?=some y:=⟨_,List.getElem?_eq_getElem (by have:=HN.out;omega)⟩
 obtain ⟨g1,o1,eA,a0,a1⟩:=enAt HO1.out HN.out.1 hx
 obtain ⟨g2,o2,eB,b0,b1⟩:=enAt HO2.out HN.out.2 hy
 subst eA eB
 have hxy:x.e=y.e:=by
  have p1:R[k]?=some x.e:=by rw [<-HE.out.1,List.getElem?_map,hx];rfl
  have p2:R[k]?=some y.e:=by rw [<-HE.out.2,List.getElem?_map,hy];rfl
  rw [p1] at p2;exact Option.some.inj p2
 obtain ⟨t1,t2⟩:=HX1.out x (List.mem_of_getElem? hx)
 obtain ⟨t3,t4⟩:=HX2.out y (List.mem_of_getElem? hy)
 obtain ⟨xk,xv,xkk,xvv⟩:=x
 obtain ⟨yk,yv,ykk,yvv⟩:=y
 unfold En.e at hxy
 simp only [Prod.mk.injEq] at hxy t1 t2 t3 t4 a0 a1 b0 b1
 obtain ⟨rfl,rfl⟩:=hxy
 obtain ⟨A1,c1,rfl,_,_⟩:=t1.form
 obtain ⟨A2,c2,rfl,_,_⟩:=t2.form
 obtain ⟨A3,c3,rfl,_,_⟩:=t3.form
 obtain ⟨A4,c4,rfl,_,_⟩:=t4.form
 replace a0:=HK.out.cell a0 id
 replace a1:=HK.out.cell a1 id
 replace b0:=HK.out.cell b0 id
 replace b1:=HK.out.cell b1 id
 have s1:=λ n=>run_str ((t1.keeps HK.out (λ _ _ _=>id)).keeps (Keeps.drewN Nob wr n) (λ _ _ _=>id))
 have s2:=λ n=>run_str ((t2.keeps HK.out (λ _ _ _=>id)).keeps (Keeps.drewN Nob wr n) (λ _ _ _=>id))
 have s3:=λ n=>run_str ((t3.keeps HK.out (λ _ _ _=>id)).keeps (Keeps.drewN Nob wr n) (λ _ _ _=>id))
 have s4:=λ n=>run_str ((t4.keeps HK.out (λ _ _ _=>id)).keeps (Keeps.drewN Nob wr n) (λ _ _ _=>id))
 clear t1 t2 t3 t4 hx hy
 go_wp2
 go_quiet (fail)
 go_wp2
 clear a0 a1 b0 b1 s1 s2 s3 s4
 go_roundw
 case rel=>exact ⟨k+1,by omega,by go_num,HK.out.drewN' _⟩
 case measure=>simp [intOf];omega
end
section
variable {w:World} {S:Nat->Prop} {val:List UInt8} {vv:Value}
theorem valFitR (h:Byts w S vv val):Calls Tryz.prog 50 #[vv] w λ e w'=>e=.returned (.bool (valFit val))/\w=w':=by
 obtain ⟨A,c,rfl,hn,hm⟩:=h.form
 have hz:val.length<=9223372036854775807:=Nat.le_trans hn hm
 clear h hn hm
 unfold valFit
 by_cases h1:(val.length:Int)<=256
 ·go_enter Tryz.func50,Tryz.ntmps50
  go_wp2
  go_ret
  exact ⟨by simp;omega,rfl⟩
 ·go_enter Tryz.func50,Tryz.ntmps50
  go_wp2
  go_ret
  exact ⟨by simp;omega,rfl⟩
end
theorem pk_nat8 {c n:Int} (hn:0 < n):∃ m:Nat,pk c n=(m:Int)/\(m:Int) < n:=by
 have h:0<=pk c n/\pk c n < n:=by
  unfold pk
  split
  ·exact ⟨Int.emod_nonneg _ (by omega),Int.emod_lt_of_pos _ hn⟩
  ·exact ⟨Int.emod_nonneg _ (by omega),Int.emod_lt_of_pos _ hn⟩
 exact ⟨(pk c n).toNat,by omega,by omega⟩
theorem own_at8 {W:World} {S:Nat->Prop} {e:TypeId} {size g o n c i:Nat} {xs:List Value} {x:Value} (h:Own W S e size (.slice (some ⟨g,o,none⟩) n c) n xs) (hx:xs[i]?=some x):W.cell? ⟨g,o+i,none⟩=some x:=by
 obtain ⟨hd1,hd1',hf⟩:=h.at_
 rcases hf with ⟨hd0,_⟩|⟨gb',o5',cur',hr',hgb,hb,hcz,hxx⟩
 ·cases hd0
 cases hr'
 rw [hb.cell];exact hxx _ _ hx
theorem own_some8 {W:World} {S:Nat->Prop} {e:TypeId} {size n c:Nat} {A:Option Addr} {xs:List Value} (h:Own W S e size (.slice A n c) n xs) (hn:0 < n):∃ g o,A=some ⟨g,o,none⟩/\n<=c:=by
 obtain ⟨hd1,hd1',hf⟩:=h.at_
 rcases hf with ⟨_,hd0⟩|⟨gb,o5,cur,hrr,_⟩
 ·exact absurd hd1 (by omega)
 exact ⟨gb,o5,hrr,hd1⟩
section
variable {w0 w w':World} {b14 b p q n c:Nat} {A B:Ar} {C:Cf} {pv qv mv kv vv:Value} {us:List Pu} {es:List En} {sa sb:Ob} {S0:Nat->Prop} {key val:List UInt8} {u:Pu}
theorem Su.step8 (h:Su w0 w b p q A B (l8 b14 b p C pv qv mv us es sa sb)) (hn:us[n]?=some u) (ok:POk A u.X) (hx:u.X.nx<=20):Calls Tryz.prog 48 #[pV u.mx] w λ e w'=>e=.returned (.tuple #[.bool (stepP C.leaf C.inner A u.X).1.1,.bool (stepP C.leaf C.inner A u.X).1.2])/\∃ u':Pu,(u'.X=(stepP C.leaf C.inner A u.X).2.2/\u'.mx=u.mx/\u'.kv=u.kv/\u'.vv=u.vv)/\Su w0 w' b p q (stepP C.leaf C.inner A u.X).2.1 B (l8 b14 b p C pv qv mv (us.set n u') es sa sb):=by
 refine (h.putX (i:=4) rfl hn ok hx).mono ?_
 rintro e w' ⟨rfl,d,S,hs⟩
 obtain ⟨u',hu⟩:∃ u':Pu,u'={u with X:=(stepP C.leaf C.inner A u.X).2.2,dx:=d,Sx:=S}:=⟨_,rfl⟩
 rw [<-hu] at hs
 refine ⟨rfl,u',⟨by rw [hu],by rw [hu],by rw [hu],by rw [hu]⟩,?_⟩
 show Su _ _ _ _ _ _ _ _
 unfold l8
 rw [List.length_set,pus0_set us n u u' hn (by rw [hu]) (by rw [hu]),pms_set (e:=u') hn (by rw [hu])]
 exact hs
theorem Su.ask8 (h:Su w0 w b p q A B (l8 b14 b p C pv qv mv us es sa sb)) (hn:us[n]?=some u):Calls Tryz.prog 49 #[pV u.mx] w λ e w'=>e=.returned (.tuple #[.bool u.X.out.1,iV u.X.out.2])/\Keeps Nob w w':=
 h.askX (i:=4) rfl hn
theorem Su.set8 (h:Su w0 w b p q A B (l8 b14 b p C pv qv mv us es sa sb)) (ht:∀ e ∈ es,Byts w0 S0 e.kv e.k/\Byts w0 S0 e.vv e.v) (hk:Byts w0 S0 kv key) (hv:Byts w0 S0 vv val) (hz:(es.length+1)*48<=190000000000000):Calls Tryz.prog 51 #[mv,kv,vv] w λ e w'=>∃ mv',e=.returned mv'/\Su w0 w' b p q A B (l8 b14 b p C pv qv mv' us (setE ⟨kv,vv,key,val⟩ es) sa sb):=by
 have k0:=h.kept
 refine (setR (S:=S0) (h.get (i:=3) rfl:Own w _ 46 2 mv _ _) (λ e he=>⟨(ht e he).1.keeps k0 (λ _ _ _=>id),(ht e he).2.keeps k0 (λ _ _ _=>id)⟩) (hk.keeps k0 (λ _ _ _=>id)) (hv.keeps k0 (λ _ _ _=>id)) hz).mono ?_
 rintro e w' ⟨v',rfl,ho,hkk⟩
 exact ⟨v',rfl,h.rowPut (i:=3) rfl hkk ho⟩
theorem Su.held8 (h:Su w0 w b p q A B (l8 b14 b p C pv qv mv us es sa sb)):Calls Tryz.prog 30 #[pV p] w λ e w'=>∃ v,e=.returned v/\OIn w' (From w.heap.size) v (heldFrom 1 A.sl)/\Su w0 w' b p q A B (l8 b14 b p C pv qv mv us es sa sb):=by
 obtain ⟨G,hJ,hg,back⟩:=h.arena
 refine hJ.heldX.mono ?_
 rintro e w' ⟨v,rfl,ho,hJ',hk⟩
 exact ⟨v,rfl,ho,back _ _ _ hJ' (hk.mono (λ _ _ h=>h.elim))⟩
theorem Su.check8 (h:Su w0 w b p q A B (l8 b14 b p C pv qv mv us es sa sb)) (hw:Wide64 A):Calls Tryz.prog 52 #[pV p,.agg #[.int .i64 C.nodes,.int .i64 C.leaf,.int .i64 C.inner,.int .i64 C.fill,.int .i64 C.block]] w λ e w'=>e=.returned (.agg (rpV (checkM A C.nodes C.leaf C.inner C.fill C.block)))/\Keeps Nob w w':=by
 obtain ⟨G,⟨_,⟨M,D,M',D',⟨sl,ids,hX⟩,_⟩,_,_,hsm,_⟩,_⟩:=h.arena
 exact pcheckR hX hsm (λ s hs=>(hw s hs).2)
theorem Su.map8 (h:Su w0 w b p q A B (l8 b14 b p C pv qv mv us es sa sb)) (hw:Wide64 A) (hr:1<=A.root/\A.root<=A.sl.length) (hR:mapOf A=es.map En.e) (hb:es.length<=4000000000000):Calls Tryz.prog 20 #[pV p] w λ e w'=>∃ v,e=.returned v/\MapAt w' (Fresh w w') v (es.map En.e)/\Keeps Nob w w':=by
 obtain ⟨G,⟨_,⟨M,D,M',D',⟨sl,ids,hX⟩,_⟩,_,_,hsm,_⟩,_⟩:=h.arena
 refine (pmapR hX hsm hw hr hR (by rw [List.length_map];exact hb)).mono ?_
 rintro e w' ⟨v,rfl,⟨l,ho,ht,hm⟩,hk⟩
 exact ⟨v,rfl,⟨l,ho,λ x hx=>⟨(ht x hx).1.r,(ht x hx).2.r⟩,hm⟩,hk⟩
theorem Su.mine8 (h:Su w0 w b p q A B (l8 b14 b p C pv qv mv us es sa sb)) (ht:∀ e ∈ es,Byts w0 S0 e.kv e.k/\Byts w0 S0 e.vv e.v):MapAt w (λ x=>mv.ownBlock=some x\/S0 x) mv (es.map En.e):=
 ⟨es,(h.get (i:=3) rfl:Own w _ 46 2 mv _ _).mono (λ _ _ h=>.inl h),λ e he=>⟨((ht e he).1.keeps h.kept (λ _ _ _=>id)).mono (λ _ _ h=>.inr h),((ht e he).2.keeps h.kept (λ _ _ _=>id)).mono (λ _ _ h=>.inr h)⟩,rfl⟩
theorem Sn14.wide {us:List Pu} (h:Sn14 w0 S0 C c A us es) (hC:Cf14 C) (hn:us[n]?=some u) (hw:Wide64 A):Wide64 (stepP C.leaf C.inner A u.X).2.1:=by
 obtain ⟨V,lv,ls,hD⟩:=h.dinv
 exact hD.wide (i:=n) (by rw [List.getElem?_map,hn];rfl) (h.nx u (List.mem_of_getElem? hn)).1 hw hC.leaf.1 hC.inner.1 (by have:=hC.nodes;omega)
theorem Sn14.rootIn {us:List Pu} (h:Sn14 w0 S0 C c A us es):1<=A.root/\A.root<=A.sl.length:=by
 obtain ⟨V,lv,ls,hD⟩:=h.dinv
 exact hD.rootIn
end
theorem begun14 (w:World) (c:Cf) (h0:I64 c.nodes) (h1:I64 c.leaf) (h2:I64 c.inner) (h3:I64 c.fill) (h4:I64 c.block) :
  Calls Tryz.prog 14 #[cfV c] w λ e w'=>∃ b14 b p q,e=.returned (pV b14)/\Su w w' b p q (ar0 (fitC c).nodes.toNat) (ar0 (fitC c).nodes.toNat) (l14_0 b14 b (fitC c)):=by
 have P0:=λ wx=>fit14 wx c h0 h1 h2 h3 h4
 obtain ⟨z1,z2,_⟩:=fitC_bd c
 obtain ⟨n,hn⟩:∃ n:Nat,(fitC c).nodes.toNat=n:=⟨_,rfl⟩
 have hni:(fitC c).nodes=(n:Int):=by omega
 have HB:=λ wx=>begunJ (n:=n) wx (by omega) (by omega)
 rw [hn]
 clear h0 h1 h2 h3 h4 z1 z2 hn
 generalize fitC c=d at *
 obtain ⟨d0,d1,d2,d3,d4⟩:=d
 simp only at hni
 subst hni
 unfold cfV at *
 unfold iV pV at *
 go_enter Tryz.func14,Tryz.ntmps14
 have HB:=Hd HB
 go_wp2_with (go_at_call 53;refine (P0 _).mono ?_;rintro e w1 ⟨rfl,hk⟩)
 refine calls_at (λ wx hwx=>?_)
 have hz:Blk wx w1.heap.size 23 #[.int .i64 n,.int .i64 d1,.int .i64 d2,.int .i64 d3,.int .i64 d4]:=by
  rw [hwx]
  exact Blk.new w1 _ _
 have hkx:Keeps Nob w wx:=by
  have h1:=(Keeps.alloc Nob w (.cells #[.int .i64 c.nodes,.int .i64 c.leaf,.int .i64 c.inner,.int .i64 c.fill,.int .i64 c.block] 23)).trans hk (λ _ _ h=>h)
  rw [hwx]
  exact h1.trans (Keeps.alloc Nob w1 _) (λ _ _ h=>h)
 clear hwx hk
 obtain ⟨g,hg⟩:∃ g,w1.heap.size=g:=⟨_,rfl⟩
 rw [hg] at hz ⊢
 clear hg
 refine (HB.out _).mono ?_
 rintro e w2 ⟨b,p,q,rfl,hj,hk2⟩
 have hz2:=hz.keeps hk2 id
 have r0:=hz2.cell 0
 have r1:=hz2.cell 1
 have r2:=hz2.cell 2
 have r3:=hz2.cell 3
 have r4:=hz2.cell 4
 have HJ:=Hd hj
 have HK2:=Hd hk2
 have HKX:=Hd hkx
 clear hj hk2 hkx hz hz2
 go_wp2
 go_ret
 refine ⟨w2.heap.size,b,p,q,rfl,?_⟩
 have hs0:=Su.begin (w0:=w) HJ.out (λ x hx=>Nat.le_trans HKX.out.size hx) (HKX.out.trans HK2.out (λ _ _ h=>h))
 have hs1:=hs0.push (o:=muBlk w2.heap.size 37 (w14 b ⟨n,d1,d2,d3,d4⟩ (.slice none 0 0) (.slice none 0 0) (.slice none 0 0))) (Keeps.alloc Nob _ _) (Blk.new _ _ _) (λ x hx=>by have e:x=w2.heap.size:=hx;subst e;exact ⟨Nat.le_refl _,(Blk.new w2 37 (w14 b ⟨n,d1,d2,d3,d4⟩ (.slice none 0 0) (.slice none 0 0) (.slice none 0 0))).lt⟩) (λ x hx=>hx)
 exact ((((((((((hs1.nilRow 111 4).nilRow 131 3).nilRow 46 2).addGrp).addGrp).addGrp).addGrp).addNo).addNo).addNo).addNo
def Ln (w0 w:World) (p m:Nat) (C:Cf) (A:Ar) (P:Pm):Prop:=
 ∃ G dm S,JX w G Fr.no p A/\PX w m dm p S C P/\(∀ x,x=m\/x=dm\/S x->¬G x)/\(∀ x,S x->x < w.heap.size)/\(∀ x,G x\/x=m\/x=dm->w0.heap.size<=x)/\Keeps Nob w0 w
def La (w0 w:World) (p:Nat) (A:Ar):Prop:=∃ G,JX w G Fr.no p A/\(∀ x,G x->w0.heap.size<=x)/\Keeps Nob w0 w
section
variable {w0 w w':World} {p m:Nat} {C:Cf} {A:Ar} {P:Pm} {S:Nat->Prop} {kv vv:Value} {key val:List UInt8}
theorem Ln.arena (h:Ln w0 w p m C A P):La w0 w p A:=by
 obtain ⟨G,dm,S,hJ,hP,off,old,hlo,hk⟩:=h
 exact ⟨G,hJ,λ x hx=>hlo x (.inl hx),hk⟩
theorem La.nob (h:La w0 w p A) (k:Keeps Nob w w'):La w0 w' p A:=by
 obtain ⟨G,hJ,hlo,hk⟩:=h
 exact ⟨G,hJ.nob k,hlo,hk.trans k (λ _ _ h=>h)⟩
theorem Ln.step (h:Ln w0 w p m C A P) (ok:POk A P) (hn:P.nx<=20):Calls Tryz.prog 48 #[pV m] w λ e w'=>e=.returned (.tuple #[.bool (stepP C.leaf C.inner A P).1.1,.bool (stepP C.leaf C.inner A P).1.2])/\Ln w0 w' p m C (stepP C.leaf C.inner A P).2.1 (stepP C.leaf C.inner A P).2.2:=by
 obtain ⟨G,dm,S,hJ,hP,off,old,hlo,hk⟩:=h
 refine (stepPX hJ off hP ok old hn).mono ?_
 rintro e w' ⟨rfl,G',dm',S',hJ',hs,hk',hP',hF,hD⟩
 have hm:=hP.lt
 have hsz:=hk'.size
 have hsz0:=hk.size
 refine ⟨rfl,G',dm',S',hJ',hP',λ x hx hg=>?_,λ x hx=>?_,λ x hx=>?_,hk.trans hk' (λ x h0 hx=>?_)⟩
 ·rcases hx with hx|hx
  ·exact off x (.inl hx) (hs x hg)
  ·rcases hF x hx with h1|h1
   ·exact off x h1 (hs x hg)
   ·exact h1.2 hg
 ·rcases hF x (.inr hx) with h1|h1
  ·rcases h1 with rfl|rfl|h1
   ·omega
   ·have h2:¬w'.heap.size<=x:=λ h=>off x (.inr (.inl rfl)) (hJ.new x (by omega))
    omega
   ·have:=old x h1;omega
  ·exact h1.1.2
 ·rcases hx with hx|hx|hx
  ·exact hlo x (.inl (hs x hx))
  ·exact hlo x (.inr (.inl hx))
  ·rcases hD with h1|h1
   ·exact hlo x (.inr (.inr (hx.trans h1)))
   ·have h2:=h1.1;omega
 ·exact absurd h0 (Nat.not_lt.2 (hlo x hx))
theorem La.put (h:La w0 w p A) (hk:Byts w S kv key) (hv:Byts w S vv val) (hz:Sm 0 1 key.length) (hzv:Sm 0 1 val.length):Calls Tryz.prog 47 #[pV p,.agg #[.int .i64 C.nodes,.int .i64 C.leaf,.int .i64 C.inner,.int .i64 C.fill,.int .i64 C.block],kv,vv] w λ e w'=>∃ m,e=.returned (pV m)/\Ln w0 w' p m C A (Pm.new key val):=by
 obtain ⟨G,hJ,hlo,hk0⟩:=h
 refine (pnewX hk hv hz hzv).mono ?_
 rintro e w' ⟨m,dm,S',rfl,hP,hF,hk'⟩
 have hsz0:=hk0.size
 refine ⟨m,rfl,Shr G w w',dm,S',hJ.shr hk' (λ _ _ _ h=>h),hP,λ x hx hg=>hg.2 (hF x hx),λ x hx=>(hF x (.inr (.inr hx))).2,λ x hx=>?_,hk0.trans hk' (λ _ _ h=>h)⟩
 rcases hx with hx|hx|hx
 ·exact hlo x hx.1
 ·have:=(hF x (.inl hx)).1;omega
 ·have:=(hF x (.inr (.inl hx))).1;omega
theorem La.new (n:Nat) (h1:1<=n) (h2:n<=65536) (w:World):Calls Tryz.prog 54 #[iV n] w λ e w'=>∃ p,e=.returned (.tuple #[pV p,iV 0])/\La w w' p (ar0 n):=by
 refine (new_ok w h1 h2).mono ?_
 rintro e w' ⟨rfl,hX,hk⟩
 exact ⟨_,rfl,From w.heap.size,⟨⟨_,_,hX,λ x hx=>⟨hx.1,id⟩,λ x hx=>hx.elim⟩,trivial,λ x hx=>hx.elim,λ x hx=>Nat.le_trans hk.size hx,λ s hs=>by rw [show s=⟨0,Nd.zero⟩ from List.mem_singleton.1 hs];exact sm_zero⟩,λ x hx=>hx,hk⟩
end
def hC:Cf:=⟨3,2,3,1,1⟩
def hP:Nat->Ar × Pm
 | 0=>(ar0 3,Pm.new [107] [118])
 | k+1=>(stepP 2 3 (hP k).1 (hP k).2).2
theorem hP_go:∀ k,k < 7->(stepP 2 3 (hP k).1 (hP k).2).1=(false,false)
 | 0,_=>by decide +kernel|1,_=>by decide +kernel|2,_=>by decide +kernel|3,_=>by decide +kernel|4,_=>by decide +kernel|5,_=>by decide +kernel|6,_=>by decide +kernel
 | n+7,h=>by omega
theorem hP_end:(stepP 2 3 (hP 7).1 (hP 7).2).1=(true,true):=by decide +kernel
theorem hP_nx:∀ k,k<=7->(hP k).2.nx<=20/\(hP k).2.level=0
 | 0,_=>by decide +kernel|1,_=>by decide +kernel|2,_=>by decide +kernel|3,_=>by decide +kernel|4,_=>by decide +kernel|5,_=>by decide +kernel|6,_=>by decide +kernel|7,_=>by decide +kernel
 | n+8,h=>by omega
theorem hP_inv:∀ k,k<=8->PInv 2 3 (hP k).1 [(hP k).2]/\WordsLe k (hP k).1/\∀ d,(hP k).2.D=some d->d.le k
 | 0,_=>⟨(show PInv 2 3 (ar0 3) ([]++[Pm.new [107] [118]]) from PInv.new (PInv.start 3)),λ s hs=>by simp [hP,ar0] at hs;subst hs;exact Nat.le_refl _,λ d hd=>by cases hd;exact Mc.le.new _ _ _⟩
 | k+1,hk=>by
  obtain ⟨h1,h2,h3⟩:=hP_inv k (by omega)
  obtain ⟨_,s3,_,_⟩:=stepP_sh (A:=(hP k).1) (leaf:=2) (inner:=3) (hP_nx k (by omega)).1
  refine ⟨h1.step (i:=0) rfl (by decide) (by decide) (by decide) (by decide) (λ s hs=>by have:=h2 s hs;omega),h2.step,λ d' hd=>?_⟩
  rcases s3 d' hd with e|⟨d0,e,rfl⟩|⟨_,_,rfl⟩
  ·exact (h3 d' e).mono (by omega)
  ·exact (h3 d0 e).step _
  ·exact Mc.le.new _ _ _
theorem hP_ok (k:Nat) (hk:k<=7):POk (hP k).1 (hP k).2:=
 (hP_inv k (by omega)).1.ok List.mem_cons_self (λ d hd=>((hP_inv k (by omega)).2.2 d hd).low (by omega)) (by rw [(hP_nx k hk).2];decide)
theorem hP_map:mapOf (hP 8).1=[([107],[118])]:=by decide +kernel
theorem hP_wide:Wide64 (hP 8).1/\1<=(hP 8).1.root/\(hP 8).1.root<=(hP 8).1.sl.length:=by
 have h:(hP 8).1.sl.all (λ s=>decide (s.nd.right=0)&&decide (s.nd.kids=[]))=true/\1<=(hP 8).1.root/\(hP 8).1.root<=(hP 8).1.sl.length:=by decide +kernel
 refine ⟨λ s hs=>?_,h.2⟩
 have h1:=List.all_eq_true.1 h.1 s hs
 simp only [Bool.and_eq_true,decide_eq_true_eq] at h1
 exact ⟨by rw [h1.1];rfl,λ k hk=>by rw [h1.2] at hk;cases hk⟩
theorem mark14 (w:World) (x:UInt8) {n:Nat} (hn:n=w.heap.size):Byts (w.alloc (.cells #[bV x] 5 (1,2))) (λ b=>b=n) (.slice (some ⟨n,0,none⟩) 1 1) [x]:=by
 subst hn
 refine ⟨some ⟨w.heap.size,0,none⟩,1,rfl,by simp,by decide,λ _=>⟨_,rfl,rfl,λ i y hy=>?_⟩⟩
 match i,hy with
 | 0,hy=>cases hy;rw [add_lit];exact cell_of_row _ _ 0 #[bV x] _ _ (heap_alloc_new w _)
 | i+1,hy=>simp at hy
theorem head14 (w:World):Calls Tryz.prog 13 #[] w λ e w'=>e=.returned (.bool true)/\Keeps Nob w w':=by
 have HN:=Hd (La.new 3 (by decide) (by decide) w)
 unfold iV pV at *
 go_enter Tryz.func13,Tryz.ntmps13
 go_wp2_with fail
 refine HN.out.mono ?_
 rintro e w1 ⟨p,rfl,ha⟩
 have HA:=Hd ha
 clear ha HN
 have hcv:∀ (w:World) (b:Nat) (C:Array Value) (n c:Nat),b=w.heap.size->(convert 29 29 (.slice (some ⟨b,0,none⟩) n c)).run Tryz.prog (w.alloc (.cells C 5))=.ok (.slice (some ⟨b,0,none⟩) n c) (w.alloc (.cells C 5 (C.size,C.size+1))):=λ w b C n c hb=>by
  subst hb;exact Lib.run_convert_bytes_const (P:=Tryz.prog) w 29 5 C n c Tryz.underlying29 Tryz.underlying5
 go_wp2_with fail
 clear hcv
 refine calls_at (λ w2 hw=>?_)
 have hk:Keeps Nob w1 w2:=by rw [hw];exact (Keeps.alloc Nob _ _).alloc' _
 have HBk:Hid (Byts w2 (λ b=>b=w1.heap.size) (.slice (some ⟨w1.heap.size,0,none⟩) 1 1) [107]):=by show Byts _ _ _ _;rw [hw];exact (mark14 w1 107 rfl).keeps (Keeps.alloc Nob _ _) (λ _ _ _=>id)
 have HBv:Hid (Byts w2 (λ b=>b=w1.heap.size+1) (.slice (some ⟨w1.heap.size+1,0,none⟩) 1 1) [118]):=by show Byts _ _ _ _;rw [hw];exact mark14 _ 118 (by simp)
 clear hw
 replace HA:=Hd (HA.out.nob hk)
 clear hk
 refine (La.put (C:=hC) HA.out (HBk.out.mono (T:=λ b=>b=w1.heap.size\/b=w1.heap.size+1) (λ _ _ h=>.inl h)) (HBv.out.mono (λ _ _ h=>.inr h)) (by unfold Sm;decide) (by unfold Sm;decide)).mono ?_
 rintro e w3 ⟨m,rfl,hl⟩
 have HL:Hid (Ln w w3 p m hC (hP 0).1 (hP 0).2):=hl
 clear hl HA HBk HBv
 unfold pV
 go_wp2
 go_loopw [4] (λ i wr=>∃ k:Nat,k<=7/\i=.int .i64 k/\Ln w wr p m hC (hP k).1 (hP k).2) (λ i _=>7-(intOf i).toNat)
 case atStart=>exact ⟨0,Nat.zero_le _,rfl,HL.out⟩
 clear HL
 obtain ⟨k,hk,rfl,hl⟩:=hrel
 have FS:=hl.step (hP_ok k hk) (hP_nx k hk).1
 unfold pV at FS
 clear hl
 rcases Nat.lt_or_ge k 7 with hlt|hlt
 ·rw [show stepP hC.leaf hC.inner (hP k).1 (hP k).2=((false,false),hP (k+1)) from Prod.ext (hP_go k hlt) rfl] at FS
  simp only at FS
  go_wp2_with fail
  refine FS.mono ?_
  rintro e w4 ⟨rfl,hl⟩
  clear FS
  go_wp2
  go_roundw
  case rel=>exact ⟨k+1,by omega,by go_num,hl⟩
  case measure=>simp [intOf];omega
 obtain rfl:k=7:=by omega
 rw [show stepP hC.leaf hC.inner (hP 7).1 (hP 7).2=((true,true),hP 8) from Prod.ext hP_end rfl] at FS
 simp only at FS
 clear hk hlt
 go_wp2_with fail
 refine FS.mono ?_
 rintro e w4 ⟨rfl,hl⟩
 obtain ⟨G,⟨⟨M,D,⟨sl,ids,hX⟩,_,_⟩,_,_,_,hsm⟩,_,hk4⟩:=hl.arena
 have FM:=pmapR hX hsm hP_wide.1 hP_wide.2 hP_map (by decide)
 have K4:=Hd hk4
 unfold pV at FM
 clear FS hl hX hsm hk4
 go_wp2_with fail
 refine FM.mono ?_
 rintro e w5 ⟨v,rfl,⟨l,ho,ht,hmap⟩,hk5⟩
 replace K4:=Hd (K4.out.trans hk5 (λ _ _ h=>h))
 obtain ⟨x,rfl⟩:=List.length_eq_one_iff.1 (show l.length=1 by have:=congrArg List.length hmap;simpa using this)
 have hx1:x.k=[107]:=congrArg Prod.fst (List.cons.inj hmap).1
 have hx2:x.v=[118]:=congrArg Prod.snd (List.cons.inj hmap).1
 have t1:=run_str (ht x List.mem_cons_self).1.r
 have t2:=run_str (ht x List.mem_cons_self).2.r
 rw [hx1] at t1
 rw [hx2] at t2
 have ho':Own w5 (Fresh w4 w5) 46 2 v 1 (enCells [x]):=ho
 obtain ⟨VA,vc,ev⟩:=ho'.form
 subst ev
 obtain ⟨hd1,hd1',hf⟩:=ho'.at_
 rcases hf with ⟨_,hd0⟩|⟨gb,o5,cur,rfl,hgb,hb,hcz,hxx⟩
 ·exact absurd hd1 (by omega)
 have r0:w5.cell? ⟨gb,o5,none⟩=some x.kv:=by rw [hb.cell];exact hxx 0 _ rfl
 have r1:w5.cell? ⟨gb,o5+1,none⟩=some x.vv:=by rw [hb.cell];exact hxx 1 _ rfl
 clear ho ho' hgb hb hcz hxx ht hx1 hx2 hmap hk5 FM
 go_wp2
 go_ret
 exact ⟨by simp,K4.out⟩
end Go.Proofs.YtjcgphhpaenjkaaGreat

import Derived.Test.YtjcgphhpaenjkaaGreatPkD6
import Derived.Test.YtjcgphhpaenjkaaGreatPkB3
import Derived.Test.YtjcgphhpaenjkaaGreatPkC3
import Derived.Test.YtjcgphhpaenjkaaGreatPkC4
import Derived.Test.YtjcgphhpaenjkaaGreatPkA5
import Derived.Test.YtjcgphhpaenjkaaGreatPkC5
import Derived.BigQuiet
import Derived.Test.YtjcgphhpaenjkaaGreatPkA9
set_option maxHeartbeats 64000000
set_option maxRecDepth 100000
set_option linter.unusedVariables false
namespace Go.Proofs.YtjcgphhpaenjkaaGreat
open Go.RowKit
section
variable {w:World} {G S:Nat->Prop} {b p q m dm:Nat} {A B:Ar} {Φ:Fr} {C:Cf} {P:Pm}
theorem stepP_laid {leaf inner:Int} (ok:POk A P) (hx:LaidAt P.nx):stepP leaf inner A P=((false,false),(laid A P).2,{P with nx:=P.nx+1}):=by
 rcases ok.laidAt hx with (⟨h|h,_⟩|h)|⟨_,h|h,_⟩|⟨_,⟨h|h,_⟩|h⟩
 all_goals
  obtain ⟨h1,h2,h3⟩:=h
  rw [h2]
  first|rw [stepP_8 h1 h3]|rw [stepP_9 h1 h3]|rw [stepP_10 h1 h3]|rw [stepP_11 h1 h3]|rw [stepP_12 h1 h3]|rw [stepP_16 h1 h3]|rw [stepP_17 h1 h3]|rw [stepP_18 h1 h3]
  rw [h1]
theorem stepPX_laid (hJ:JX w G Φ p A) (off:∀ x,x=m\/x=dm\/S x->¬G x) (h:PX w m dm p S C P) (hx:LaidAt P.nx) (ok:POk A P) (old:∀ x,S x->x < w.heap.size):Calls Tryz.prog 48 #[pV m] w λ e w'=>e=.returned (.tuple #[.bool (stepP C.leaf C.inner A P).1.1,.bool (stepP C.leaf C.inner A P).1.2])/\PPX w w' G Φ p (stepP C.leaf C.inner A P).2.1 m dm S C (stepP C.leaf C.inner A P).2.2:=by
 have hs:=stepP_laid (leaf:=C.leaf) (inner:=C.inner) ok hx
 have HLX:=Hd hx
 have HOLD:Hid (∀ x,S x->x < w.heap.size):=old
 have HOK:=Hd ok
 rw [hs]
 clear hs ok old
 obtain ⟨⟨v,hb,hn,_,hgo⟩,hom⟩:=h
 have hgo:=hgo (by rcases hx with h|h|h|h|h|h|h|h<;>omega)
 have Enext:Hid (v.next=.int .i64 P.nx):=hn
 have HL:=Hd hb.lt
 have HB:=Hd hb
 have HGO:=Hd hgo
 have HJ:=Hd hJ
 have HOF:Hid (∀ x,x=m\/x=dm\/S x->¬G x):=off
 have HOM:Hid (¬S m):=hom
 have K:Hid (Keeps (λ x=>G x\/x=m\/x=dm) w w):=Hd (Keeps.refl _ _)
 clear hb hgo hJ off hom hn hx
 unfold pV
 rcases HLX.out with hx|hx|hx|hx|hx|hx|hx|hx
 all_goals
  have h:=Enext.out
  rw [hx] at h
  simp only [Int.cast_ofNat_Int] at h
  replace Enext:=Hd h
  have HNX:=Hd hx
  clear h hx
  go_enter Tryz.func48,Tryz.ntmps48
  have qnext:=(Pv.nextX_ HB.out).trans (congrArg some Enext.out)
  go_wp2_with fail
  clear qnext
  refine rC_ [0,1,3,4,5,6,7,2,8,9,10,11,12] 8 (λ W=>W.cell? ⟨m,9,none⟩=some (.int .i64 P.nx)) ?_ ?_
  ·rw [HNX.out];exact (Pv.nextX_ HB.out).trans (congrArg some Enext.out)
  refine canon_at (λ w1 hw=>?_)
  have hk:Keeps Nob w w1:=by rw [hw];exact Keeps.drew _ _
  clear hw
  replace HB:=Hd (HB.out.keeps hk id)
  replace HGO:=gn_ HGO hk
  replace HJ:=Hd (HJ.out.nob hk)
  replace K:=tr_ K hk
  clear hk
  iterate 7
   refine cR_ (v:=?_) rfl ?_ ?_
   rotate_left
   ·intro W hW
    try (replace hW:World.cell? _ _=some _:=hW;rw [HNX.out] at hW;simp only [Int.cast_ofNat_Int] at hW)
    go_simp
    try rfl
   simp only [Act.put,sa_,sb_,sc_]
  have hP:PX w1 m dm p S C P:=⟨⟨v,HB.out,(by rw [HNX.out];exact Enext.out),(λ h=>absurd (HNX.out.symm.trans h) (by decide)),λ _=>HGO.out⟩,HOM.out⟩
  have FL:=playsX HJ.out HOF.out hP HLX.out HOK.out (λ x hx=>Nat.lt_of_lt_of_le (HOLD.out x hx) K.out.size)
  clear hP
  unfold pV at FL
  refine cA_ rfl ?_
  go_wp2_with (go_at_call 122;refine FL.mono ?_;rintro e w2 ⟨rfl,hj,hk⟩)
  clear FL
  replace HB:=Hd (HB.out.keeps hk (HOF.out m (.inl rfl)))
  replace HGO:=gg_ HGO hk HOF
  replace HJ:=Hd hj
  replace K:=ky_ K hk
  clear hk hj
  refine ⟨.inr (by rw [HNX.out];exact (Pv.nextX_ HB.out).trans (congrArg some Enext.out)),?_⟩
  refine cA_ rfl ?_
  go_wp2_with (go_at_call 117;refine (ponX HB.out).mono ?_;rintro e w3 ⟨rfl,hb,hk⟩)
  replace HB:=Hd hb
  replace HGO:=gm_ HGO hk HOM
  replace HJ:=jm_ HJ hk HOF
  replace K:=kx_ K hk
  clear hk hb
  refine ⟨.inl (by kernel_rfl),?_⟩
  iterate 4
   refine cR_ (v:=?_) rfl ?_ ?_
   rotate_left
   ·intro W hW
    try (replace hW:World.cell? _ _=some _:=hW;rw [HNX.out] at hW;simp only [Int.cast_ofNat_Int] at hW)
    go_simp
    try rfl
   simp only [Act.put,sa_,sb_,sc_]
  refine wpCanon_nil ?_
  go_wp2
  go_ret2
  exact ⟨rfl,G,dm,S,HJ.out,λ _ h=>h,K.out,⟨⟨{v with next:=iV _},HB.out,(by show _=Value.int .i64 ((P.nx+1:Nat):Int);rw [HNX.out];rfl),(λ h=>absurd h (by show P.nx+1≠20;rw [HNX.out];decide)),λ _=>⟨{HGO.out.rd with nw:=λ _=>HGO.out.rd.nw (by rw [HNX.out];decide)},HGO.out.des,HGO.out.nd⟩⟩,HOM.out⟩,λ x hx=>.inl (.inr hx),.inl rfl⟩
theorem stepPX (hJ:JX w G Φ p A) (off:∀ x,x=m\/x=dm\/S x->¬G x) (h:PX w m dm p S C P) (ok:POk A P) (old:∀ x,S x->x < w.heap.size) (hn:P.nx<=20):Calls Tryz.prog 48 #[pV m] w λ e w'=>e=.returned (.tuple #[.bool (stepP C.leaf C.inner A P).1.1,.bool (stepP C.leaf C.inner A P).1.2])/\PPX w w' G Φ p (stepP C.leaf C.inner A P).2.1 m dm S C (stepP C.leaf C.inner A P).2.2:=by
 have hdd:P.nx=2\/P.nx=6->∃ d,P.D=some d:=ok.way
 obtain ⟨k,hk⟩:∃ k,P.nx=k:=⟨_,rfl⟩
 have hk20:k<=20:=hk▸hn
 match k,hk,hk20 with
 | 0,hk,_=>exact stepPX_0 hJ off h hk ok
 | 1,hk,_=>exact stepPX_1 hJ off h hk ok
 | 2,hk,_=>exact stepPX_2 hJ off h hk ok old (hdd (.inl hk))
 | 3,hk,_=>exact stepPX_3 hJ off h hk ok
 | 4,hk,_=>exact stepPX_457 hJ off h (by rw [hk];decide) ok
 | 5,hk,_=>exact stepPX_457 hJ off h (by rw [hk];decide) ok
 | 6,hk,_=>exact stepPX_6 hJ off h hk ok (hdd (.inr hk))
 | 7,hk,_=>exact stepPX_457 hJ off h (by rw [hk];decide) ok
 | 8,hk,_=>exact stepPX_laid hJ off h (by rw [hk];simp [LaidAt]) ok old
 | 9,hk,_=>exact stepPX_laid hJ off h (by rw [hk];simp [LaidAt]) ok old
 | 10,hk,_=>exact stepPX_laid hJ off h (by rw [hk];simp [LaidAt]) ok old
 | 11,hk,_=>exact stepPX_laid hJ off h (by rw [hk];simp [LaidAt]) ok old
 | 12,hk,_=>exact stepPX_laid hJ off h (by rw [hk];simp [LaidAt]) ok old
 | 13,hk,_=>exact stepPX_13 hJ off h hk ok old
 | 14,hk,_=>exact stepPX_14 hJ off h hk ok
 | 15,hk,_=>exact stepPX_15 hJ off h hk ok
 | 16,hk,_=>exact stepPX_laid hJ off h (by rw [hk];simp [LaidAt]) ok old
 | 17,hk,_=>exact stepPX_laid hJ off h (by rw [hk];simp [LaidAt]) ok old
 | 18,hk,_=>exact stepPX_laid hJ off h (by rw [hk];simp [LaidAt]) ok old
 | 19,hk,_=>exact stepPX_19 hJ off h hk ok old
 | 20,hk,_=>
  rw [stepP_through hk]
  refine (stepPX_20 h hk).mono ?_
  rintro e w' ⟨rfl,rfl⟩
  exact ⟨rfl,G,dm,S,hJ,λ _ h=>h,Keeps.refl _ _,h,λ x hx=>.inl (.inr hx),.inl rfl⟩
 | n+21,_,h=>exact absurd h (by omega)
theorem answerPX (h:PX w m dm p S C P):Calls Tryz.prog 49 #[pV m] w λ e w'=>e=.returned (.tuple #[.bool P.out.1,iV P.out.2])/\Keeps Nob w w':=by
 obtain ⟨⟨v,hb,hn,ht,_⟩,hom⟩:=h
 by_cases hx:P.nx=20
 ·obtain ⟨h1,h2⟩:=ht hx
  have Enext:Hid (v.next=.int .i64 20):=by show v.next=_;rw [hn,hx];rfl
  have Ethere:Hid (v.there=.bool P.there):=h1
  have Eerr:Hid (v.err=.int .i64 P.err):=h2
  unfold Pm.out
  rw [if_pos hx]
  have HB:=Hd hb
  have qn:w.cell? ⟨m,9,none⟩=some (.int .i64 20):=(Pv.nextX_ hb).trans (congrArg some Enext.out)
  clear hb hn ht hom hx h1 h2
  unfold pV
  go_enter Tryz.func49,Tryz.ntmps49
  go_wp2_with fail
  clear qn
  refine rC_ [0,1,2,3,4,5,6,7,8,9] 99 (λ W=>W.cell? ⟨m,43,none⟩=some (.bool P.there)/\W.cell? ⟨m,44,none⟩=some (.int .i64 P.err)) ?_ ?_
  ·exact ⟨(Pv.thereX_ HB.out).trans (congrArg some Ethere.out),(Pv.errX_ HB.out).trans (congrArg some Eerr.out)⟩
  refine canon_at (λ w1 hw=>?_)
  have hk:Keeps Nob w w1:=by rw [hw];exact Keeps.drew _ _
  clear hw
  iterate 10
   refine cR_ (v:=?_) rfl ?_ ?_
   rotate_left
   ·intro W hW
    try (obtain ⟨z1,z2⟩:_/\_:=hW)
    go_simp
    try rfl
   simp only [Act.put,sa_,sb_,sc_]
  refine wpCanon_nil ?_
  go_wp2
  go_ret2
  exact ⟨rfl,hk⟩
 ·unfold Pm.out
  rw [if_neg hx]
  have qn:w.cell? ⟨m,9,none⟩=some (.int .i64 P.nx):=(Pv.nextX_ hb).trans (congrArg some hn)
  have nn:((P.nx:Int) != 20)=true:=by simp;omega
  clear hb hn ht hom hx
  unfold pV
  go_enter Tryz.func49,Tryz.ntmps49
  go_wp2
  go_ret2
  exact ⟨rfl,Keeps.refl _ _⟩
end
structure Pu where
 mx:Nat
 dx:Nat
 my:Nat
 dy:Nat
 Sx:Nat->Prop
 Sy:Nat->Prop
 X:Pm
 Y:Pm
 kv:Value
 vv:Value
section
variable {w0 w:World} {b p q i n:Nat} {A B:Ar} {l:List Ob} {us:List Pu} {u:Pu} {C:Cf}
end
def map14 (C:Cf) (A:Ar) (u:Pu) (es:List En):List En:=if (stepP C.leaf C.inner A u.X).1.2=true/\(stepP C.leaf C.inner A u.X).2.2.out.2=0 then setE ⟨u.kv,u.vv,u.X.key,u.X.val⟩ es else es
theorem setL_mem {x:En}:∀ (l:List En) (o:List En × Bool),(∀ e ∈ o.1,e=x\/e ∈ l\/e ∈ o.1)->∀ e ∈ (l.foldl (stepE x) o).1,e=x\/e ∈ l\/e ∈ o.1
 | [],o,_,e,he=>.inr (.inr he)
 | y::l,o,_,e,he=>by
  have h1:=setL_mem l (stepE x o y) (λ e h=>.inr (.inr h)) e he
  rcases h1 with h1|h1|h1
  ·exact .inl h1
  ·exact .inr (.inl (List.mem_cons_of_mem _ h1))
  ·unfold stepE at h1
   have h2:e ∈ o.1\/e=x\/e=y:=by
    by_cases c1:0<=cmp y.k x.k/\o.2=false<;>by_cases c2:cmp y.k x.k≠0<;>simp only [c1,c2,if_true,if_false,List.mem_append,List.mem_singleton,and_self,not_false_iff,ne_eq] at h1<;>(try simp at h1)<;>first|exact .inl h1|exact .inr (.inl h1)|(rcases h1 with (h1|h1)|h1<;>first|exact .inl h1|exact .inr (.inl h1)|exact .inr (.inr h1))|(rcases h1 with h1|h1|h1<;>first|exact .inl h1|exact .inr (.inl h1)|exact .inr (.inr h1))|(rcases h1 with h1|h1<;>first|exact .inl h1|exact .inr (.inl h1)|exact .inr (.inr h1))
   rcases h2 with h2|h2|h2
   ·exact .inr (.inr h2)
   ·exact .inl h2
   ·exact .inr (.inl (by rw [h2];exact List.mem_cons_self))
theorem setE_mem {x e:En} {l:List En} (h:e ∈ setE x l):e=x\/e ∈ l:=by
 have h0:=setL_mem (x:=x) l ([],false) (λ e h=>by cases h) e
 unfold setE setL at h
 split at h
 ·rcases List.mem_append.1 h with h|h
  ·rcases h0 h with h|h|h
   ·exact .inl h
   ·exact .inr h
   ·cases h
  ·exact .inl (by simpa using h)
 ·rcases h0 h with h|h|h
  ·exact .inl h
  ·exact .inr h
  ·cases h
def past (u:Pu):Bool:=decide (u.X.nx=20\/0 < u.X.level)
theorem past_set {us:List Pu} {n:Nat} {u u':Pu} (hn:us[n]?=some u) (h:past u=true->past u'=true):((us.filter past).length<=((us.set n u').filter past).length)/\(past u=false->past u'=true->(us.filter past).length+1<=((us.set n u').filter past).length):=by
 induction us generalizing n with
 | nil=>cases hn
 | cons x l ih=>
  cases n with
  | zero=>
   simp only [List.getElem?_cons_zero,Option.some.injEq] at hn
   subst hn
   simp only [sb_,List.filter_cons]
   cases hp:past x<;>cases hq:past u'<;>simp_all
  | succ n=>
   simp only [List.getElem?_cons_succ] at hn
   obtain ⟨h1,h2⟩:=ih hn
   simp only [sc_,List.filter_cons]
   cases hp:past x<;>simp only [Bool.false_eq_true,if_false,if_true,List.length_cons]<;>exact ⟨by omega,λ a b=>by have:=h2 a b;omega⟩
theorem pick14_ {c n:Int} (w:World) (hc:I64 c) (hn:1<=n):Calls Tryz.prog 42 #[iV c,iV n] w λ e w'=>e=.returned (iV (pk c n))/\w=w':=by
 unfold I64 at hc
 obtain ⟨hc1,hc2⟩:=hc
 by_cases h:c < 0
 ·have e:pk c n=(-(c+1)) % n:=by unfold pk;rw [if_pos h]
  have E:=Hd e;clear e
  unfold iV
  change Calls _ _ _ _ (λ e w'=>e=.returned (iV (pk c n))/\w=w')
  go_enter Tryz.func42,Tryz.ntmps42
  go_wp2
  go_ret
  exact ⟨ret_i (by rw [E.out,<-Int.neg_tmod,Int.tmod_eq_emod_of_nonneg (by omega)]),rfl⟩
 ·have e:pk c n=c % n:=by unfold pk;rw [if_neg h]
  have E:=Hd e;clear e
  have h':0<=c:=by omega
  clear h
  unfold iV
  change Calls _ _ _ _ (λ e w'=>e=.returned (iV (pk c n))/\w=w')
  go_enter Tryz.func42,Tryz.ntmps42
  go_wp2
  go_ret
  exact ⟨ret_i E.out.symm,rfl⟩
def fitC (c:Cf):Cf:=⟨1+pk c.nodes 60,2+pk c.leaf 5,3+pk c.inner 4,1+pk c.fill 2,1+pk c.block 8⟩
def cfV (c:Cf):Value:=.agg #[.int .i64 c.nodes,.int .i64 c.leaf,.int .i64 c.inner,.int .i64 c.fill,.int .i64 c.block]
theorem pk_bd {c n:Int} (hn:0 < n):0<=pk c n/\pk c n < n:=by
 unfold pk
 split
 ·exact ⟨Int.emod_nonneg _ (by omega),Int.emod_lt_of_pos _ hn⟩
 ·exact ⟨Int.emod_nonneg _ (by omega),Int.emod_lt_of_pos _ hn⟩
theorem fitC_bd (c:Cf):1<=(fitC c).nodes/\(fitC c).nodes<=60/\2<=(fitC c).leaf/\(fitC c).leaf<=6/\3<=(fitC c).inner/\(fitC c).inner<=6/\1<=(fitC c).fill/\(fitC c).fill<=2/\1<=(fitC c).block/\(fitC c).block<=8:=by
 have h1:=pk_bd (c:=c.nodes) (n:=60) (by decide)
 have h2:=pk_bd (c:=c.leaf) (n:=5) (by decide)
 have h3:=pk_bd (c:=c.inner) (n:=4) (by decide)
 have h4:=pk_bd (c:=c.fill) (n:=2) (by decide)
 have h5:=pk_bd (c:=c.block) (n:=8) (by decide)
 unfold fitC
 simp only
 omega
theorem fit14 (w:World) (c:Cf) (h0:I64 c.nodes) (h1:I64 c.leaf) (h2:I64 c.inner) (h3:I64 c.fill) (h4:I64 c.block) :
  Calls Tryz.prog 53 #[cfV c] w λ e w'=>e=.returned (cfV (fitC c))/\Keeps Nob w w':=by
 have P0:=λ wx=>pick14_ (n:=60) wx h0 (by decide)
 have P1:=λ wx=>pick14_ (n:=5) wx h1 (by decide)
 have P2:=λ wx=>pick14_ (n:=4) wx h2 (by decide)
 have P3:=λ wx=>pick14_ (n:=2) wx h3 (by decide)
 have P4:=λ wx=>pick14_ (n:=8) wx h4 (by decide)
 unfold iV at P0 P1 P2 P3 P4
 unfold cfV fitC
 simp only
 have b0:=pk_bd (c:=c.nodes) (n:=60) (by decide)
 generalize pk c.nodes 60=x0 at P0 b0 ⊢
 generalize c.nodes=y0 at P0 h0 ⊢
 have b1:=pk_bd (c:=c.leaf) (n:=5) (by decide)
 generalize pk c.leaf 5=x1 at P1 b1 ⊢
 generalize c.leaf=y1 at P1 h1 ⊢
 have b2:=pk_bd (c:=c.inner) (n:=4) (by decide)
 generalize pk c.inner 4=x2 at P2 b2 ⊢
 generalize c.inner=y2 at P2 h2 ⊢
 have b3:=pk_bd (c:=c.fill) (n:=2) (by decide)
 generalize pk c.fill 2=x3 at P3 b3 ⊢
 generalize c.fill=y3 at P3 h3 ⊢
 have b4:=pk_bd (c:=c.block) (n:=8) (by decide)
 generalize pk c.block 8=x4 at P4 b4 ⊢
 generalize c.block=y4 at P4 h4 ⊢
 have HP:=Hd (And.intro P0 (And.intro P1 (And.intro P2 (And.intro P3 P4))))
 clear P0 P1 P2 P3 P4 h0 h1 h2 h3 h4 c
 go_enter Tryz.func53,Tryz.ntmps53
 go_wp2_with fail
 obtain ⟨P0,P1,P2,P3,P4⟩:=HP.out
 have e0:IntKind.i64.wrap (1+x0)=1+x0:=IntWalk.i64_in _ (by omega)
 have e1:IntKind.i64.wrap (2+x1)=2+x1:=IntWalk.i64_in _ (by omega)
 have e2:IntKind.i64.wrap (3+x2)=3+x2:=IntWalk.i64_in _ (by omega)
 have e3:IntKind.i64.wrap (1+x3)=1+x3:=IntWalk.i64_in _ (by omega)
 have e4:IntKind.i64.wrap (1+x4)=1+x4:=IntWalk.i64_in _ (by omega)
 refine rC_ [0,1,4,5,8,9,12,13,16,17,2,3,6,7,10,11,14,15,18,19,20,21] 21 (λ W=>W.cell? ⟨w.heap.size,0,none⟩=some (.int .i64 y0)/\W.cell? ⟨w.heap.size,1,none⟩=some (.int .i64 y1)/\W.cell? ⟨w.heap.size,2,none⟩=some (.int .i64 y2)/\W.cell? ⟨w.heap.size,3,none⟩=some (.int .i64 y3)/\W.cell? ⟨w.heap.size,4,none⟩=some (.int .i64 y4)) ?_ ?_
 ·have hb:Blk ((w.alloc (.cells #[.int .i64 y0,.int .i64 y1,.int .i64 y2,.int .i64 y3,.int .i64 y4] 23)).alloc (.cells #[.int .i64 0,.int .i64 0,.int .i64 0,.int .i64 0,.int .i64 0] 23)).drew w.heap.size 23 #[.int .i64 y0,.int .i64 y1,.int .i64 y2,.int .i64 y3,.int .i64 y4]:=((Blk.new w 23 #[.int .i64 y0,.int .i64 y1,.int .i64 y2,.int .i64 y3,.int .i64 y4]).keeps (Keeps.alloc Nob _ _) id).keeps (Keeps.drew Nob _) id
  exact ⟨hb.cell 0,hb.cell 1,hb.cell 2,hb.cell 3,hb.cell 4⟩
 refine canon_at (λ w5 hw=>?_)
 have hb:Blk w5 w.heap.size 23 #[.int .i64 y0,.int .i64 y1,.int .i64 y2,.int .i64 y3,.int .i64 y4]:=by rw [hw];exact ((Blk.new w 23 #[.int .i64 y0,.int .i64 y1,.int .i64 y2,.int .i64 y3,.int .i64 y4]).keeps (Keeps.alloc Nob _ _) id).keeps (Keeps.drew Nob _) id
 have hb2:Blk w5 (w.heap.size+1) 23 #[.int .i64 0,.int .i64 0,.int .i64 0,.int .i64 0,.int .i64 0]:=by rw [hw];exact (Blk.new' (n:=w.heap.size+1) (by simp) _ _).keeps (Keeps.drew Nob _) id
 have hk:Keeps Nob w w5:=by rw [hw];exact ((Keeps.alloc Nob w _).trans (Keeps.alloc Nob _ _) (λ _ _ h=>h)).trans (Keeps.drew Nob _) (λ _ _ h=>h)
 clear hw
 iterate 10
  refine cR_ (v:=?_) rfl ?_ ?_
  rotate_left
  ·intro W hW
   try (obtain ⟨g1,g2,g3,g4,g5⟩:_/\_/\_/\_/\_:=hW)
   go_simp
   try rfl
  simp only [Act.put,sa_,sb_,sc_]
 refine cA_ rfl ?_
 go_wp2_with (go_at_call 42;refine (P0 _).mono ?_;rintro e wk ⟨rfl,rfl⟩)
 refine ⟨.inr ⟨hb.cell 0,hb.cell 1,hb.cell 2,hb.cell 3,hb.cell 4⟩,?_⟩
 iterate 1
  refine cR_ (v:=?_) rfl ?_ ?_
  rotate_left
  ·intro W hW
   try (obtain ⟨g1,g2,g3,g4,g5⟩:_/\_/\_/\_/\_:=hW)
   go_simp
   try rfl
  simp only [Act.put,sa_,sb_,sc_]
 refine cA_ rfl ?_
 go_wp2_with (go_at_call 42;refine (P1 _).mono ?_;rintro e wk ⟨rfl,rfl⟩)
 refine ⟨.inr ⟨hb.cell 0,hb.cell 1,hb.cell 2,hb.cell 3,hb.cell 4⟩,?_⟩
 iterate 1
  refine cR_ (v:=?_) rfl ?_ ?_
  rotate_left
  ·intro W hW
   try (obtain ⟨g1,g2,g3,g4,g5⟩:_/\_/\_/\_/\_:=hW)
   go_simp
   try rfl
  simp only [Act.put,sa_,sb_,sc_]
 refine cA_ rfl ?_
 go_wp2_with (go_at_call 42;refine (P2 _).mono ?_;rintro e wk ⟨rfl,rfl⟩)
 refine ⟨.inr ⟨hb.cell 0,hb.cell 1,hb.cell 2,hb.cell 3,hb.cell 4⟩,?_⟩
 iterate 1
  refine cR_ (v:=?_) rfl ?_ ?_
  rotate_left
  ·intro W hW
   try (obtain ⟨g1,g2,g3,g4,g5⟩:_/\_/\_/\_/\_:=hW)
   go_simp
   try rfl
  simp only [Act.put,sa_,sb_,sc_]
 refine cA_ rfl ?_
 go_wp2_with (go_at_call 42;refine (P3 _).mono ?_;rintro e wk ⟨rfl,rfl⟩)
 refine ⟨.inr ⟨hb.cell 0,hb.cell 1,hb.cell 2,hb.cell 3,hb.cell 4⟩,?_⟩
 iterate 1
  refine cR_ (v:=?_) rfl ?_ ?_
  rotate_left
  ·intro W hW
   try (obtain ⟨g1,g2,g3,g4,g5⟩:_/\_/\_/\_/\_:=hW)
   go_simp
   try rfl
  simp only [Act.put,sa_,sb_,sc_]
 refine cA_ rfl ?_
 go_wp2_with (go_at_call 42;refine (P4 _).mono ?_;rintro e wk ⟨rfl,rfl⟩)
 refine ⟨.inr ⟨hb.cell 0,hb.cell 1,hb.cell 2,hb.cell 3,hb.cell 4⟩,?_⟩
 iterate 2
  refine cR_ (v:=?_) rfl ?_ ?_
  rotate_left
  ·intro W hW
   try (obtain ⟨g1,g2,g3,g4,g5⟩:_/\_/\_/\_/\_:=hW)
   go_simp
   try rfl
  simp only [Act.put,sa_,sb_,sc_]
 refine cA_ rfl ?_
 have u0:=hb2.cell 0
 have u1:=hb2.cell 1
 have u2:=hb2.cell 2
 have u3:=hb2.cell 3
 have u4:=hb2.cell 4
 have uf0:=hb2.frozen 0
 have uf1:=hb2.frozen 1
 have uf2:=hb2.frozen 2
 have uf3:=hb2.frozen 3
 have uf4:=hb2.frozen 4
 go_wp2
 refine ⟨.inl (by kernel_rfl),?_⟩
 refine wpCanon_nil ?_
 go_wp2
 have hz:=(((((hb2.set_ 0 (.int .i64 (1+x0))).set_ 1 (.int .i64 (2+x1))).set_ 2 (.int .i64 (3+x2))).set_ 3 (.int .i64 (1+x3))).set_ 4 (.int .i64 (1+x4)))
 have r0:=hz.cell 0
 have r1:=hz.cell 1
 have r2:=hz.cell 2
 have r3:=hz.cell 3
 have r4:=hz.cell 4
 simp only [sa_,sb_,sc_] at r0 r1 r2 r3 r4
 have hkk:=(((((hk.setCell' (p:=⟨w.heap.size+1,0,none⟩) (λ h=>by have h2:w.heap.size+1 < w.heap.size:=h;omega) (.int .i64 (1+x0))).setCell' (p:=⟨w.heap.size+1,1,none⟩) (λ h=>by have h2:w.heap.size+1 < w.heap.size:=h;omega) (.int .i64 (2+x1))).setCell' (p:=⟨w.heap.size+1,2,none⟩) (λ h=>by have h2:w.heap.size+1 < w.heap.size:=h;omega) (.int .i64 (3+x2))).setCell' (p:=⟨w.heap.size+1,3,none⟩) (λ h=>by have h2:w.heap.size+1 < w.heap.size:=h;omega) (.int .i64 (1+x3))).setCell' (p:=⟨w.heap.size+1,4,none⟩) (λ h=>by have h2:w.heap.size+1 < w.heap.size:=h;omega) (.int .i64 (1+x4)))
 refine bodyPost_ret (v:=.agg #[.int .i64 (1+x0),.int .i64 (2+x1),.int .i64 (3+x2),.int .i64 (1+x3),.int .i64 (1+x4)]) (by simp [results,Tryz.results53,go_sem,r0,r1,r2,r3,r4]) rfl ⟨rfl,hkk⟩
structure Sn14 (w0:World) (S0:Nat->Prop) (C:Cf) (c:Nat) (A:Ar) (us:List Pu) (es:List En):Prop where
 dinv:∃ V lv ls,DInv C.nodes C.leaf C.inner C.fill C.block A V (us.map Pu.X) lv ls (es.map En.e)
 pw:Pw (es.map En.k)
 nx:∀ u ∈ us,u.X.nx<=20/\(u.X.nx=5->0 < u.X.level)
 level:∀ u ∈ us,0<=u.X.level/\u.X.level<=c
 desc:∀ u ∈ us,∀ d,u.X.D=some d->d.le c
 kt:∀ u ∈ us,Byts w0 S0 u.kv u.X.key
 vt:∀ u ∈ us,Byts w0 S0 u.vv u.X.val
 words:WordsLe c A
 len:es.length<=(us.filter past).length
 txt:∀ e ∈ es,Byts w0 S0 e.kv e.k/\Byts w0 S0 e.vv e.v
 puts:us.length<=c
structure Cf14 (C:Cf):Prop where
 ok:confOk C.nodes C.leaf C.inner C.fill C.block=true
 nodes:C.nodes<=65
 leaf:2<=C.leaf/\C.leaf<=6
 inner:3<=C.inner/\C.inner<=6
section
variable {w0:World} {S0:Nat->Prop} {c n:Nat} {A:Ar} {us:List Pu} {es:List En} {C:Cf} {u u':Pu} {key val:List UInt8} {kv vv:Value}
theorem Sn14.idle (h:Sn14 w0 S0 C c A us es) {d:Nat} (hd:c<=d):Sn14 w0 S0 C d A us es:=
 ⟨h.dinv,h.pw,h.nx,λ u hu=>by have:=h.level u hu;omega,λ u hu d' e=>(h.desc u hu d' e).mono hd,h.kt,h.vt,h.words.mono hd,h.len,h.txt,Nat.le_trans h.puts hd⟩
theorem Sn14.ok (h:Sn14 w0 S0 C c A us es) (hu:u ∈ us) (hc:c < 9223372036854775807):POk A u.X:=by
 obtain ⟨V,lv,ls,hD⟩:=h.dinv
 exact hD.inv.ok (List.mem_map.2 ⟨u,hu,rfl⟩) (λ d hd=>(h.desc u hu d hd).low hc) (by have:=h.level u hu;omega)
theorem stepP_level0 {leaf inner:Int} {m:Pm} (hn:m.nx<=20) (h0:0<=m.level):0<=(stepP leaf inner A m).2.2.level:=by
 obtain ⟨⟨_,h⟩,_⟩:=stepP_sh (A:=A) (leaf:=leaf) (inner:=inner) hn
 rcases h with h|h<;>omega
theorem Sn14.put (h:Sn14 w0 S0 C c A us es) (hC:Cf14 C) (hn:us[n]?=some u) (hc:c < 9223372036854775807) (hX:u'.X=(stepP C.leaf C.inner A u.X).2.2) (hk:u'.kv=u.kv) (hv:u'.vv=u.vv) :
  Sn14 w0 S0 C (c+1) (stepP C.leaf C.inner A u.X).2.1 (us.set n u') (map14 C A u es):=by
 have hu:u ∈ us:=List.mem_of_getElem? hn
 obtain ⟨V,lv,ls,hD⟩:=h.dinv
 obtain ⟨n1,n2⟩:=h.nx u hu
 obtain ⟨v1,v2⟩:=h.level u hu
 obtain ⟨⟨s1,s2⟩,s3,s4,_⟩:=stepP_sh (A:=A) (leaf:=C.leaf) (inner:=C.inner) n1
 obtain ⟨k1,k2⟩:=stepP_keeps (A:=A) (leaf:=C.leaf) (inner:=C.inner) (m:=u.X)
 have h0:=h.idle (Nat.le_succ c)
 have hm:(us.map Pu.X)[n]?=some u.X:=by rw [List.getElem?_map,hn];rfl
 have hmm:u.X ∈ us.map Pu.X:=List.mem_map.2 ⟨u,hu,rfl⟩
 obtain ⟨V',lv',ls',es',hD',ht1,ht2⟩:=hD.step hm n1 n2 hC.leaf.1 hC.leaf.2 hC.inner.1 hC.inner.2 (λ s hs=>by have:=h.words s hs;omega) (λ hx hr=>hD.low_ hmm hx (by
  have:=(hD.inv.each _ hmm).2.2.2
  rw [hx] at this;exact this) hr hC.nodes)
 have hpast:past u=true->past u'=true:=by
  unfold past
  rw [hX]
  intro hp
  simp only [decide_eq_true_eq] at hp ⊢
  rcases hp with hp|hp
  ·have e:stepP C.leaf C.inner A u.X=((true,false),A,u.X):=stepP_through hp
   rw [e];exact .inl hp
  ·right
   rcases s2 with s2|s2<;>omega
 obtain ⟨f1,f2⟩:=past_set hn hpast
 have hes:(map14 C A u es).map En.e=es'/\Pw ((map14 C A u es).map En.k):=by
  unfold map14
  by_cases he:eff C.leaf C.inner A u.X
  ·rw [if_pos (show (stepP C.leaf C.inner A u.X).1.2=true/\(stepP C.leaf C.inner A u.X).2.2.out.2=0 from he)]
   exact ⟨put_set hD'.pw h.pw rfl (ht1 he),by rw [setE_eq];exact insX_pw h.pw⟩
  ·rw [if_neg (show ¬((stepP C.leaf C.inner A u.X).1.2=true/\(stepP C.leaf C.inner A u.X).2.2.out.2=0) from he)]
   exact ⟨(ht2 he).symm,h.pw⟩
 have hcase:∀ x,x ∈ us.set n u'->x ∈ us\/x=u':=λ x hx=>List.mem_or_eq_of_mem_set hx
 refine ⟨⟨V',lv',ls',?_⟩,hes.2,λ x hx=>?_,λ x hx=>?_,λ x hx d hd=>?_,λ x hx=>?_,λ x hx=>?_,h.words.step,?_,?_,?_⟩
 ·rw [List.map_set,hX,hes.1];exact hD'
 ·rcases hcase x hx with hx|rfl
  ·exact h.nx x hx
  ·rw [hX];exact ⟨s1,stepP_five v1 n2⟩
 ·rcases hcase x hx with hx|rfl
  ·exact h0.level x hx
  ·rw [hX]
   refine ⟨stepP_level0 n1 v1,?_⟩
   rcases s2 with s2|s2<;>omega
 ·rcases hcase x hx with hx|rfl
  ·exact h0.desc x hx d hd
  ·rw [hX] at hd
   rcases s3 d hd with e|⟨d0,e,rfl⟩|⟨k,l,rfl⟩
   ·exact h0.desc u hu d e
   ·exact (h.desc u hu d0 e).step A
   ·exact Mc.le.new _ _ _
 ·rcases hcase x hx with hx|rfl
  ·exact h.kt x hx
  ·rw [hX,k1,hk];exact h.kt u hu
 ·rcases hcase x hx with hx|rfl
  ·exact h.vt x hx
  ·rw [hX,k2,hv];exact h.vt u hu
 ·unfold map14
  split
  ·rename_i ht
   obtain ⟨l0,l1,l2⟩:=s4 ht.1 ht.2
   have hb:past u=false:=by unfold past;simp only [decide_eq_false_iff_not];omega
   have ha:past u'=true:=by unfold past;rw [hX];simp only [decide_eq_true_eq];rcases l2 with l2|l2<;>omega
   have:=f2 hb ha
   have h5:=setE_len ⟨u.kv,u.vv,u.X.key,u.X.val⟩ es
   have h6:=h.len
   omega
  ·have h6:=h.len
   omega
 ·unfold map14
  split
  ·intro e he
   rcases setE_mem he with rfl|he
   ·exact ⟨h.kt u hu,h.vt u hu⟩
   ·exact h.txt e he
  ·exact h.txt
 ·rw [List.length_set];exact h0.puts
theorem Sn14.new (h:Sn14 w0 S0 C c A us es) (hX:u.X=Pm.new key val) (hkv:u.kv=kv) (hvv:u.vv=vv) (hk:Byts w0 S0 kv key) (hv:Byts w0 S0 vv val):Sn14 w0 S0 C (c+1) A (us++[u]) es:=by
 have h0:=h.idle (Nat.le_succ c)
 obtain ⟨V,lv,ls,hD⟩:=h.dinv
 have hkey:u.X.key=key/\u.X.val=val/\u.X.nx<=1/\u.X.level=0/\∀ d,u.X.D=some d->∃ k l,d=Mc.new k l:=by
  rw [hX]
  unfold Pm.new
  split
  ·exact ⟨rfl,rfl,(by show 1<=1;decide),rfl,λ d hd=>⟨_,_,(Option.some.inj hd).symm⟩⟩
  ·exact ⟨rfl,rfl,(by show 0<=1;decide),rfl,λ d hd=>by cases hd⟩
 obtain ⟨e1,e2,e3,e4,e5⟩:=hkey
 have hm:∀ x,x ∈ us++[u]->x ∈ us\/x=u:=λ x hx=>by simpa using hx
 refine ⟨⟨V,lv,ls,?_⟩,h.pw,λ x hx=>?_,λ x hx=>?_,λ x hx d hd=>?_,λ x hx=>?_,λ x hx=>?_,h0.words,?_,h.txt,?_⟩
 ·rw [List.map_append]
  show DInv _ _ _ _ _ A V (us.map Pu.X++[u.X]) lv ls _
  rw [hX];exact hD.new
 ·rcases hm x hx with hx|rfl
  ·exact h.nx x hx
  ·exact ⟨by omega,λ e=>by omega⟩
 ·rcases hm x hx with hx|rfl
  ·exact h0.level x hx
  ·rw [e4];exact ⟨Int.le_refl _,by omega⟩
 ·rcases hm x hx with hx|rfl
  ·exact h0.desc x hx d hd
  ·obtain ⟨k,l,rfl⟩:=e5 d hd
   exact Mc.le.new _ _ _
 ·rcases hm x hx with hx|rfl
  ·exact h.kt x hx
  ·rw [hkv,e1];exact hk
 ·rcases hm x hx with hx|rfl
  ·exact h.vt x hx
  ·rw [hvv,e2];exact hv
 ·have:=h.len
  rw [List.filter_append,List.length_append];omega
 ·have:=h.puts
  simp;omega
theorem Sn14.start (c:Nat) {k:Nat} (hC:Cf14 C) (hk:(k:Int)=C.nodes):Sn14 w0 S0 C c (ar0 k) [] []:=
 have e {α:Type} {P:α->Prop}:∀ x ∈ ([]:List α),P x:=λ x h=>absurd h List.not_mem_nil
 ⟨⟨_,_,_,DInv.start hC.ok hk⟩,List.Pairwise.nil,e,e,e,e,e,λ s hs=>by rw [show s=⟨0,Nd.zero⟩ from List.mem_singleton.1 hs];exact Nat.zero_le _,Nat.zero_le _,e,Nat.zero_le _⟩
theorem Sn14.sound (h:Sn14 w0 S0 C c A us es) (hC:Cf14 C) (he:∀ s ∈ A.sl,s.word % 2=0):(checkM A C.nodes C.leaf C.inner C.fill C.block).sound=true/\mapOf A=es.map En.e:=by
 obtain ⟨V,lv,ls,hD⟩:=h.dinv
 obtain ⟨h1,h2⟩:=hD.quietly he
 exact ⟨by rw [h1.sound hC.ok],h2⟩
end
theorem cf14_fit (c:Cf):Cf14 (fitC c):=by
 obtain ⟨h1,h2,h3,h4,h5,h6,h7,h8,h9,h10⟩:=fitC_bd c
 refine ⟨?_,by omega,⟨h3,h4⟩,⟨h5,h6⟩⟩
 unfold confOk
 simp only [Bool.and_eq_true,decide_eq_true_eq]
 omega
section
variable {A:Ar} {chk:Nd->Int} {a0 a1 a2 level first id:Int} {low key:List UInt8} {c:Ch} {up:Option Ch} {ts:List Ch}
theorem map_value {lv:Int} {ls:List Ch} {M:Mc} (h:TreeOk A a0 a1 a2 chk lv ls) (hM:∃ ch,ls[(lv-0).toNat]?=some ch/\EndsAt A ch key 0 M):valueM (mapOf A) key=(valOf M.nd key,has M.nd.keys key):=by
 obtain ⟨ch,h1,hE⟩:=hM
 obtain ⟨c,k1,⟨id,k2⟩,k3⟩:=map_of h
 rw [show lv-0=lv by omega] at h1
 rw [h1] at k1;cases k1
 obtain ⟨low,hm,hle⟩:=hE.mem
 have h2:=chn_find h.may hle (opNd_get hE.slot) hE.notb k2 hm
 obtain ⟨c',g1,_⟩:=k2.mem hm
 obtain ⟨s,r,_,hs,hlv,hck,_⟩:=g1.at_
 simp only at hs
 rw [hE.slot] at hs;cases hs
 have hmay:=h.may _ hck
 have hlf:=hmay.leaf hlv
 unfold valueM
 rw [k3,h2,ents_value hmay.rise]
 simp only
 by_cases hh:has M.nd.keys key=true
 ·have hlt:below M.nd.keys key < M.nd.keys.length:=(List.getElem?_eq_some_iff.1 (at_below hmay.rise hh)).1
  rw [if_pos hh]
  simp only
  unfold valOf
  have hlv2:M.nd.vals.length=M.nd.keys.length:=hlf.1
  rw [if_pos ⟨hh,by omega⟩,hh]
 ·rw [if_neg hh]
  simp only
  unfold valOf
  rw [if_neg (λ h=>hh h.1)]
  simp at hh
  rw [hh]
end
end Go.Proofs.YtjcgphhpaenjkaaGreat

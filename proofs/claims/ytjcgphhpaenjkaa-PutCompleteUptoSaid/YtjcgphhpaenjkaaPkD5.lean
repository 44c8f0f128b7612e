import Derived.Test.YtjcgphhpaenjkaaPkD4
set_option maxHeartbeats 64000000
set_option maxRecDepth 100000
set_option linter.unusedVariables false
namespace Go.Proofs.Ytjcgphhpaenjkaa
open Go.RowKit
structure Pu where
 mx:Nat
 dx:Nat
 my:Nat
 dy:Nat
 Sx:Nat->Prop
 Sy:Nat->Prop
 X:Pm
 Y:Pm
 kv:Value
 vv:Value
section
variable {w0 w:World} {b p q i n:Nat} {A B:Ar} {l:List Ob} {us:List Pu} {u:Pu} {C:Cf}
end
def map14 (C:Cf) (A:Ar) (u:Pu) (es:List En):List En:=if (stepP C.leaf C.inner A u.X).1.2=true/\(stepP C.leaf C.inner A u.X).2.2.out.2=0 then setE ⟨u.kv,u.vv,u.X.key,u.X.val⟩ es else es
theorem setL_mem {x:En}:∀ (l:List En) (o:List En × Bool),(∀ e ∈ o.1,e=x\/e ∈ l\/e ∈ o.1)->∀ e ∈ (l.foldl (stepE x) o).1,e=x\/e ∈ l\/e ∈ o.1
 | [],o,_,e,he=>.inr (.inr he)
 | y::l,o,_,e,he=>by
  have h1:=setL_mem l (stepE x o y) (λ e h=>.inr (.inr h)) e he
  rcases h1 with h1|h1|h1
  ·exact .inl h1
  ·exact .inr (.inl (List.mem_cons_of_mem _ h1))
  ·unfold stepE at h1
   have h2:e ∈ o.1\/e=x\/e=y:=by
    by_cases c1:0<=cmp y.k x.k/\o.2=false<;>by_cases c2:cmp y.k x.k≠0<;>simp only [c1,c2,if_true,if_false,List.mem_append,List.mem_singleton,and_self,not_false_iff,ne_eq] at h1<;>(try simp at h1)<;>first|exact .inl h1|exact .inr (.inl h1)|(rcases h1 with (h1|h1)|h1<;>first|exact .inl h1|exact .inr (.inl h1)|exact .inr (.inr h1))|(rcases h1 with h1|h1|h1<;>first|exact .inl h1|exact .inr (.inl h1)|exact .inr (.inr h1))|(rcases h1 with h1|h1<;>first|exact .inl h1|exact .inr (.inl h1)|exact .inr (.inr h1))
   rcases h2 with h2|h2|h2
   ·exact .inr (.inr h2)
   ·exact .inl h2
   ·exact .inr (.inl (by rw [h2];exact List.mem_cons_self))
theorem setE_mem {x e:En} {l:List En} (h:e ∈ setE x l):e=x\/e ∈ l:=by
 have h0:=setL_mem (x:=x) l ([],false) (λ e h=>by cases h) e
 unfold setE setL at h
 split at h
 ·rcases List.mem_append.1 h with h|h
  ·rcases h0 h with h|h|h
   ·exact .inl h
   ·exact .inr h
   ·cases h
  ·exact .inl (by simpa using h)
 ·rcases h0 h with h|h|h
  ·exact .inl h
  ·exact .inr h
  ·cases h
def past (u:Pu):Bool:=decide (u.X.nx=20\/0 < u.X.level)
theorem past_set {us:List Pu} {n:Nat} {u u':Pu} (hn:us[n]?=some u) (h:past u=true->past u'=true):((us.filter past).length<=((us.set n u').filter past).length)/\(past u=false->past u'=true->(us.filter past).length+1<=((us.set n u').filter past).length):=by
 induction us generalizing n with
 | nil=>cases hn
 | cons x l ih=>
  cases n with
  | zero=>
   simp only [List.getElem?_cons_zero,Option.some.injEq] at hn
   subst hn
   simp only [sb_,List.filter_cons]
   cases hp:past x<;>cases hq:past u'<;>simp_all
  | succ n=>
   simp only [List.getElem?_cons_succ] at hn
   obtain ⟨h1,h2⟩:=ih hn
   simp only [sc_,List.filter_cons]
   cases hp:past x<;>simp only [Bool.false_eq_true,if_false,if_true,List.length_cons]<;>exact ⟨by omega,λ a b=>by have:=h2 a b;omega⟩
theorem pick14_ {c n:Int} (w:World) (hc:I64 c) (hn:1<=n):Calls Try.prog 16 #[iV c,iV n] w λ e w'=>e=.returned (iV (pk c n))/\w=w':=by
 unfold I64 at hc
 obtain ⟨hc1,hc2⟩:=hc
 by_cases h:c < 0
 ·have e:pk c n=(-(c+1)) % n:=by unfold pk;rw [if_pos h]
  have E:=Hd e;clear e
  unfold iV
  change Calls _ _ _ _ (λ e w'=>e=.returned (iV (pk c n))/\w=w')
  go_enter Try.func16,Try.ntmps16
  go_wp2
  go_ret
  exact ⟨ret_i (by rw [E.out,<-Int.neg_tmod,Int.tmod_eq_emod_of_nonneg (by omega)]),rfl⟩
 ·have e:pk c n=c % n:=by unfold pk;rw [if_neg h]
  have E:=Hd e;clear e
  have h':0<=c:=by omega
  clear h
  unfold iV
  change Calls _ _ _ _ (λ e w'=>e=.returned (iV (pk c n))/\w=w')
  go_enter Try.func16,Try.ntmps16
  go_wp2
  go_ret
  exact ⟨ret_i E.out.symm,rfl⟩
def fitC (c:Cf):Cf:=⟨1+pk c.nodes 60,2+pk c.leaf 5,3+pk c.inner 4,1+pk c.fill 2,1+pk c.block 8⟩
def cfV (c:Cf):Value:=.agg #[.int .i64 c.nodes,.int .i64 c.leaf,.int .i64 c.inner,.int .i64 c.fill,.int .i64 c.block]
theorem pk_bd {c n:Int} (hn:0 < n):0<=pk c n/\pk c n < n:=by
 unfold pk
 split
 ·exact ⟨Int.emod_nonneg _ (by omega),Int.emod_lt_of_pos _ hn⟩
 ·exact ⟨Int.emod_nonneg _ (by omega),Int.emod_lt_of_pos _ hn⟩
theorem fitC_bd (c:Cf):1<=(fitC c).nodes/\(fitC c).nodes<=60/\2<=(fitC c).leaf/\(fitC c).leaf<=6/\3<=(fitC c).inner/\(fitC c).inner<=6/\1<=(fitC c).fill/\(fitC c).fill<=2/\1<=(fitC c).block/\(fitC c).block<=8:=by
 have h1:=pk_bd (c:=c.nodes) (n:=60) (by decide)
 have h2:=pk_bd (c:=c.leaf) (n:=5) (by decide)
 have h3:=pk_bd (c:=c.inner) (n:=4) (by decide)
 have h4:=pk_bd (c:=c.fill) (n:=2) (by decide)
 have h5:=pk_bd (c:=c.block) (n:=8) (by decide)
 unfold fitC
 simp only
 omega
theorem fit14 (w:World) (c:Cf) (h0:I64 c.nodes) (h1:I64 c.leaf) (h2:I64 c.inner) (h3:I64 c.fill) (h4:I64 c.block) :
  Calls Try.prog 6 #[cfV c] w λ e w'=>e=.returned (cfV (fitC c))/\Keeps Nob w w':=by
 have P0:=λ wx=>pick14_ (n:=60) wx h0 (by decide)
 have P1:=λ wx=>pick14_ (n:=5) wx h1 (by decide)
 have P2:=λ wx=>pick14_ (n:=4) wx h2 (by decide)
 have P3:=λ wx=>pick14_ (n:=2) wx h3 (by decide)
 have P4:=λ wx=>pick14_ (n:=8) wx h4 (by decide)
 unfold iV at P0 P1 P2 P3 P4
 unfold cfV fitC
 simp only
 have b0:=pk_bd (c:=c.nodes) (n:=60) (by decide)
 generalize pk c.nodes 60=x0 at P0 b0 ⊢
 generalize c.nodes=y0 at P0 h0 ⊢
 have b1:=pk_bd (c:=c.leaf) (n:=5) (by decide)
 generalize pk c.leaf 5=x1 at P1 b1 ⊢
 generalize c.leaf=y1 at P1 h1 ⊢
 have b2:=pk_bd (c:=c.inner) (n:=4) (by decide)
 generalize pk c.inner 4=x2 at P2 b2 ⊢
 generalize c.inner=y2 at P2 h2 ⊢
 have b3:=pk_bd (c:=c.fill) (n:=2) (by decide)
 generalize pk c.fill 2=x3 at P3 b3 ⊢
 generalize c.fill=y3 at P3 h3 ⊢
 have b4:=pk_bd (c:=c.block) (n:=8) (by decide)
 generalize pk c.block 8=x4 at P4 b4 ⊢
 generalize c.block=y4 at P4 h4 ⊢
 have HP:=Hd (And.intro P0 (And.intro P1 (And.intro P2 (And.intro P3 P4))))
 clear P0 P1 P2 P3 P4 h0 h1 h2 h3 h4 c
 go_enter Try.func6,Try.ntmps6
 go_wp2_with fail
 obtain ⟨P0,P1,P2,P3,P4⟩:=HP.out
 have e0:IntKind.i64.wrap (1+x0)=1+x0:=IntWalk.i64_in _ (by omega)
 have e1:IntKind.i64.wrap (2+x1)=2+x1:=IntWalk.i64_in _ (by omega)
 have e2:IntKind.i64.wrap (3+x2)=3+x2:=IntWalk.i64_in _ (by omega)
 have e3:IntKind.i64.wrap (1+x3)=1+x3:=IntWalk.i64_in _ (by omega)
 have e4:IntKind.i64.wrap (1+x4)=1+x4:=IntWalk.i64_in _ (by omega)
 refine rC_ [0,1,4,5,8,9,12,13,16,17,2,3,6,7,10,11,14,15,18,19,20,21] 21 (λ W=>W.cell? ⟨w.heap.size,0,none⟩=some (.int .i64 y0)/\W.cell? ⟨w.heap.size,1,none⟩=some (.int .i64 y1)/\W.cell? ⟨w.heap.size,2,none⟩=some (.int .i64 y2)/\W.cell? ⟨w.heap.size,3,none⟩=some (.int .i64 y3)/\W.cell? ⟨w.heap.size,4,none⟩=some (.int .i64 y4)) ?_ ?_
 ·have hb:Blk ((w.alloc (.cells #[.int .i64 y0,.int .i64 y1,.int .i64 y2,.int .i64 y3,.int .i64 y4] 23)).alloc (.cells #[.int .i64 0,.int .i64 0,.int .i64 0,.int .i64 0,.int .i64 0] 23)).drew w.heap.size 23 #[.int .i64 y0,.int .i64 y1,.int .i64 y2,.int .i64 y3,.int .i64 y4]:=((Blk.new w 23 #[.int .i64 y0,.int .i64 y1,.int .i64 y2,.int .i64 y3,.int .i64 y4]).keeps (Keeps.alloc Nob _ _) id).keeps (Keeps.drew Nob _) id
  exact ⟨hb.cell 0,hb.cell 1,hb.cell 2,hb.cell 3,hb.cell 4⟩
 refine canon_at (λ w5 hw=>?_)
 have hb:Blk w5 w.heap.size 23 #[.int .i64 y0,.int .i64 y1,.int .i64 y2,.int .i64 y3,.int .i64 y4]:=by rw [hw];exact ((Blk.new w 23 #[.int .i64 y0,.int .i64 y1,.int .i64 y2,.int .i64 y3,.int .i64 y4]).keeps (Keeps.alloc Nob _ _) id).keeps (Keeps.drew Nob _) id
 have hb2:Blk w5 (w.heap.size+1) 23 #[.int .i64 0,.int .i64 0,.int .i64 0,.int .i64 0,.int .i64 0]:=by rw [hw];exact (Blk.new' (n:=w.heap.size+1) (by simp) _ _).keeps (Keeps.drew Nob _) id
 have hk:Keeps Nob w w5:=by rw [hw];exact ((Keeps.alloc Nob w _).trans (Keeps.alloc Nob _ _) (λ _ _ h=>h)).trans (Keeps.drew Nob _) (λ _ _ h=>h)
 clear hw
 iterate 10
  refine cR_ (v:=?_) rfl ?_ ?_
  rotate_left
  ·intro W hW
   try (obtain ⟨g1,g2,g3,g4,g5⟩:_/\_/\_/\_/\_:=hW)
   go_simp
   try rfl
  simp only [Act.put,sa_,sb_,sc_]
 refine cA_ rfl ?_
 go_wp2_with (go_at_call 16;refine (P0 _).mono ?_;rintro e wk ⟨rfl,rfl⟩)
 refine ⟨.inr ⟨hb.cell 0,hb.cell 1,hb.cell 2,hb.cell 3,hb.cell 4⟩,?_⟩
 iterate 1
  refine cR_ (v:=?_) rfl ?_ ?_
  rotate_left
  ·intro W hW
   try (obtain ⟨g1,g2,g3,g4,g5⟩:_/\_/\_/\_/\_:=hW)
   go_simp
   try rfl
  simp only [Act.put,sa_,sb_,sc_]
 refine cA_ rfl ?_
 go_wp2_with (go_at_call 16;refine (P1 _).mono ?_;rintro e wk ⟨rfl,rfl⟩)
 refine ⟨.inr ⟨hb.cell 0,hb.cell 1,hb.cell 2,hb.cell 3,hb.cell 4⟩,?_⟩
 iterate 1
  refine cR_ (v:=?_) rfl ?_ ?_
  rotate_left
  ·intro W hW
   try (obtain ⟨g1,g2,g3,g4,g5⟩:_/\_/\_/\_/\_:=hW)
   go_simp
   try rfl
  simp only [Act.put,sa_,sb_,sc_]
 refine cA_ rfl ?_
 go_wp2_with (go_at_call 16;refine (P2 _).mono ?_;rintro e wk ⟨rfl,rfl⟩)
 refine ⟨.inr ⟨hb.cell 0,hb.cell 1,hb.cell 2,hb.cell 3,hb.cell 4⟩,?_⟩
 iterate 1
  refine cR_ (v:=?_) rfl ?_ ?_
  rotate_left
  ·intro W hW
   try (obtain ⟨g1,g2,g3,g4,g5⟩:_/\_/\_/\_/\_:=hW)
   go_simp
   try rfl
  simp only [Act.put,sa_,sb_,sc_]
 refine cA_ rfl ?_
 go_wp2_with (go_at_call 16;refine (P3 _).mono ?_;rintro e wk ⟨rfl,rfl⟩)
 refine ⟨.inr ⟨hb.cell 0,hb.cell 1,hb.cell 2,hb.cell 3,hb.cell 4⟩,?_⟩
 iterate 1
  refine cR_ (v:=?_) rfl ?_ ?_
  rotate_left
  ·intro W hW
   try (obtain ⟨g1,g2,g3,g4,g5⟩:_/\_/\_/\_/\_:=hW)
   go_simp
   try rfl
  simp only [Act.put,sa_,sb_,sc_]
 refine cA_ rfl ?_
 go_wp2_with (go_at_call 16;refine (P4 _).mono ?_;rintro e wk ⟨rfl,rfl⟩)
 refine ⟨.inr ⟨hb.cell 0,hb.cell 1,hb.cell 2,hb.cell 3,hb.cell 4⟩,?_⟩
 iterate 2
  refine cR_ (v:=?_) rfl ?_ ?_
  rotate_left
  ·intro W hW
   try (obtain ⟨g1,g2,g3,g4,g5⟩:_/\_/\_/\_/\_:=hW)
   go_simp
   try rfl
  simp only [Act.put,sa_,sb_,sc_]
 refine cA_ rfl ?_
 have u0:=hb2.cell 0
 have u1:=hb2.cell 1
 have u2:=hb2.cell 2
 have u3:=hb2.cell 3
 have u4:=hb2.cell 4
 have uf0:=hb2.frozen 0
 have uf1:=hb2.frozen 1
 have uf2:=hb2.frozen 2
 have uf3:=hb2.frozen 3
 have uf4:=hb2.frozen 4
 go_wp2
 refine ⟨.inl (by kernel_rfl),?_⟩
 refine wpCanon_nil ?_
 go_wp2
 have hz:=(((((hb2.set_ 0 (.int .i64 (1+x0))).set_ 1 (.int .i64 (2+x1))).set_ 2 (.int .i64 (3+x2))).set_ 3 (.int .i64 (1+x3))).set_ 4 (.int .i64 (1+x4)))
 have r0:=hz.cell 0
 have r1:=hz.cell 1
 have r2:=hz.cell 2
 have r3:=hz.cell 3
 have r4:=hz.cell 4
 simp only [sa_,sb_,sc_] at r0 r1 r2 r3 r4
 have hkk:=(((((hk.setCell' (p:=⟨w.heap.size+1,0,none⟩) (λ h=>by have h2:w.heap.size+1 < w.heap.size:=h;omega) (.int .i64 (1+x0))).setCell' (p:=⟨w.heap.size+1,1,none⟩) (λ h=>by have h2:w.heap.size+1 < w.heap.size:=h;omega) (.int .i64 (2+x1))).setCell' (p:=⟨w.heap.size+1,2,none⟩) (λ h=>by have h2:w.heap.size+1 < w.heap.size:=h;omega) (.int .i64 (3+x2))).setCell' (p:=⟨w.heap.size+1,3,none⟩) (λ h=>by have h2:w.heap.size+1 < w.heap.size:=h;omega) (.int .i64 (1+x3))).setCell' (p:=⟨w.heap.size+1,4,none⟩) (λ h=>by have h2:w.heap.size+1 < w.heap.size:=h;omega) (.int .i64 (1+x4)))
 refine bodyPost_ret (v:=.agg #[.int .i64 (1+x0),.int .i64 (2+x1),.int .i64 (3+x2),.int .i64 (1+x3),.int .i64 (1+x4)]) (by simp [results,Try.results6,go_sem,r0,r1,r2,r3,r4]) rfl ⟨rfl,hkk⟩
structure Sn14 (w0:World) (S0:Nat->Prop) (C:Cf) (c:Nat) (A:Ar) (us:List Pu) (es:List En):Prop where
 dinv:∃ V lv ls,DInv C.nodes C.leaf C.inner C.fill C.block A V (us.map Pu.X) lv ls (es.map En.e)
 pw:Pw (es.map En.k)
 nx:∀ u ∈ us,u.X.nx<=20/\(u.X.nx=5->0 < u.X.level)
 level:∀ u ∈ us,0<=u.X.level/\u.X.level<=c
 desc:∀ u ∈ us,∀ d,u.X.D=some d->d.le c
 kt:∀ u ∈ us,Byts w0 S0 u.kv u.X.key
 vt:∀ u ∈ us,Byts w0 S0 u.vv u.X.val
 words:WordsLe c A
 len:es.length<=(us.filter past).length
 txt:∀ e ∈ es,Byts w0 S0 e.kv e.k/\Byts w0 S0 e.vv e.v
 puts:us.length<=c
section
variable {w0:World} {S0:Nat->Prop} {c n:Nat} {A:Ar} {us:List Pu} {es:List En} {C:Cf} {u u':Pu} {key val:List UInt8} {kv vv:Value}
theorem Sn14.idle (h:Sn14 w0 S0 C c A us es) {d:Nat} (hd:c<=d):Sn14 w0 S0 C d A us es:=
 ⟨h.dinv,h.pw,h.nx,λ u hu=>by have:=h.level u hu;omega,λ u hu d' e=>(h.desc u hu d' e).mono hd,h.kt,h.vt,h.words.mono hd,h.len,h.txt,Nat.le_trans h.puts hd⟩
theorem Sn14.ok (h:Sn14 w0 S0 C c A us es) (hu:u ∈ us) (hc:c < 9223372036854775807):POk A u.X:=by
 obtain ⟨V,lv,ls,hD⟩:=h.dinv
 exact hD.inv.ok (List.mem_map.2 ⟨u,hu,rfl⟩) (λ d hd=>(h.desc u hu d hd).low hc) (by have:=h.level u hu;omega)
theorem stepP_level0 {leaf inner:Int} {m:Pm} (hn:m.nx<=20) (h0:0<=m.level):0<=(stepP leaf inner A m).2.2.level:=by
 obtain ⟨⟨_,h⟩,_⟩:=stepP_sh (A:=A) (leaf:=leaf) (inner:=inner) hn
 rcases h with h|h<;>omega
theorem Sn14.put_ (h:Sn14 w0 S0 C c A us es) (hL:2<=C.leaf/\C.leaf<=6) (hI:3<=C.inner/\C.inner<=6) (hlow:∀ V lv ls,DInv C.nodes C.leaf C.inner C.fill C.block A V (us.map Pu.X) lv ls (es.map En.e)->u.X.nx=19->0 < u.X.level->A.root=u.X.side->lv+1<=32) (hn:us[n]?=some u) (hc:c < 9223372036854775807) (hX:u'.X=(stepP C.leaf C.inner A u.X).2.2) (hk:u'.kv=u.kv) (hv:u'.vv=u.vv) :
  Sn14 w0 S0 C (c+1) (stepP C.leaf C.inner A u.X).2.1 (us.set n u') (map14 C A u es):=by
 have hu:u ∈ us:=List.mem_of_getElem? hn
 obtain ⟨V,lv,ls,hD⟩:=h.dinv
 obtain ⟨n1,n2⟩:=h.nx u hu
 obtain ⟨v1,v2⟩:=h.level u hu
 obtain ⟨⟨s1,s2⟩,s3,s4,_⟩:=stepP_sh (A:=A) (leaf:=C.leaf) (inner:=C.inner) n1
 obtain ⟨k1,k2⟩:=stepP_keeps (A:=A) (leaf:=C.leaf) (inner:=C.inner) (m:=u.X)
 have h0:=h.idle (Nat.le_succ c)
 have hm:(us.map Pu.X)[n]?=some u.X:=by rw [List.getElem?_map,hn];rfl
 have hmm:u.X ∈ us.map Pu.X:=List.mem_map.2 ⟨u,hu,rfl⟩
 obtain ⟨V',lv',ls',es',hD',_,ht1,ht2⟩:=hD.step hm n1 n2 hL.1 hL.2 hI.1 hI.2 (λ s hs=>by have:=h.words s hs;omega) (λ hx hr=>hlow V lv ls hD hx (by
  have:=(hD.inv.each _ hmm).2.2.2
  rw [hx] at this;exact this) hr)
 have hpast:past u=true->past u'=true:=by
  unfold past
  rw [hX]
  intro hp
  simp only [decide_eq_true_eq] at hp ⊢
  rcases hp with hp|hp
  ·have e:stepP C.leaf C.inner A u.X=((true,false),A,u.X):=stepP_through hp
   rw [e];exact .inl hp
  ·right
   rcases s2 with s2|s2<;>omega
 obtain ⟨f1,f2⟩:=past_set hn hpast
 have hes:(map14 C A u es).map En.e=es'/\Pw ((map14 C A u es).map En.k):=by
  unfold map14
  by_cases he:eff C.leaf C.inner A u.X
  ·rw [if_pos (show (stepP C.leaf C.inner A u.X).1.2=true/\(stepP C.leaf C.inner A u.X).2.2.out.2=0 from he)]
   exact ⟨put_set hD'.pw h.pw rfl (ht1 he),by rw [setE_eq];exact insX_pw h.pw⟩
  ·rw [if_neg (show ¬((stepP C.leaf C.inner A u.X).1.2=true/\(stepP C.leaf C.inner A u.X).2.2.out.2=0) from he)]
   exact ⟨(ht2 he).symm,h.pw⟩
 have hcase:∀ x,x ∈ us.set n u'->x ∈ us\/x=u':=λ x hx=>List.mem_or_eq_of_mem_set hx
 refine ⟨⟨V',lv',ls',?_⟩,hes.2,λ x hx=>?_,λ x hx=>?_,λ x hx d hd=>?_,λ x hx=>?_,λ x hx=>?_,h.words.step,?_,?_,?_⟩
 ·rw [List.map_set,hX,hes.1];exact hD'
 ·rcases hcase x hx with hx|rfl
  ·exact h.nx x hx
  ·rw [hX];exact ⟨s1,stepP_five v1 n2⟩
 ·rcases hcase x hx with hx|rfl
  ·exact h0.level x hx
  ·rw [hX]
   refine ⟨stepP_level0 n1 v1,?_⟩
   rcases s2 with s2|s2<;>omega
 ·rcases hcase x hx with hx|rfl
  ·exact h0.desc x hx d hd
  ·rw [hX] at hd
   rcases s3 d hd with e|⟨d0,e,rfl⟩|⟨k,l,rfl⟩
   ·exact h0.desc u hu d e
   ·exact (h.desc u hu d0 e).step A
   ·exact Mc.le.new _ _ _
 ·rcases hcase x hx with hx|rfl
  ·exact h.kt x hx
  ·rw [hX,k1,hk];exact h.kt u hu
 ·rcases hcase x hx with hx|rfl
  ·exact h.vt x hx
  ·rw [hX,k2,hv];exact h.vt u hu
 ·unfold map14
  split
  ·rename_i ht
   obtain ⟨l0,l1,l2⟩:=s4 ht.1 ht.2
   have hb:past u=false:=by unfold past;simp only [decide_eq_false_iff_not];omega
   have ha:past u'=true:=by unfold past;rw [hX];simp only [decide_eq_true_eq];rcases l2 with l2|l2<;>omega
   have:=f2 hb ha
   have h5:=setE_len ⟨u.kv,u.vv,u.X.key,u.X.val⟩ es
   have h6:=h.len
   omega
  ·have h6:=h.len
   omega
 ·unfold map14
  split
  ·intro e he
   rcases setE_mem he with rfl|he
   ·exact ⟨h.kt u hu,h.vt u hu⟩
   ·exact h.txt e he
  ·exact h.txt
 ·rw [List.length_set];exact h0.puts
theorem Sn14.new (h:Sn14 w0 S0 C c A us es) (hX:u.X=Pm.new key val) (hkv:u.kv=kv) (hvv:u.vv=vv) (hk:Byts w0 S0 kv key) (hv:Byts w0 S0 vv val):Sn14 w0 S0 C (c+1) A (us++[u]) es:=by
 have h0:=h.idle (Nat.le_succ c)
 obtain ⟨V,lv,ls,hD⟩:=h.dinv
 have hkey:u.X.key=key/\u.X.val=val/\u.X.nx<=1/\u.X.level=0/\∀ d,u.X.D=some d->∃ k l,d=Mc.new k l:=by
  rw [hX]
  unfold Pm.new
  split
  ·exact ⟨rfl,rfl,(by show 1<=1;decide),rfl,λ d hd=>⟨_,_,(Option.some.inj hd).symm⟩⟩
  ·exact ⟨rfl,rfl,(by show 0<=1;decide),rfl,λ d hd=>by cases hd⟩
 obtain ⟨e1,e2,e3,e4,e5⟩:=hkey
 have hm:∀ x,x ∈ us++[u]->x ∈ us\/x=u:=λ x hx=>by simpa using hx
 refine ⟨⟨V,lv,ls,?_⟩,h.pw,λ x hx=>?_,λ x hx=>?_,λ x hx d hd=>?_,λ x hx=>?_,λ x hx=>?_,h0.words,?_,h.txt,?_⟩
 ·rw [List.map_append]
  show DInv _ _ _ _ _ A V (us.map Pu.X++[u.X]) lv ls _
  rw [hX];exact hD.new
 ·rcases hm x hx with hx|rfl
  ·exact h.nx x hx
  ·exact ⟨by omega,λ e=>by omega⟩
 ·rcases hm x hx with hx|rfl
  ·exact h0.level x hx
  ·rw [e4];exact ⟨Int.le_refl _,by omega⟩
 ·rcases hm x hx with hx|rfl
  ·exact h0.desc x hx d hd
  ·obtain ⟨k,l,rfl⟩:=e5 d hd
   exact Mc.le.new _ _ _
 ·rcases hm x hx with hx|rfl
  ·exact h.kt x hx
  ·rw [hkv,e1];exact hk
 ·rcases hm x hx with hx|rfl
  ·exact h.vt x hx
  ·rw [hvv,e2];exact hv
 ·have:=h.len
  rw [List.filter_append,List.length_append];omega
 ·have:=h.puts
  simp;omega
end
section
variable {A:Ar} {chk:Nd->Int} {a0 a1 a2 level first id:Int} {low key:List UInt8} {c:Ch} {up:Option Ch} {ts:List Ch}
theorem map_value {lv:Int} {ls:List Ch} {M:Mc} (h:TreeOk A a0 a1 a2 chk lv ls) (hM:∃ ch,ls[(lv-0).toNat]?=some ch/\EndsAt A ch key 0 M):valueM (mapOf A) key=(valOf M.nd key,has M.nd.keys key):=by
 obtain ⟨ch,h1,hE⟩:=hM
 obtain ⟨c,k1,⟨id,k2⟩,k3⟩:=map_of h
 rw [show lv-0=lv by omega] at h1
 rw [h1] at k1;cases k1
 obtain ⟨low,hm,hle⟩:=hE.mem
 have h2:=chn_find h.may hle (opNd_get hE.slot) hE.notb k2 hm
 obtain ⟨c',g1,_⟩:=k2.mem hm
 obtain ⟨s,r,_,hs,hlv,hck,_⟩:=g1.at_
 simp only at hs
 rw [hE.slot] at hs;cases hs
 have hmay:=h.may _ hck
 have hlf:=hmay.leaf hlv
 unfold valueM
 rw [k3,h2,ents_value hmay.rise]
 simp only
 by_cases hh:has M.nd.keys key=true
 ·have hlt:below M.nd.keys key < M.nd.keys.length:=(List.getElem?_eq_some_iff.1 (at_below hmay.rise hh)).1
  rw [if_pos hh]
  simp only
  unfold valOf
  have hlv2:M.nd.vals.length=M.nd.keys.length:=hlf.1
  rw [if_pos ⟨hh,by omega⟩,hh]
 ·rw [if_neg hh]
  simp only
  unfold valOf
  rw [if_neg (λ h=>hh h.1)]
  simp at hh
  rw [hh]
end
def hasE (es:List En) (key:List UInt8):Bool:=es.any (λ e=>e.k==key)
theorem hasE_value {key:List UInt8}:∀ (es:List En),(valueM (es.map En.e) key).2=hasE es key:=by
 intro es
 unfold valueM hasE
 induction es with
 | nil=>rfl
 | cons e es ih=>
  rw [List.map_cons,List.find?_cons,List.any_cons]
  have e1:(e.e.1==key)=(e.k==key):=rfl
  rw [e1]
  cases he:e.k==key with
  | true=>rfl
  | false=>rw [Bool.false_or];exact ih
def Endy (r:Int->Nat) (leaf:Int) (A:Ar) (es:List En) (level:Int) (sep:List UInt8) (M:Mc) (tail:Nat):Prop:=
 (M.there=false/\6<=tail/\0 < level)\/(M.there=true/\A.get M.id=some ⟨M.word,M.nd⟩/\8+r (level+1)<=tail/\(level=0->M.nd.lvl=0/\(M.nd.keys.length:Int)<=leaf/\has M.nd.keys sep=hasE es sep))
def Bud (r:Int->Nat) (leaf:Int) (B:Nat) (A:Ar) (m:Pm) (es:List En):Prop:=match m.nx with
 | 0=>1<=B
 | 1=>∃ i S tail:Nat,m.D=some (runM A i (Mc.new m.sep m.level))/\i < S/\(S-i)+tail<=B/\(runM A S (Mc.new m.sep m.level)).nx=.done/\(∀ k,k < S->(runM A k (Mc.new m.sep m.level)).nx≠.done)/\Endy r leaf A es m.level m.sep (runM A S (Mc.new m.sep m.level)) tail
 | 2=>8+r (m.level+1)<=B/\A.get m.id=some ⟨m.word,m.old⟩/\(m.level=0->m.old.lvl=0/\(m.old.keys.length:Int)<=leaf/\has m.old.keys m.sep=hasE es m.sep)
 | 3=>2<=B
 | 4=>1<=B
 | 5=>1<=B
 | 6=>7+r (m.level+1)<=B
 | 7=>1<=B
 | 8=>6+r (m.level+1)<=B
 | 9=>5+r (m.level+1)<=B
 | 10=>4+r (m.level+1)<=B
 | 11=>3+r (m.level+1)<=B
 | 12=>2+r (m.level+1)<=B
 | 13=>1+r (m.level+1)<=B
 | 14=>6<=B
 | 15=>5<=B/\A.root=m.side
 | 16=>4<=B/\A.root=m.side
 | 17=>3<=B/\A.root=m.side
 | 18=>2<=B/\A.root=m.side
 | 19=>1<=B/\A.root=m.side
 | _=>True
def Rst (r:Int->Nat) (C:Cf) (A:Ar) (level:Int):Prop:=∀ lv ls,TreeOk A C.nodes C.leaf C.inner (chkM C.nodes C.leaf C.inner C.fill C.block) lv ls->(∀ c ∈ ls,∀ e ∈ c,Two (opNd A e.1))->0<=level->level<=lv+1->(if level=lv+1 then 5 else 1+4*(ls.take (lv-level+1).toNat).flatten.length)+(if level=lv+1 then 6 else 8+r (level+1))<=r level
section
variable {r:Int->Nat} {w0:World} {S0:Nat->Prop} {C:Cf} {c B:Nat} {A:Ar} {us:List Pu} {es:List En} {u:Pu} {m:Pm}
theorem FreeOk.even (h:FreeOk A m) (hno:m.holds=[]):∀ s ∈ A.sl,s.word % 2=0:=λ s hs=>by
 obtain ⟨i,hi⟩:=List.mem_iff_getElem?.1 hs
 refine (h.free ((i:Int)+1) s ?_ (by rw [hno];exact List.not_mem_nil)).1
 unfold Ar.get
 rw [if_pos (by omega),show ((i:Int)+1-1).toNat=i by omega]
 exact hi
theorem Sn14.quiet (h:Sn14 w0 S0 C c A us es) (he:∀ s ∈ A.sl,s.word % 2=0):∃ lv ls,TreeOk A C.nodes C.leaf C.inner (chkM C.nodes C.leaf C.inner C.fill C.block) lv ls/\mapOf A=es.map En.e/\(∀ u ∈ us,u.X.live->u.X.level<=lv+1)/\A.sl.length<=C.nodes:=by
 obtain ⟨V,lv,ls,hD⟩:=h.dinv
 obtain ⟨h1,h2⟩:=hD.quietly he
 refine ⟨lv,ls,h1,h2,λ u hu hl=>?_,by have:=hD.room;omega⟩
 have hmm:u.X ∈ us.map Pu.X:=List.mem_map.2 ⟨u,hu,rfl⟩
 have hE:=hD.each _ hmm
 have hk:=hE.key hl
 have h0:=h1.lv0
 rcases Int.lt_or_le 0 u.X.level with hp|hp
 ·obtain ⟨j,c',hj,hlv,_⟩:=(hE.pend hl hp).half
  omega
 ·omega
theorem Bud.start (h:Sn14 w0 S0 C c A us es) (hr:Rst r C A u.X.level) (hu:u ∈ us) (hf:FreeOk A u.X) (hx:u.X.nx=1) (hd:u.X.D=some (Mc.new u.X.sep u.X.level)) (h0:0<=u.X.level):Bud r C.leaf (r u.X.level) A u.X es:=by
 obtain ⟨lv,ls,hT,hm,hlev,hlen⟩:=h.quiet (hf.even (holds_no (.inl (by omega))))
 have hl:=hlev u hu ⟨by omega,by omega⟩
 have hno:u.X.holds=[]:=holds_no (.inl (by omega))
 have two:∀ c ∈ ls,∀ e ∈ c,Two (opNd A e.1):=λ c hc e he=>by
  unfold opNd
  cases hg:A.get e.1 with
  | none=>exact λ hh=>absurd rfl hh
  | some s=>exact (hf.free e.1 s hg (by rw [hno];exact List.not_mem_nil)).2
 have hrest:=hr lv ls hT two h0 hl
 obtain ⟨S,s1,s2,⟨s3,s4⟩,s5⟩:=(alone_n (key:=u.X.sep) hT h0 hl).fin
 have hS:0 < S:=by
  rcases Nat.eq_zero_or_pos S with hz|hz
  ·subst hz;exact absurd s2 (λ h=>nomatch h)
  ·exact hz
 unfold Bud
 rw [hx]
 refine ⟨0,S,if u.X.level=lv+1 then 6 else 8+r (u.X.level+1),hd,hS,by omega,s2,λ k hk=>(s5 k hk).1,?_⟩
 have hlv:=hT.lv0
 by_cases he:u.X.level=lv+1
 ·rw [if_pos he]
  exact .inl ⟨s3 he,Nat.le_refl _,by omega⟩
 ·rw [if_neg he]
  obtain ⟨ch,hch,hE⟩:=s4 (by omega)
  refine .inr ⟨hE.there,hE.slot,Nat.le_refl _,λ hz=>?_⟩
  rw [hz] at hE hch ⊢
  refine ⟨hE.lvl,?_,?_⟩
  ·obtain ⟨lw,hmem,_⟩:=hE.mem
   obtain ⟨c2,k1,⟨id,k2⟩,_⟩:=map_of hT
   rw [show lv-0=lv by omega,k1] at hch
   injection hch with hch
   subst hch
   obtain ⟨c3,k3,_⟩:=k2.mem hmem
   obtain ⟨s,_,_,g1,_,g3,_⟩:=k3.at_
   rw [hE.slot] at g1
   injection g1 with g1
   subst g1
   exact ((hT.may _ g3).leaf hE.lvl).2.1
  ·have:=map_value (key:=u.X.sep) hT ⟨ch,hch,hE⟩
   rw [hm] at this
   rw [<-hasE_value,this]
end
end Go.Proofs.Ytjcgphhpaenjkaa

import Derived.Test.YtjcgphhpaenjkaaPkC2
set_option maxHeartbeats 64000000
set_option maxRecDepth 100000
set_option linter.unusedVariables false
namespace Go.Proofs.Ytjcgphhpaenjkaa
open Go.RowKit
section
variable {x y:En} {l o:List En} {k key val:List UInt8} {es es':List Ent} {A V:Ar} {a0 a1 a2 level id lv:Int} {low:List UInt8} {c:Ch} {ls:List Ch} {chk:Nd->Int}
def insX (x:En):List En->List En
 | []=>[x]
 | y::l=>if cmp y.k x.k < 0 then y::insX x l else x::(y::l).filter (λ e=>decide (cmp e.k x.k≠0))
theorem set_true:∀ (l o:List En),l.foldl (stepE x) (o,true)=(o++l.filter (λ e=>decide (cmp e.k x.k≠0)),true)
 | [],o=>by simp
 | y::l,o=>by
  rw [List.foldl_cons,List.filter_cons]
  have hs:stepE x (o,true) y=(if cmp y.k x.k≠0 then (o++[y],true) else (o,true)):=by
   unfold stepE
   rw [if_neg (show ¬(0<=cmp y.k x.k/\(o,true).2=false) by simp)]
  rw [hs]
  by_cases h:cmp y.k x.k≠0
  ·rw [if_pos h,set_true l,if_pos (by simpa using h),List.append_assoc];rfl
  ·rw [if_neg h,set_true l,if_neg (by simpa using h)]
def finE (x:En) (r:List En × Bool):List En:=if r.2=false then r.1++[x] else r.1
theorem set_false:∀ (l o:List En),finE x (l.foldl (stepE x) (o,false))=o++insX x l
 | [],o=>by simp [finE,insX]
 | y::l,o=>by
  rw [List.foldl_cons]
  unfold insX
  by_cases h:cmp y.k x.k < 0
  ·have hs:stepE x (o,false) y=(o++[y],false):=by
    unfold stepE
    rw [if_pos (by omega),if_neg (show ¬(0<=cmp y.k x.k/\(o,false).2=false) by simp;omega)]
   rw [hs,set_false l,if_pos h,List.append_assoc];rfl
  ·have hs:stepE x (o,false) y=(if cmp y.k x.k≠0 then (o++[x]++[y],true) else (o++[x],true)):=by
    unfold stepE
    rw [if_pos (show 0<=cmp y.k x.k/\(o,false).2=false from ⟨by omega,rfl⟩)]
   rw [hs,if_neg h,List.filter_cons]
   by_cases hz:cmp y.k x.k≠0
   ·rw [if_pos hz,set_true,if_pos (by simpa using hz)]
    simp [finE]
   ·rw [if_neg hz,set_true,if_neg (by simpa using hz)]
    simp [finE]
theorem setE_eq:setE x l=insX x l:=by
 have:=set_false (x:=x) l []
 rw [List.nil_append] at this
 rw [<-this];rfl
theorem insX_mem:∀ {l:List En} {e:En},e ∈ insX x l->e=x\/e ∈ l
 | [],e,h=>.inl (by simpa [insX] using h)
 | y::l,e,h=>by
  unfold insX at h
  split at h
  ·rcases List.mem_cons.1 h with h|h
   ·exact .inr (by rw [h];exact List.mem_cons_self)
   ·exact (insX_mem h).imp id (List.mem_cons_of_mem _)
  ·rcases List.mem_cons.1 h with h|h
   ·exact .inl h
   ·exact .inr (List.mem_filter.1 h).1
theorem insX_put:∀ (l:List En),Put1 x.k x.v (l.map En.e) ((insX x l).map En.e)
 | [],k=>by
  show (([x].map En.e).find? (λ e=>e.1==k))=_
  by_cases hk:k=x.k
  ·rw [if_pos hk,hk];simp [En.e]
  ·rw [if_neg hk];simp [En.e];exact λ e=>hk e.symm
 | y::l,k=>by
  unfold insX
  by_cases h:cmp y.k x.k < 0
  ·rw [if_pos h,List.map_cons,List.map_cons]
   have hne:y.k≠x.k:=λ e=>by rw [e,cmp_self] at h;omega
   by_cases hy:y.k=k
   ·rw [List.find?_cons_of_pos (by simp [En.e,hy]),List.find?_cons_of_pos (by simp [En.e,hy]),if_neg (λ e=>hne (hy.trans e))]
   ·rw [List.find?_cons_of_neg (by simp [En.e,hy]),List.find?_cons_of_neg (by simp [En.e,hy])]
    exact insX_put l k
  ·rw [if_neg h,List.map_cons]
   by_cases hk:k=x.k
   ·rw [if_pos hk,List.find?_cons_of_pos (by simp [En.e,hk])];rfl
   ·rw [if_neg hk,List.find?_cons_of_neg (by simp [En.e];exact λ e=>hk e.symm)]
    generalize (y::l)=r
    induction r with
    | nil=>rfl
    | cons z r ih=>
     rw [List.filter_cons,List.map_cons]
     by_cases hz:z.k=k
     ·rw [if_pos (by rw [decide_eq_true_eq];exact λ e=>hk (hz.symm.trans (cmp_zero _ _ e))),List.map_cons,List.find?_cons_of_pos (by simp [En.e,hz]),List.find?_cons_of_pos (by simp [En.e,hz])]
     ·rw [List.find?_cons_of_neg (l:=List.map En.e r) (by simp [En.e,hz])]
      split
      ·rw [List.map_cons,List.find?_cons_of_neg (by simp [En.e,hz])];exact ih
      ·exact ih
def Pw (l:List (List UInt8)):Prop:=l.Pairwise (λ a b=>cmp a b < 0)
theorem rise_pw {l:List (List UInt8)} (h:Rise l):Pw l:=by
 unfold Pw
 rw [List.pairwise_iff_getElem]
 intro i j hi hj hij
 exact rise_lt' h hij (List.getElem?_eq_getElem hi) (List.getElem?_eq_getElem hj)
theorem insX_pw:∀ {l:List En},Pw (l.map En.k)->Pw ((insX x l).map En.k)
 | [],_=>by simp [Pw,insX]
 | y::l,h=>by
  have h0:=h
  unfold Pw at h
  rw [List.map_cons,List.pairwise_cons] at h
  obtain ⟨h1,h2⟩:=h
  unfold insX
  by_cases hc:cmp y.k x.k < 0
  ·rw [if_pos hc]
   unfold Pw
   rw [List.map_cons,List.pairwise_cons]
   refine ⟨λ z hz=>?_,insX_pw h2⟩
   obtain ⟨e,he,rfl⟩:=List.mem_map.1 hz
   rcases insX_mem he with rfl|he
   ·exact hc
   ·exact h1 _ (List.mem_map.2 ⟨e,he,rfl⟩)
  ·rw [if_neg hc]
   unfold Pw
   rw [List.map_cons,List.pairwise_cons]
   refine ⟨λ z hz=>?_,?_⟩
   ·obtain ⟨e,he,rfl⟩:=List.mem_map.1 hz
    obtain ⟨g1,g2⟩:=List.mem_filter.1 he
    rw [decide_eq_true_eq] at g2
    have hye:cmp y.k e.k<=0:=by
     rcases List.mem_cons.1 g1 with rfl|g1
     ·rw [cmp_self];exact Int.le_refl _
     ·exact Int.le_of_lt (h1 _ (List.mem_map.2 ⟨e,g1,rfl⟩))
    have h3:=cmp_swap_ y.k x.k
    have h4:=cmp_swap_ e.k x.k
    have h5:=cmp_le_le (a:=x.k) (b:=y.k) (c:=e.k) (by omega) hye
    omega
   ·exact List.Pairwise.sublist ((List.filter_sublist).map En.k) h0
theorem find_mem {l:List Ent} {a:Ent} (h:l.find? (λ e=>e.1==k)=some a):a ∈ l/\a.1=k:=⟨List.mem_of_find?_eq_some h,by simpa using List.find?_some h⟩
theorem pw_unique:∀ {l1 l2:List Ent},Pw (l1.map Prod.fst)->Pw (l2.map Prod.fst)->(∀ k,l1.find? (λ e=>e.1==k)=l2.find? (λ e=>e.1==k))->l1=l2
 | [],[],_,_,_=>rfl
 | [],b::l2,_,_,h=>by have:=h b.1;simp at this
 | a::l1,[],_,_,h=>by have:=h a.1;simp at this
 | a::l1,b::l2,h1,h2,h=>by
  unfold Pw at h1 h2
  rw [List.map_cons,List.pairwise_cons] at h1 h2
  have ha:=h a.1
  have hb:=h b.1
  rw [List.find?_cons_of_pos (by simp)] at ha
  rw [List.find?_cons_of_pos (l:=l2) (by simp)] at hb
  have hab:a=b:=by
   have m1:=(find_mem ha.symm).1
   have m2:=(find_mem hb).1
   rcases List.mem_cons.1 m1 with e|m1
   ·exact e
   ·rcases List.mem_cons.1 m2 with e|m2
    ·exact e.symm
    ·have g1:=h2.1 _ (List.mem_map.2 ⟨a,m1,rfl⟩)
     have g2:=h1.1 _ (List.mem_map.2 ⟨b,m2,rfl⟩)
     have g3:=cmp_swap_ a.1 b.1
     omega
  subst hab
  congr 1
  refine pw_unique h1.2 h2.2 (λ k=>?_)
  by_cases hk:a.1=k
  ·have n1:∀ {r:List Ent},(∀ z ∈ r.map Prod.fst,cmp a.1 z < 0)->r.find? (λ e=>e.1==k)=none:=λ hr=>find_none (λ e he hek=>by
    have:=hr _ (List.mem_map.2 ⟨e,he,rfl⟩)
    rw [hek,hk,cmp_self] at this
    omega)
   rw [n1 h1.1,n1 h2.1]
  ·have:=h k
   rw [List.find?_cons_of_neg (by simp [hk]),List.find?_cons_of_neg (by simp [hk])] at this
   exact this
theorem chn_pw (hmay:∀ n,chk n=0->May n a0 a1 a2) (h:Chn A chk level id low c):Pw ((entsCh A c).map Prod.fst):=by
 have hone:∀ {n:Nd},Rise n.keys->Pw ((ents n).map Prod.fst):=λ {n} hr=>by
  have:(ents n).map Prod.fst=n.keys:=by
   unfold ents
   generalize 0=i
   generalize n.keys=ks
   induction ks generalizing i with
   | nil=>rfl
   | cons k ks ih=>rw [entsM,List.map_cons,ih]
  rw [this];exact rise_pw hr
 induction h with
 | @last id low s h1 h2 h3 h4 h5=>
  have hn:opNd A id=s.nd:=by unfold opNd;rw [h1]
  show Pw ((ents (opNd A id)++[]).map Prod.fst)
  rw [List.append_nil,hn]
  exact hone (hmay _ h3).rise
 | @more id low s r h1 h2 h3 h4 h5 h6 ih=>
  have hn:opNd A id=s.nd:=by unfold opNd;rw [h1]
  show Pw ((ents (opNd A id)++entsCh A r).map Prod.fst)
  rw [List.map_append,hn]
  unfold Pw
  rw [List.pairwise_append]
  refine ⟨hone (hmay _ h3).rise,ih,λ a ha b hb=>?_⟩
  obtain ⟨e,he,rfl⟩:=List.mem_map.1 ha
  obtain ⟨e2,he2,rfl⟩:=List.mem_map.1 hb
  have hk:=(hmay _ h3).key _ (ents_keys _ _ _ _ he)
  have hh:0 < s.nd.high.length:=by
   rcases Nat.eq_zero_or_pos s.nd.high.length with hz|hz
   ·exact absurd ((hmay _ h3).high.1 hz) h5
   ·exact hz
  obtain ⟨q,hq,hq2⟩:=entsCh_keys he2
  obtain ⟨c1,c2⟩:=chn_low hmay h6 q hq
  have c3:=c2 _ hq2
  have c4:=cmp_high hk.2 hh
  have c5:=cmp_swap_ e.1 s.nd.high
  exact cmp_lt_le (by omega) (cmp_le_le c1 c3)
theorem put_set (h1:Pw (es'.map Prod.fst)) (h2:Pw (l.map En.k)) (h3:l.map En.e=es) (hp:Put1 x.k x.v es es'):(setE x l).map En.e=es':=by
 have hk:∀ r:List En,(r.map En.e).map Prod.fst=r.map En.k:=λ r=>by rw [List.map_map];rfl
 rw [setE_eq]
 refine pw_unique (by rw [hk];exact insX_pw h2) h1 (λ k=>?_)
 rw [insX_put l k,hp k,h3]
theorem DInv.pw {a3 a4:Int} {ps:List Pm} (h:DInv a0 a1 a2 a3 a4 A V ps lv ls es):Pw (es.map Prod.fst):=by
 obtain ⟨c,hc⟩:=h.tree.leaf
 rw [<-h.ents c hc]
 obtain ⟨f,hch,_⟩:=h.tree.ti.at_ hc
 exact chn_pw (λ n=>(h.tree.may n).1) hch
end
structure Pv where
 a:Value
 c0:Value
 c1:Value
 c2:Value
 c3:Value
 c4:Value
 key:Value
 val:Value
 way:Value
 next:Value
 level:Value
 sep:Value
 id:Value
 word:Value
 o0:Value
 o1:Value
 o2:Value
 o3:Value
 o4:Value
 o5:Value
 n0:Value
 n1:Value
 n2:Value
 n3:Value
 n4:Value
 n5:Value
 l0:Value
 l1:Value
 l2:Value
 l3:Value
 l4:Value
 l5:Value
 r0:Value
 r1:Value
 r2:Value
 r3:Value
 r4:Value
 r5:Value
 btw:Value
 side:Value
 half:Value
 fresh:Value
 root:Value
 dn:Value
 there:Value
 err:Value
structure Cf where
 nodes:Int
 leaf:Int
 inner:Int
 fill:Int
 block:Int
def cellsX (v:Pv):Array Value:=#[v.a,v.c0,v.c1,v.c2,v.c3,v.c4,v.key,v.val,v.way,v.next,v.level,v.sep,v.id,v.word,v.o0,v.o1,v.o2,v.o3,v.o4,v.o5,v.n0,v.n1,v.n2,v.n3,v.n4,v.n5,v.l0,v.l1,v.l2,v.l3,v.l4,v.l5,v.r0,v.r1,v.r2,v.r3,v.r4,v.r5,v.btw,v.side,v.half,v.fresh,v.root,v.there,v.err]
structure PRd (w:World) (S:Nat->Prop) (a dm:Nat) (C:Cf) (v:Pv) (P:Pm):Prop where
 a:v.a=pV a
 c0:v.c0=iV C.nodes
 c1:v.c1=iV C.leaf
 c2:v.c2=iV C.inner
 c3:v.c3=iV C.fill
 c4:v.c4=iV C.block
 key:Byts w S v.key P.key
 val:Byts w S v.val P.val
 way:∀ d,P.D=some d->v.way=pV dm
 level:v.level=iV P.level
 sep:Byts w S v.sep P.sep
 id:v.id=iV P.id
 word:v.word=.int .u64 P.word
 old:IsNd w S v.o0 v.o1 v.o2 v.o3 v.o4 v.o5 P.old
 nw:P.nx≠5->IsNd w S v.n0 v.n1 v.n2 v.n3 v.n4 v.n5 P.nw
 left:IsNd w S v.l0 v.l1 v.l2 v.l3 v.l4 v.l5 P.left
 right:IsNd w S v.r0 v.r1 v.r2 v.r3 v.r4 v.r5 P.right
 btw:Byts w S v.btw P.btw
 side:v.side=iV P.side
 half:v.half=iV P.half
 fresh:v.fresh=iV P.fresh
 root:v.root=iV P.root
 there:v.there=.bool P.there
 u64:U64 P.word
structure PGo (w:World) (t:TypeId) (m a dm:Nat) (nv:Nx->Value) (S:Nat->Prop) (C:Cf) (v:Pv) (P:Pm):Prop where
 rd:PRd w S a dm C v P
 des:∀ d,P.D=some d->MW w t dm a nv S d/\dm≠m
 nd:¬S dm
section
variable {w w':World} {S T N:Nat->Prop} {a dm m:Nat} {C:Cf} {v:Pv} {P:Pm} {t:TypeId} {nv:Nx->Value}
theorem PRd.keeps (h:PRd w S a dm C v P) (k:Keeps N w w') (hd:∀ x,x < w.heap.size->S x->¬N x):PRd w' S a dm C v P:=
 {h with key:=h.key.keeps k hd,val:=h.val.keeps k hd,sep:=h.sep.keeps k hd,old:=h.old.keeps k hd,nw:=λ hx=>(h.nw hx).keeps k hd,left:=h.left.keeps k hd,right:=h.right.keeps k hd,btw:=h.btw.keeps k hd}
theorem PRd.mono (h:PRd w S a dm C v P) (hd:∀ x,x < w.heap.size->S x->T x):PRd w T a dm C v P:=
 {h with key:=h.key.mono hd,val:=h.val.mono hd,sep:=h.sep.mono hd,old:=h.old.mono hd,nw:=λ hx=>(h.nw hx).mono hd,left:=h.left.mono hd,right:=h.right.mono hd,btw:=h.btw.mono hd}
theorem PGo.keeps (h:PGo w t m a dm nv S C v P) (k:Keeps N w w') (hm:(∃ d,P.D=some d)->¬N dm) (hd:∀ x,x < w.heap.size->S x->¬N x):PGo w' t m a dm nv S C v P:=
 ⟨h.rd.keeps k hd,λ d hD=>⟨(h.des d hD).1.keeps k (hm ⟨d,hD⟩) hd,(h.des d hD).2⟩,h.nd⟩
instance:Kn (λ w=>PGo w t m a dm nv S C v P):=⟨λ k h=>PGo.keeps h k (λ _=>id) (λ _ _ _=>id)⟩
def PX_ (w:World) (m:Nat) (t:TypeId) (v:Pv) (i:Nat) (x:Value):Prop:=Blk w m t (cellsX v)->w.cell? ⟨m,i,none⟩=some x
theorem Pv.aX_:PX_ w m t v 0 v.a:=λ hb=>hb.cell 0
theorem Pv.c0X_:PX_ w m t v 1 v.c0:=λ hb=>hb.cell 1
theorem Pv.c1X_:PX_ w m t v 2 v.c1:=λ hb=>hb.cell 2
theorem Pv.c2X_:PX_ w m t v 3 v.c2:=λ hb=>hb.cell 3
theorem Pv.c3X_:PX_ w m t v 4 v.c3:=λ hb=>hb.cell 4
theorem Pv.c4X_:PX_ w m t v 5 v.c4:=λ hb=>hb.cell 5
theorem Pv.keyX_:PX_ w m t v 6 v.key:=λ hb=>hb.cell 6
theorem Pv.valX_:PX_ w m t v 7 v.val:=λ hb=>hb.cell 7
theorem Pv.wayX_:PX_ w m t v 8 v.way:=λ hb=>hb.cell 8
theorem Pv.nextX_:PX_ w m t v 9 v.next:=λ hb=>hb.cell 9
theorem Pv.levelX_:PX_ w m t v 10 v.level:=λ hb=>hb.cell 10
theorem Pv.sepX_:PX_ w m t v 11 v.sep:=λ hb=>hb.cell 11
theorem Pv.idX_:PX_ w m t v 12 v.id:=λ hb=>hb.cell 12
theorem Pv.wordX_:PX_ w m t v 13 v.word:=λ hb=>hb.cell 13
theorem Pv.o0X_:PX_ w m t v 14 v.o0:=λ hb=>hb.cell 14
theorem Pv.o1X_:PX_ w m t v 15 v.o1:=λ hb=>hb.cell 15
theorem Pv.o2X_:PX_ w m t v 16 v.o2:=λ hb=>hb.cell 16
theorem Pv.o3X_:PX_ w m t v 17 v.o3:=λ hb=>hb.cell 17
theorem Pv.o4X_:PX_ w m t v 18 v.o4:=λ hb=>hb.cell 18
theorem Pv.o5X_:PX_ w m t v 19 v.o5:=λ hb=>hb.cell 19
theorem Pv.n0X_:PX_ w m t v 20 v.n0:=λ hb=>hb.cell 20
theorem Pv.n1X_:PX_ w m t v 21 v.n1:=λ hb=>hb.cell 21
theorem Pv.n2X_:PX_ w m t v 22 v.n2:=λ hb=>hb.cell 22
theorem Pv.n3X_:PX_ w m t v 23 v.n3:=λ hb=>hb.cell 23
theorem Pv.n4X_:PX_ w m t v 24 v.n4:=λ hb=>hb.cell 24
theorem Pv.n5X_:PX_ w m t v 25 v.n5:=λ hb=>hb.cell 25
theorem Pv.l0X_:PX_ w m t v 26 v.l0:=λ hb=>hb.cell 26
theorem Pv.l1X_:PX_ w m t v 27 v.l1:=λ hb=>hb.cell 27
theorem Pv.l2X_:PX_ w m t v 28 v.l2:=λ hb=>hb.cell 28
theorem Pv.l3X_:PX_ w m t v 29 v.l3:=λ hb=>hb.cell 29
theorem Pv.l4X_:PX_ w m t v 30 v.l4:=λ hb=>hb.cell 30
theorem Pv.l5X_:PX_ w m t v 31 v.l5:=λ hb=>hb.cell 31
theorem Pv.r0X_:PX_ w m t v 32 v.r0:=λ hb=>hb.cell 32
theorem Pv.r1X_:PX_ w m t v 33 v.r1:=λ hb=>hb.cell 33
theorem Pv.r2X_:PX_ w m t v 34 v.r2:=λ hb=>hb.cell 34
theorem Pv.r3X_:PX_ w m t v 35 v.r3:=λ hb=>hb.cell 35
theorem Pv.r4X_:PX_ w m t v 36 v.r4:=λ hb=>hb.cell 36
theorem Pv.r5X_:PX_ w m t v 37 v.r5:=λ hb=>hb.cell 37
theorem Pv.btwX_:PX_ w m t v 38 v.btw:=λ hb=>hb.cell 38
theorem Pv.sideX_:PX_ w m t v 39 v.side:=λ hb=>hb.cell 39
theorem Pv.halfX_:PX_ w m t v 40 v.half:=λ hb=>hb.cell 40
theorem Pv.freshX_:PX_ w m t v 41 v.fresh:=λ hb=>hb.cell 41
theorem Pv.rootX_:PX_ w m t v 42 v.root:=λ hb=>hb.cell 42
theorem Pv.thereX_:PX_ w m t v 43 v.there:=λ hb=>hb.cell 43
theorem Pv.errX_:PX_ w m t v 44 v.err:=λ hb=>hb.cell 44
theorem Pv.putwayX (hb:Blk w m t (cellsX v)) (x:Value):Blk (w.setCell ⟨m,8,none⟩ x) m t (cellsX {v with way:=x}):=hb.set_ 8 x
theorem Pv.putnextX (hb:Blk w m t (cellsX v)) (x:Value):Blk (w.setCell ⟨m,9,none⟩ x) m t (cellsX {v with next:=x}):=hb.set_ 9 x
theorem Pv.putlevelX (hb:Blk w m t (cellsX v)) (x:Value):Blk (w.setCell ⟨m,10,none⟩ x) m t (cellsX {v with level:=x}):=hb.set_ 10 x
theorem Pv.putsepX (hb:Blk w m t (cellsX v)) (x:Value):Blk (w.setCell ⟨m,11,none⟩ x) m t (cellsX {v with sep:=x}):=hb.set_ 11 x
theorem Pv.putidX (hb:Blk w m t (cellsX v)) (x:Value):Blk (w.setCell ⟨m,12,none⟩ x) m t (cellsX {v with id:=x}):=hb.set_ 12 x
theorem Pv.putwordX (hb:Blk w m t (cellsX v)) (x:Value):Blk (w.setCell ⟨m,13,none⟩ x) m t (cellsX {v with word:=x}):=hb.set_ 13 x
theorem Pv.puto0X (hb:Blk w m t (cellsX v)) (x:Value):Blk (w.setCell ⟨m,14,none⟩ x) m t (cellsX {v with o0:=x}):=hb.set_ 14 x
theorem Pv.puto1X (hb:Blk w m t (cellsX v)) (x:Value):Blk (w.setCell ⟨m,15,none⟩ x) m t (cellsX {v with o1:=x}):=hb.set_ 15 x
theorem Pv.puto2X (hb:Blk w m t (cellsX v)) (x:Value):Blk (w.setCell ⟨m,16,none⟩ x) m t (cellsX {v with o2:=x}):=hb.set_ 16 x
theorem Pv.puto3X (hb:Blk w m t (cellsX v)) (x:Value):Blk (w.setCell ⟨m,17,none⟩ x) m t (cellsX {v with o3:=x}):=hb.set_ 17 x
theorem Pv.puto4X (hb:Blk w m t (cellsX v)) (x:Value):Blk (w.setCell ⟨m,18,none⟩ x) m t (cellsX {v with o4:=x}):=hb.set_ 18 x
theorem Pv.puto5X (hb:Blk w m t (cellsX v)) (x:Value):Blk (w.setCell ⟨m,19,none⟩ x) m t (cellsX {v with o5:=x}):=hb.set_ 19 x
theorem Pv.putn0X (hb:Blk w m t (cellsX v)) (x:Value):Blk (w.setCell ⟨m,20,none⟩ x) m t (cellsX {v with n0:=x}):=hb.set_ 20 x
theorem Pv.putn1X (hb:Blk w m t (cellsX v)) (x:Value):Blk (w.setCell ⟨m,21,none⟩ x) m t (cellsX {v with n1:=x}):=hb.set_ 21 x
theorem Pv.putn2X (hb:Blk w m t (cellsX v)) (x:Value):Blk (w.setCell ⟨m,22,none⟩ x) m t (cellsX {v with n2:=x}):=hb.set_ 22 x
theorem Pv.putn3X (hb:Blk w m t (cellsX v)) (x:Value):Blk (w.setCell ⟨m,23,none⟩ x) m t (cellsX {v with n3:=x}):=hb.set_ 23 x
theorem Pv.putn4X (hb:Blk w m t (cellsX v)) (x:Value):Blk (w.setCell ⟨m,24,none⟩ x) m t (cellsX {v with n4:=x}):=hb.set_ 24 x
theorem Pv.putn5X (hb:Blk w m t (cellsX v)) (x:Value):Blk (w.setCell ⟨m,25,none⟩ x) m t (cellsX {v with n5:=x}):=hb.set_ 25 x
theorem Pv.putl0X (hb:Blk w m t (cellsX v)) (x:Value):Blk (w.setCell ⟨m,26,none⟩ x) m t (cellsX {v with l0:=x}):=hb.set_ 26 x
theorem Pv.putl1X (hb:Blk w m t (cellsX v)) (x:Value):Blk (w.setCell ⟨m,27,none⟩ x) m t (cellsX {v with l1:=x}):=hb.set_ 27 x
theorem Pv.putl2X (hb:Blk w m t (cellsX v)) (x:Value):Blk (w.setCell ⟨m,28,none⟩ x) m t (cellsX {v with l2:=x}):=hb.set_ 28 x
theorem Pv.putl3X (hb:Blk w m t (cellsX v)) (x:Value):Blk (w.setCell ⟨m,29,none⟩ x) m t (cellsX {v with l3:=x}):=hb.set_ 29 x
theorem Pv.putl4X (hb:Blk w m t (cellsX v)) (x:Value):Blk (w.setCell ⟨m,30,none⟩ x) m t (cellsX {v with l4:=x}):=hb.set_ 30 x
theorem Pv.putl5X (hb:Blk w m t (cellsX v)) (x:Value):Blk (w.setCell ⟨m,31,none⟩ x) m t (cellsX {v with l5:=x}):=hb.set_ 31 x
theorem Pv.putr0X (hb:Blk w m t (cellsX v)) (x:Value):Blk (w.setCell ⟨m,32,none⟩ x) m t (cellsX {v with r0:=x}):=hb.set_ 32 x
theorem Pv.putr1X (hb:Blk w m t (cellsX v)) (x:Value):Blk (w.setCell ⟨m,33,none⟩ x) m t (cellsX {v with r1:=x}):=hb.set_ 33 x
theorem Pv.putr2X (hb:Blk w m t (cellsX v)) (x:Value):Blk (w.setCell ⟨m,34,none⟩ x) m t (cellsX {v with r2:=x}):=hb.set_ 34 x
theorem Pv.putr3X (hb:Blk w m t (cellsX v)) (x:Value):Blk (w.setCell ⟨m,35,none⟩ x) m t (cellsX {v with r3:=x}):=hb.set_ 35 x
theorem Pv.putr4X (hb:Blk w m t (cellsX v)) (x:Value):Blk (w.setCell ⟨m,36,none⟩ x) m t (cellsX {v with r4:=x}):=hb.set_ 36 x
theorem Pv.putr5X (hb:Blk w m t (cellsX v)) (x:Value):Blk (w.setCell ⟨m,37,none⟩ x) m t (cellsX {v with r5:=x}):=hb.set_ 37 x
theorem Pv.putbtwX (hb:Blk w m t (cellsX v)) (x:Value):Blk (w.setCell ⟨m,38,none⟩ x) m t (cellsX {v with btw:=x}):=hb.set_ 38 x
theorem Pv.putsideX (hb:Blk w m t (cellsX v)) (x:Value):Blk (w.setCell ⟨m,39,none⟩ x) m t (cellsX {v with side:=x}):=hb.set_ 39 x
theorem Pv.puthalfX (hb:Blk w m t (cellsX v)) (x:Value):Blk (w.setCell ⟨m,40,none⟩ x) m t (cellsX {v with half:=x}):=hb.set_ 40 x
theorem Pv.putfreshX (hb:Blk w m t (cellsX v)) (x:Value):Blk (w.setCell ⟨m,41,none⟩ x) m t (cellsX {v with fresh:=x}):=hb.set_ 41 x
theorem Pv.putrootX (hb:Blk w m t (cellsX v)) (x:Value):Blk (w.setCell ⟨m,42,none⟩ x) m t (cellsX {v with root:=x}):=hb.set_ 42 x
theorem Pv.putthereX (hb:Blk w m t (cellsX v)) (x:Value):Blk (w.setCell ⟨m,43,none⟩ x) m t (cellsX {v with there:=x}):=hb.set_ 43 x
theorem Pv.puterrX (hb:Blk w m t (cellsX v)) (x:Value):Blk (w.setCell ⟨m,44,none⟩ x) m t (cellsX {v with err:=x}):=hb.set_ 44 x
end
structure PX (w:World) (m dm p:Nat) (S:Nat->Prop) (C:Cf) (P:Pm):Prop where
 blk:∃ v,Blk w m 77 (cellsX v)/\v.next=iV P.nx/\(P.nx=20->v.there=.bool P.there/\v.err=iV P.err)/\(P.nx≠20->PGo w 132 m p dm (nvX dm) S C v P)
 off:¬S m
section
variable {w w':World} {S T N:Nat->Prop} {p q dm m:Nat} {C:Cf} {P:Pm}
theorem PX.keeps (h:PX w m dm p S C P) (k:Keeps N w w') (hm:¬N m) (hn:dm < w.heap.size->¬N dm) (hd:∀ x,x < w.heap.size->S x->¬N x):PX w' m dm p S C P:=by
 obtain ⟨⟨v,hb,h1,h2,h3⟩,h4⟩:=h
 exact ⟨⟨v,hb.keeps k hm,h1,h2,λ hx=>(h3 hx).keeps k (λ ⟨d,hD⟩=>hn ((h3 hx).des d hD).1.lt) hd⟩,h4⟩
theorem PX.lt (h:PX w m dm p S C P):m < w.heap.size:=by obtain ⟨⟨_,hb,_⟩,_⟩:=h;exact hb.lt
end
def PPX (w w':World) (G:Nat->Prop) (Φ:Fr) (p:Nat) (A:Ar) (m dm:Nat) (S:Nat->Prop) (C:Cf) (P:Pm):Prop:=
 ∃ G' dm' S',JX w' G' Φ p A/\(∀ x,G' x->G x)/\Keeps (λ x=>G x\/x=m\/x=dm) w w'/\PX w' m dm' p S' C P/\(∀ x,x=dm'\/S' x->(x=m\/x=dm\/S x)\/(Fresh w w' x/\¬G' x))/\(dm'=dm\/Fresh w w' dm')
section
variable {w w':World} {G S:Nat->Prop} {b p q m dm:Nat} {A B:Ar} {C:Cf} {P P':Pm}
end
section
variable {w:World} {G S:Nat->Prop} {b p q m dm:Nat} {A B:Ar} {Φ:Fr} {C:Cf} {P:Pm} {v:Pv}
theorem pendsX {th took:Bool} {er:Int} (hb:Blk w m 77 (cellsX v)) (ht:v.there=.bool th):Calls Try.prog 20 #[pV m,.int .i64 er,.bool took] w λ e w'=>e=.returned (.tuple #[.bool true,.bool took])/\Blk w' m 77 (cellsX {v with next:=iV 20,err:=iV er,there:=.bool (th&&decide (er=0))})/\Keeps (λ x=>x=m) w w':=by
 have q43:w.cell? ⟨m,43,none⟩=some (.bool th):=by rw [Pv.thereX_ hb,ht]
 have q9:=Pv.nextX_ hb
 have q44:=Pv.errX_ hb
 have g9:=hb.frozen 9
 have g43:=hb.frozen 43
 have g44:=hb.frozen 44
 have HB:=Hd hb
 clear hb ht
 unfold pV
 by_cases he:er=0
 ·subst he
  cases th with
  | true=>
   go_enter Try.func20,Try.ntmps20
   go_wp2
   go_ret2
   exact ⟨rfl,Pv.putthereX (Pv.puterrX (Pv.putnextX HB.out _) _) _,((Keeps.setCell _ (M:=λ x=>x=m) rfl _).setCell' (λ _=>rfl) _).setCell' (λ _=>rfl) _⟩
  | false=>
   go_enter Try.func20,Try.ntmps20
   go_wp2
   go_ret2
   exact ⟨rfl,Pv.putthereX (Pv.puterrX (Pv.putnextX HB.out _) _) _,((Keeps.setCell _ (M:=λ x=>x=m) rfl _).setCell' (λ _=>rfl) _).setCell' (λ _=>rfl) _⟩
 ·have hd:(er==0)=false:=by simpa using he
  rw [decide_eq_false he,Bool.and_false]
  cases th with
  | true=>
   go_enter Try.func20,Try.ntmps20
   go_wp2
   go_ret2
   exact ⟨rfl,Pv.putthereX (Pv.puterrX (Pv.putnextX HB.out _) _) _,((Keeps.setCell _ (M:=λ x=>x=m) rfl _).setCell' (λ _=>rfl) _).setCell' (λ _=>rfl) _⟩
  | false=>
   go_enter Try.func20,Try.ntmps20
   go_wp2
   go_ret2
   exact ⟨rfl,Pv.putthereX (Pv.puterrX (Pv.putnextX HB.out _) _) _,((Keeps.setCell _ (M:=λ x=>x=m) rfl _).setCell' (λ _=>rfl) _).setCell' (λ _=>rfl) _⟩
theorem ponX {nx:Int} (hb:Blk w m 77 (cellsX v)):Calls Try.prog 23 #[pV m,.int .i64 0,.int .i64 nx] w λ e w'=>e=.returned (.tuple #[.bool false,.bool false])/\Blk w' m 77 (cellsX {v with next:=iV nx})/\Keeps (λ x=>x=m) w w':=by
 have q9:=Pv.nextX_ hb
 have g9:=hb.frozen 9
 have HB:=Hd hb
 clear hb
 unfold pV
 go_enter Try.func23,Try.ntmps23
 go_wp2
 go_ret2
 exact ⟨rfl,Pv.putnextX HB.out _,Keeps.setCell _ (M:=λ x=>x=m) rfl _⟩
theorem pgoesX {l:Int} {A0:Option Addr} {c0:Nat} {sep:List UInt8} (hb:Blk w m 77 (cellsX v)) (ha:v.a=pV p) (hl:v.level=iV l) (hs:v.sep=.slice A0 sep.length c0) (hv:Byts w S (.slice A0 sep.length c0) sep) (hz:sep.length<=64):Calls Try.prog 19 #[pV m] w λ e w'=>∃ d,e=.returned (.tuple #[])/\Fresh w w' d/\MX w' d p (λ x=>Fresh w w' x/\x≠d) (Mc.new sep l)/\Blk w' m 77 (cellsX {v with next:=iV 1,way:=pV d})/\Keeps (λ x=>x=m) w w':=by
 have q0:∀ W,Blk W m 77 (cellsX v)->W.cell? ⟨m,0,none⟩=some (.pointer (some ⟨p,0,none⟩)):=λ W h=>by rw [Pv.aX_ h,ha];rfl
 have q10:∀ W,Blk W m 77 (cellsX v)->W.cell? ⟨m,10,none⟩=some (.int .i64 l):=λ W h=>by rw [Pv.levelX_ h,hl];rfl
 have q11:∀ W,Blk W m 77 (cellsX v)->W.cell? ⟨m,11,none⟩=some (.slice A0 sep.length c0):=λ W h=>by rw [Pv.sepX_ h,hs]
 have HQ:=Hd (⟨q0,q10,q11⟩:(∀ W,Blk W m 77 (cellsX v)->W.cell? ⟨m,0,none⟩=some (.pointer (some ⟨p,0,none⟩)))/\(∀ W,Blk W m 77 (cellsX v)->W.cell? ⟨m,10,none⟩=some (.int .i64 l))/\(∀ W,Blk W m 77 (cellsX v)->W.cell? ⟨m,11,none⟩=some (.slice A0 sep.length c0)))
 have HF:=λ W (h:Byts W S (.slice A0 sep.length c0) sep)=>newX (p:=p) (level:=l) h (by unfold Sm;omega)
 have HB:=Hd hb
 have HV:=Hd hv
 have HL:=Hd hb.lt
 clear hb ha hl hs hv hz q0 q10 q11
 unfold pV iV at HF
 unfold pV
 go_enter Try.func19,Try.ntmps19
 go_wp2_with fail
 refine rC_ [0,1,2,3,4,5,6,7,8,9,10,11,12,13,14,15,16,17,18,19,20] 17 (λ W=>W.cell? ⟨m,0,none⟩=some (.pointer (some ⟨p,0,none⟩))/\W.cell? ⟨m,10,none⟩=some (.int .i64 l)/\W.cell? ⟨m,11,none⟩=some (.slice A0 sep.length c0)) ?_ ?_
 ·exact ⟨HQ.out.1 _ HB.out,HQ.out.2.1 _ HB.out,HQ.out.2.2 _ HB.out⟩
 refine canon_at (λ w1 hw=>?_)
 have hk:Keeps Nob w w1:=by rw [hw];exact Keeps.drew _ _
 clear hw
 replace HB:=Hd (HB.out.keeps hk id)
 replace HV:=Hd (HV.out.keeps hk (λ _ _ _=>id))
 have K:=Hd hk
 have KS:=Hd hk.size
 clear hk
 iterate 14
  refine cR_ (v:=?_) rfl ?_ ?_
  rotate_left
  ·intro W hW
   try (obtain ⟨z1,z2,z3⟩:_/\_/\_:=hW)
   go_simp
   try rfl
  simp only [Act.put,sa_,sb_,sc_]
 refine cA_ rfl ?_
 go_wp2_with (go_at_call 37;refine (HF _ HV.out).mono ?_;rintro e w2 ⟨d,rfl,hf,hX,hk⟩)
 replace HB:=Hd (HB.out.keeps hk id)
 replace K:=tq_ K hk
 have HX:=Hd hX
 have HFR:=Hd hf
 clear hX hk hf HF HV
 refine ⟨.inr ⟨HQ.out.1 _ HB.out,HQ.out.2.1 _ HB.out,HQ.out.2.2 _ HB.out⟩,?_⟩
 iterate 2
  refine cR_ (v:=?_) rfl ?_ ?_
  rotate_left
  ·intro W hW
   try (obtain ⟨z1,z2,z3⟩:_/\_/\_:=hW)
   go_simp
   try rfl
  simp only [Act.put,sa_,sb_,sc_]
 refine cA_ rfl ?_
 have q9:=Pv.nextX_ HB.out
 have g9:=HB.out.frozen 9
 go_wp2
 clear q9 g9
 refine ⟨.inl (by kernel_rfl),?_⟩
 refine canon_at (λ w3 hw=>?_)
 have hk:Keeps (λ x=>x=m) w2 w3:=by rw [hw];exact Keeps.setCell _ (M:=λ x=>x=m) rfl _
 replace HB:Hid (Blk w3 m 77 (cellsX {v with next:=iV 1})):=by rw [hw];exact Pv.putnextX HB.out _
 clear hw
 replace HX:=Hd (HX.out.keeps hk (λ e=>by have h1:=HFR.out.1;have h2:=KS.out;have h3:=HL.out;have h4:d=m:=e;omega) (λ x _ hx e=>by have h1:=hx.1.1;have h2:=KS.out;have h3:=HL.out;have h4:x=m:=e;omega))
 replace K:=Hd ((K.out.mono (λ _ _ h=>h.elim):Keeps (λ x=>x=m) w w2).trans hk (λ _ _ h=>h))
 have KT:=Hd hk.size
 clear hk
 iterate 2
  refine cR_ (v:=?_) rfl ?_ ?_
  rotate_left
  ·intro W hW
   try (obtain ⟨z1,z2,z3⟩:_/\_/\_:=hW)
   go_simp
   try rfl
  simp only [Act.put,sa_,sb_,sc_]
 refine cA_ rfl ?_
 have q8:=Pv.wayX_ HB.out
 have g8:=HB.out.frozen 8
 go_wp2
 clear q8 g8
 refine ⟨.inl (by kernel_rfl),?_⟩
 refine canon_at (λ w4 hw=>?_)
 have hk:Keeps (λ x=>x=m) w3 w4:=by rw [hw];exact Keeps.setCell _ (M:=λ x=>x=m) rfl _
 replace HB:Hid (Blk w4 m 77 (cellsX {v with next:=iV 1,way:=pV d})):=by rw [hw];exact Pv.putwayX HB.out _
 clear hw
 refine wpCanon_nil ?_
 go_wp2
 go_end0
 have f1:=HFR.out.1
 have f2:=HFR.out.2
 have s1:=KS.out
 have s2:=KT.out
 have s3:=hk.size
 refine ⟨d,rfl,⟨by omega,by omega⟩,(HX.out.keeps hk (λ e=>by have h3:=HL.out;have h4:d=m:=e;omega) (λ x _ hx e=>by have h1:=hx.1.1;have h3:=HL.out;have h4:x=m:=e;omega)).mono (λ x _ hx=>⟨⟨Nat.le_trans s1 hx.1.1,by have:=hx.1.2;omega⟩,hx.2⟩),HB.out,K.out.trans hk (λ _ _ h=>h)⟩
end
section
variable {w w':World} {G S:Nat->Prop} {a dm m p:Nat} {C:Cf} {v:Pv} {P:Pm} {t:TypeId} {nv:Nx->Value} {Φ:Fr} {A:Ar}
theorem gn_ (h:Hid (PGo w t m a dm nv S C v P)) (k:Keeps Nob w w'):Hid (PGo w' t m a dm nv S C v P):=Hd (h.out.keeps k (λ _=>id) (λ _ _ _=>id))
theorem gm_ (h:Hid (PGo w t m a dm nv S C v P)) (k:Keeps (λ x=>x=m) w w') (hm:Hid (¬S m)):Hid (PGo w' t m a dm nv S C v P):=Hd (h.out.keeps k (λ ⟨d,hd⟩=>(h.out.des d hd).2) (λ x _ hx e=>hm.out (e▸hx)))
theorem gg_ (h:Hid (PGo w t m a dm nv S C v P)) (k:Keeps G w w') (ho:Hid (∀ x,x=m\/x=dm\/S x->¬G x)):Hid (PGo w' t m a dm nv S C v P):=Hd (h.out.keeps k (λ _=>ho.out dm (.inr (.inl rfl))) (λ x _ hx=>ho.out x (.inr (.inr hx))))
theorem jm_ (h:Hid (JX w G Φ p A)) (k:Keeps (λ x=>x=m) w w') (ho:Hid (∀ x,x=m\/x=dm\/S x->¬G x)):Hid (JX w' G Φ p A):=Hd (h.out.keeps k (λ x _ hx e=>ho.out m (.inl rfl) (e▸hx)))
theorem kx_ {a b c:World} (K:Hid (Keeps (λ x=>G x\/x=m\/x=dm) a b)) (hk:Keeps (λ x=>x=m) b c):Hid (Keeps (λ x=>G x\/x=m\/x=dm) a c):=Hd (K.out.trans hk (λ x _ hx=>.inr (.inl hx)))
theorem ky_ {a b c:World} (K:Hid (Keeps (λ x=>G x\/x=m\/x=dm) a b)) (hk:Keeps G b c):Hid (Keeps (λ x=>G x\/x=m\/x=dm) a c):=Hd (K.out.trans hk (λ x _ hx=>.inl hx))
end
end Go.Proofs.Ytjcgphhpaenjkaa

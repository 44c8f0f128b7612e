import Derived.Test.YtjcgphhpaenjkaaPkE3
set_option linter.unusedVariables false
namespace Go.Proofs.Ytjcgphhpaenjkaa
open Go.RowKit
def LaR (R:Nat->Prop) (w:World) (p:Nat) (A:Ar):Prop:=∃ G,JX w G Fr.no p A/\∀ x,G x->¬R x
def LnR (R:Nat->Prop) (w:World) (p m:Nat) (C:Cf) (A:Ar) (P:Pm):Prop:=
 ∃ G dm S,JX w G Fr.no p A/\PX w m dm p S C P/\(∀ x,x=m\/x=dm\/S x->¬G x)/\(∀ x,S x->x < w.heap.size)/\∀ x,G x\/x=m\/x=dm->¬R x
section
variable {w w':World} {p m:Nat} {C:Cf} {A:Ar} {P:Pm} {R R' S N:Nat->Prop} {kv vv:Value} {key val:List UInt8}
theorem LaR.lt (h:LaR R w p A) {x:Nat} (hx:R x):x < w.heap.size:=by
 obtain ⟨G,hJ,hR⟩:=h
 rcases Nat.lt_or_ge x w.heap.size with h1|h1
 ·exact h1
 ·exact absurd hx (hR x (hJ.new x h1))
theorem LnR.arena (h:LnR R w p m C A P):LaR R w p A:=by
 obtain ⟨G,dm,S,hJ,hP,off,old,hR⟩:=h
 exact ⟨G,hJ,λ x hx=>hR x (.inl hx)⟩
theorem LaR.nob (h:LaR R w p A) (k:Keeps Nob w w'):LaR R w' p A:=by
 obtain ⟨G,hJ,hR⟩:=h
 exact ⟨G,hJ.nob k,hR⟩
theorem LaR.take (h:LaR R w p A) (k:Keeps Nob w w') (hr:∀ x,R' x->R x\/Fresh w w' x):LaR R' w' p A:=by
 have hlt:=λ x hx=>h.lt (x:=x) hx
 obtain ⟨G,hJ,hR⟩:=h
 have hs:=k.size
 refine ⟨λ x=>(G x/\x < w.heap.size)\/w'.heap.size<=x,hJ.enterN k (λ _ _ _=>id) (λ x hx hg=>.inl ⟨hg,hx⟩) (λ x hx=>.inr hx),λ x hx hr'=>?_⟩
 rcases hr x hr' with h1|h1
 ·rcases hx with hx|hx
  ·exact hR x hx.1 h1
  ·have:=hlt x h1;omega
 ·have h2:=h1.1
  have h3:=h1.2
  rcases hx with hx|hx<;>omega
theorem LnR.nob (h:LnR R w p m C A P) (k:Keeps Nob w w'):LnR R w' p m C A P:=by
 obtain ⟨G,dm,S,hJ,hP,off,old,hR⟩:=h
 exact ⟨G,dm,S,hJ.nob k,hP.keeps k id (λ _=>id) (λ _ _ _=>id),off,λ x hx=>Nat.lt_of_lt_of_le (old x hx) k.size,hR⟩
theorem LnR.step (h:LnR R w p m C A P) (ok:POk A P) (hn:P.nx<=20):Calls Try.prog 9 #[pV m] w λ e w'=>e=.returned (.tuple #[.bool (stepP C.leaf C.inner A P).1.1,.bool (stepP C.leaf C.inner A P).1.2])/\LnR R w' p m C (stepP C.leaf C.inner A P).2.1 (stepP C.leaf C.inner A P).2.2/\Keeps (λ x=>¬R x) w w':=by
 have hlt:=λ x hx=>h.arena.lt (x:=x) hx
 obtain ⟨G,dm,S,hJ,hP,off,old,hR⟩:=h
 refine (stepPX hJ off hP ok old hn).mono ?_
 rintro e w' ⟨rfl,G',dm',S',hJ',hs,hk',hP',hF,hD⟩
 have hm:=hP.lt
 have hsz:=hk'.size
 refine ⟨rfl,⟨G',dm',S',hJ',hP',λ x hx hg=>?_,λ x hx=>?_,λ x hx=>?_⟩,hk'.mono (λ x _ hx=>hR x hx)⟩
 ·rcases hx with hx|hx
  ·exact off x (.inl hx) (hs x hg)
  ·rcases hF x hx with h1|h1
   ·exact off x h1 (hs x hg)
   ·exact h1.2 hg
 ·rcases hF x (.inr hx) with h1|h1
  ·rcases h1 with rfl|rfl|h1
   ·omega
   ·have h2:¬w'.heap.size<=x:=λ h=>off x (.inr (.inl rfl)) (hJ.new x (by omega))
    omega
   ·have:=old x h1;omega
  ·exact h1.1.2
 ·rcases hx with hx|hx|hx
  ·exact hR x (.inl (hs x hx))
  ·exact hR x (.inr (.inl hx))
  ·rcases hD with h1|h1
   ·exact hR x (.inr (.inr (hx.trans h1)))
   ·intro hr
    have h2:=h1.1
    have h3:=hlt x hr
    omega
theorem LaR.put (h:LaR R w p A) (hk:Byts w S kv key) (hv:Byts w S vv val) (hz:Sm 0 1 key.length) (hzv:Sm 0 1 val.length):Calls Try.prog 8 #[pV p,.agg #[.int .i64 C.nodes,.int .i64 C.leaf,.int .i64 C.inner,.int .i64 C.fill,.int .i64 C.block],kv,vv] w λ e w'=>∃ m,e=.returned (pV m)/\LnR R w' p m C A (Pm.new key val)/\Keeps Nob w w':=by
 have hlt:=λ x hx=>h.lt (x:=x) hx
 obtain ⟨G,hJ,hR⟩:=h
 refine (pnewX hk hv hz hzv).mono ?_
 rintro e w' ⟨m,dm,S',rfl,hP,hF,hk'⟩
 refine ⟨m,rfl,⟨Shr G w w',dm,S',hJ.shr hk' (λ _ _ _ h=>h),hP,λ x hx hg=>hg.2 (hF x hx),λ x hx=>(hF x (.inr (.inr hx))).2,λ x hx=>?_⟩,hk'⟩
 rcases hx with hx|hx
 ·exact hR x hx.1
 ·intro hr
  have h1:=hlt x hr
  have h2:=(hF x (by rcases hx with hx|hx;exact .inl hx;exact .inr (.inl hx))).1
  omega
theorem LaR.held (h:LaR R w p A):Calls Try.prog 10 #[pV p] w λ e w'=>∃ v,e=.returned v/\OIn w' (From w.heap.size) v (heldFrom 1 A.sl)/\Keeps Nob w w':=by
 obtain ⟨G,hJ,_⟩:=h
 exact hJ.heldX.mono (λ e w' ⟨v,a,b,_,c⟩=>⟨v,a,b,c⟩)
theorem LaR.check (h:LaR R w p A) (hw:Wide64 A):Calls Try.prog 11 #[pV p,.agg #[.int .i64 C.nodes,.int .i64 C.leaf,.int .i64 C.inner,.int .i64 C.fill,.int .i64 C.block]] w λ e w'=>e=.returned (.agg (rpV (checkM A C.nodes C.leaf C.inner C.fill C.block)))/\Keeps Nob w w':=by
 obtain ⟨G,⟨⟨M,D,⟨sl,ids,hX⟩,_⟩,_,_,_,hsm⟩,_⟩:=h
 exact pcheckR hX hsm (λ s hs=>(hw s hs).2)
theorem LaR.new (n:Nat) (h1:1<=n) (h2:n<=65536) (w:World) (hr:∀ x,R x->x < w.heap.size):Calls Try.prog 7 #[iV n] w λ e w'=>∃ p,e=.returned (.tuple #[pV p,iV 0])/\LaR R w' p (ar0 n)/\Keeps Nob w w':=by
 refine (new_ok w h1 h2).mono ?_
 rintro e w' ⟨rfl,hX,hk⟩
 exact ⟨_,rfl,⟨From w.heap.size,⟨⟨_,_,hX,λ x hx=>⟨hx.1,id⟩,λ x hx=>hx.elim⟩,trivial,λ x hx=>hx.elim,λ x hx=>Nat.le_trans hk.size hx,λ s hs=>by rw [show s=⟨0,Nd.zero⟩ from List.mem_singleton.1 hs];exact sm_zero⟩,λ x hx hR=>Nat.lt_irrefl _ (Nat.lt_of_lt_of_le (hr x hR) hx)⟩,hk⟩
theorem LaR.used (h:LaR R w p A):Calls Try.prog 13 #[pV p] w λ e w'=>e=.returned (iV A.sl.length)/\w=w':=by
 obtain ⟨G,hJ,_⟩:=h
 exact hJ.usedX
theorem LaR.body {ix:Int} (h:LaR R w p A):Calls Try.prog 14 #[pV p,iV ix] w λ e w'=>∃ d0 d1 d2,e=.returned (.tuple #[.agg #[d0,d1,d2],iV (opErr A ix)])/\OBd w' (Fresh w w') d0 d1 d2 (opNd A ix)/\Keeps Nob w w':=by
 obtain ⟨G,hJ,_⟩:=h
 exact hJ.bodyX.mono (λ e w' ⟨d0,d1,d2,a,b,_,c⟩=>⟨d0,d1,d2,a,b,c⟩)
end
section
variable {A:Ar} {chk:Nd->Int} {a0 a1 a2 lv:Int} {ls:List Ch}
theorem TreeOk.count_n (h:TreeOk A a0 a1 a2 chk lv ls) (two:∀ c ∈ ls,∀ e ∈ c,Two (opNd A e.1)):2 ^ ls.length<=A.sl.length+1/\∀ level,0<=level->level<=lv->((ls.take (lv-level+1).toNat).flatten.length+1)*2 ^ level.toNat<=A.sl.length+1:=by
 have hl:=h.trs.length
 have h0:=h.lv0
 have htot:=h.len
 refine ⟨?_,λ level h1 h2=>?_⟩
 ·have:=h.double two ls.length 0 (by omega)
  rw [Nat.zero_add,List.take_length] at this
  simp only [List.take_zero,List.flatten_nil,List.length_nil,Nat.zero_add,Nat.one_mul] at this
  omega
 ·have:=h.double two level.toNat (lv-level+1).toNat (by omega)
  rw [show (lv-level+1).toNat+level.toNat=ls.length by omega,List.take_length] at this
  omega
theorem TreeOk.lv8 (h:TreeOk A a0 a1 a2 chk lv ls) (two:∀ c ∈ ls,∀ e ∈ c,Two (opNd A e.1)) (ht:A.sl.length<=600):lv<=8:=by
 have h1:=(h.count_n two).1
 have hl:=h.trs.length
 rcases Int.lt_or_le 8 lv with hc|hc
 ·have:=Nat.pow_le_pow_right (n:=2) (by decide) (show 10<=ls.length by omega)
  omega
 ·exact hc
end
def sumS (f:Nd->Nat) (l:List Sl):Nat:=(l.map (λ s=>f s.nd)).sum
def Kd (n:Nd):Nat:=n.kids.length
def Lf (n:Nd):Nat:=if n.lvl=0 then 1 else 0
section
variable {f:Nd->Nat} {A:Ar} {m m':Pm} {x ix:Int} {n:Nd} {s t:Sl} {c:Bool} {wd:Nat}
theorem sum_set:∀ {l:List Sl} {i:Nat} {s t:Sl},l[i]?=some s->sumS f (l.set i t)+f s.nd=sumS f l+f t.nd:=by
 intro l
 induction l with
 | nil=>intro i s t h;simp at h
 | cons a l ih=>
  intro i s t h
  cases i with
  | zero=>
   have e:a=s:=by simpa using h
   subst e
   simp only [sumS,sb_,List.map_cons,List.sum_cons]
   omega
  | succ i=>
   have h':l[i]?=some s:=by simpa using h
   have:=ih (t:=t) h'
   simp only [sumS,sc_,List.map_cons,List.sum_cons] at this ⊢
   omega
theorem sum_put (h:A.get x=some s):sumS f (A.put x t).sl+f s.nd=sumS f A.sl+f t.nd:=by
 obtain ⟨i,_,hi,e⟩:=get_some h
 show sumS f (A.sl.set (x-1).toNat t)+_=_
 rw [e]
 exact sum_set hi
theorem sum_put_same (h:A.get x=some s) (hf:f t.nd=f s.nd):sumS f (A.put x t).sl=sumS f A.sl:=by
 have:=sum_put (f:=f) (t:=t) h;omega
theorem sum_lock:sumS f (opLock A x wd).2.2.sl=sumS f A.sl/\(opLock A x wd).2.2.sl.length=A.sl.length/\(opLock A x wd).2.2.root=A.root/\(opLock A x wd).2.2.nodes=A.nodes/\∀ y,opNd (opLock A x wd).2.2 y=opNd A y:=by
 unfold opLock
 cases h:A.get x with
 | none=>exact ⟨rfl,rfl,rfl,rfl,λ _=>rfl⟩
 | some s=>
  simp only
  split
  ·refine ⟨sum_put_same h rfl,put_len _,rfl,rfl,λ y=>?_⟩
   by_cases e:y=x
   ·subst e;rw [opNd_put h];unfold opNd;rw [h]
   ·exact opNd_put_ne (get_pos h) e
  ·exact ⟨rfl,rfl,rfl,rfl,λ _=>rfl⟩
theorem sum_unlock:sumS f (opUnlock A x c).2.sl=sumS f A.sl/\(opUnlock A x c).2.sl.length=A.sl.length/\(opUnlock A x c).2.root=A.root/\(opUnlock A x c).2.nodes=A.nodes/\∀ y,opNd (opUnlock A x c).2 y=opNd A y:=by
 unfold opUnlock
 cases h:A.get x with
 | none=>exact ⟨rfl,rfl,rfl,rfl,λ _=>rfl⟩
 | some s=>
  simp only
  split
  ·exact ⟨rfl,rfl,rfl,rfl,λ _=>rfl⟩
  ·refine ⟨sum_put_same h rfl,put_len _,rfl,rfl,λ y=>?_⟩
   by_cases e:y=x
   ·subst e;rw [opNd_put h];unfold opNd;rw [h]
   ·exact opNd_put_ne (get_pos h) e
theorem sum_head (hs:A.get x=some s) (ho:s.word % 2=1):sumS f (opSetHead A x n).2.sl+f s.nd=sumS f A.sl+f (withHd s.nd n)/\(opSetHead A x n).2.sl.length=A.sl.length/\(opSetHead A x n).2.root=A.root/\(opSetHead A x n).2.nodes=A.nodes/\opNd (opSetHead A x n).2 x=withHd s.nd n/\∀ y,y≠x->opNd (opSetHead A x n).2 y=opNd A y:=by
 unfold opSetHead
 rw [hs]
 simp only
 rw [if_neg (by omega)]
 exact ⟨sum_put hs,put_len _,rfl,rfl,opNd_put hs,λ y hy=>opNd_put_ne (get_pos hs) hy⟩
theorem sum_body (hs:A.get x=some s) (ho:s.word % 2=1):sumS f (opSetBody A x n).2.sl+f s.nd=sumS f A.sl+f (withHd n s.nd)/\(opSetBody A x n).2.sl.length=A.sl.length/\(opSetBody A x n).2.root=A.root/\(opSetBody A x n).2.nodes=A.nodes/\opNd (opSetBody A x n).2 x=withHd n s.nd/\∀ y,y≠x->opNd (opSetBody A x n).2 y=opNd A y:=by
 unfold opSetBody
 rw [hs]
 simp only
 rw [if_neg (by omega)]
 exact ⟨sum_put hs,put_len _,rfl,rfl,opNd_put hs,λ y hy=>opNd_put_ne (get_pos hs) hy⟩
theorem sum_alloc (h:A.sl.length≠A.nodes):(opAlloc A).1=(A.sl.length:Int)+1/\(opAlloc A).2.1=0/\sumS f (opAlloc A).2.2.sl=sumS f A.sl+f Nd.zero/\(opAlloc A).2.2.sl.length=A.sl.length+1/\(opAlloc A).2.2.root=A.root/\(opAlloc A).2.2.nodes=A.nodes/\opNd (opAlloc A).2.2 ((A.sl.length:Int)+1)=Nd.zero/\∀ y:Int,y<=(A.sl.length:Int)->opNd (opAlloc A).2.2 y=opNd A y:=by
 unfold opAlloc
 rw [if_neg h]
 refine ⟨rfl,rfl,?_,by simp,rfl,rfl,?_,λ y hy=>?_⟩
 ·simp [sumS]
 ·unfold opNd Ar.get
  rw [if_pos (by omega)]
  simp only [show ((A.sl.length:Int)+1-1).toNat=A.sl.length by omega]
  simp
 ·unfold opNd Ar.get
  by_cases h1:1<=y
  ·rw [if_pos h1,if_pos h1]
   simp only
   rw [List.getElem?_append_left (by omega)]
  ·rw [if_neg h1,if_neg h1]
theorem count_le {g:Nd->Nat}:∀ (l:List Sl) (L:List Nat),L.Nodup->(∀ i ∈ L,∃ s,l[i]?=some s/\1<=g s.nd)->L.length<=sumS g l:=by
 intro l
 induction l with
 | nil=>
  intro L _ h
  cases L with
  | nil=>exact Nat.zero_le _
  | cons a L=>obtain ⟨s,hs,_⟩:=h a List.mem_cons_self;simp at hs
 | cons a l ih=>
  intro L hn h
  have hp:=ih ((L.erase 0).map (· - 1)) ?_ ?_
  ·simp only [sumS,List.map_cons,List.sum_cons] at hp ⊢
   rw [List.length_map] at hp
   by_cases h0:0 ∈ L
   ·obtain ⟨s,hs,h1⟩:=h 0 h0
    have e:a=s:=by simpa using hs
    subst e
    rw [List.length_erase_of_mem h0] at hp
    have:=List.length_pos_of_mem h0
    omega
   ·rw [List.erase_of_not_mem h0] at hp;omega
  ·have hne:∀ x ∈ L.erase 0,x≠0:=λ x hx e=>by subst e;exact hn.not_mem_erase hx
   refine List.pairwise_map.2 (List.Pairwise.imp_of_mem ?_ (hn.erase 0))
   intro x y hx hy he e
   have:=hne x hx;have:=hne y hy;omega
  ·intro i hi
   obtain ⟨x,hx,rfl⟩:=List.mem_map.1 hi
   have hx0:x≠0:=λ e=>by subst e;exact hn.not_mem_erase hx
   obtain ⟨s,hs,h1⟩:=h x (List.mem_of_mem_erase hx)
   obtain ⟨k,rfl⟩:∃ k,x=k+1:=⟨x-1,by omega⟩
   exact ⟨s,by simpa using hs,h1⟩
end
end Go.Proofs.Ytjcgphhpaenjkaa

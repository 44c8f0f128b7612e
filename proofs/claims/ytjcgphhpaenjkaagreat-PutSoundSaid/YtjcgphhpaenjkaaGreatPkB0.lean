import Derived.Test.YtjcgphhpaenjkaaGreatPkA8
namespace Go.Proofs.YtjcgphhpaenjkaaGreat
open Go.RowKit
structure Fr where
 P:World->Prop
 F:Nat->Prop
 W:Nat->Prop
 fr:∀ w w' N,P w->Keeps N w w'->(∀ x,x < w.heap.size->F x->¬N x)->P w'
 lt:∀ w,P w->∀ x,F x\/W x->x < w.heap.size
def Fr.no:Fr:=⟨λ _=>True,Nob,Nob,λ _ _ _ _ _ _=>trivial,λ _ _ x h=>h.elim False.elim False.elim⟩
structure JX (w:World) (G:Nat->Prop) (Φ:Fr) (p:Nat) (A:Ar):Prop where
 mem:∃ M D:Nat->Prop,ArX w M D p A/\(∀ x,M x->G x/\¬Φ.F x)/\(∀ x,D x->G x/\¬Φ.W x)
 rest:Φ.P w
 sub:∀ x,Φ.F x->G x
 new:∀ x,w.heap.size<=x->G x
 smA:∀ s ∈ A.sl,NdSm 0 s.nd
section
variable {N M D M1 D1 M' D':Nat->Prop} {w w':World} {G G':Nat->Prop} {b p q:Nat} {A B A' B':Ar} {ix:Int} {slots L:Value} {ids:List Nat} {xs:List Value} {Φ:Fr}
theorem J.toX (h:J w G b p q A B):∃ Φ,JX w G Φ p A/\∀ w' G' A',JX w' G' Φ p A'->J w' G' b p q A' B:=by
 obtain ⟨hb,⟨M,D,M',D',hX,⟨L,xs,hY⟩,h1,h2,h3⟩,hl,hnew,hsA,hsB⟩:=h
 refine ⟨⟨λ w=>Blk w b 52 #[pV p,pV q]/\DocW w M' D' q L xs B,λ x=>M' x\/D' x\/x=b,M',?_,?_⟩,⟨⟨M,D,hX,λ x hx=>⟨(h1 x hx).1,?_⟩,λ x hx=>⟨h3 x (.inl hx),λ hm=>(h2 x hm).2.1 hx⟩⟩,⟨hb,hY⟩,?_,hnew,hsA⟩,?_⟩
 ·rintro w w' N ⟨a1,a2⟩ k hN
  exact ⟨a1.keeps k (hN b a1.lt (.inr (.inr rfl))),a2.keeps k (λ x hx hm=>hN x hx (.inl hm)) (λ x hx hd=>hN x hx (.inr (.inl hd)))⟩
 ·rintro w ⟨a1,a2⟩ x ((hx|hx|rfl)|hx)
  ·exact a2.mlt x hx
  ·exact a2.dlt x hx
  ·exact a1.lt
  ·exact a2.mlt x hx
 ·rintro (h|h|h)
  ·exact (h1 x hx).2.1 h
  ·exact (h1 x hx).2.2.1 h
  ·exact (h1 x hx).2.2.2 h
 ·rintro x (h|h|rfl)
  ·exact (h2 x h).1
  ·exact h3 x (.inr h)
  ·exact hl
 ·rintro w' G' A' ⟨⟨M1,D1,hX',k1,k2⟩,⟨a1,a2⟩,hs,hn,hm⟩
  exact ⟨a1,⟨M1,D1,M',D',hX',⟨L,xs,a2⟩,λ x hx=>⟨(k1 x hx).1,λ h=>(k1 x hx).2 (.inl h),λ h=>(k1 x hx).2 (.inr (.inl h)),λ h=>(k1 x hx).2 (.inr (.inr h))⟩,λ x hx=>⟨hs x (.inl hx),λ hd=>(k2 x hd).2 hx,(h2 x hx).2.2⟩,λ x hx=>hx.elim (λ h=>(k2 x h).1) (λ h=>hs x (.inr (.inl h)))⟩,hs b (.inr (.inr rfl)),hn,hm,hsB⟩
theorem JX.keeps (h:JX w G Φ p A) (k:Keeps N w w') (hn:∀ x,x < w.heap.size->G x->¬N x):JX w' G Φ p A:=by
 obtain ⟨⟨M,D,⟨sl,ids,hX⟩,h1,h2⟩,hr,hs,hnew,hsA⟩:=h
 exact ⟨⟨M,D,⟨sl,ids,hX.keeps k (λ x hx hm=>hn x hx (h1 x hm).1) (λ x hx hm=>hn x hx (h2 x hm).1)⟩,h1,h2⟩,Φ.fr _ _ _ hr k (λ x hx hf=>hn x hx (hs x hf)),hs,λ x hx=>hnew x (Nat.le_trans k.size hx),hsA⟩
theorem JX.nob (h:JX w G Φ p A) (k:Keeps Nob w w'):JX w' G Φ p A:=h.keeps k (λ _ _ _=>id)
theorem JX.enterN (h:JX w G Φ p A) (k:Keeps N w w') (hN:∀ x,x < w.heap.size->G x->¬N x) (hg:∀ x,x < w.heap.size->G x->G' x) (hn:∀ x,w'.heap.size<=x->G' x):JX w' G' Φ p A:=by
 have hlt:=λ x hf=>Φ.lt _ h.rest x (.inl hf)
 obtain ⟨⟨M,D,⟨sl,ids,hX⟩,h1,h2⟩,hr,hs,hnew,hsA⟩:=h
 exact ⟨⟨M,D,⟨sl,ids,hX.keeps k (λ x hx hm=>hN x hx (h1 x hm).1) (λ x hx hm=>hN x hx (h2 x hm).1)⟩,λ x hx=>⟨hg x (hX.mlt x hx) (h1 x hx).1,(h1 x hx).2⟩,λ x hx=>⟨hg x (hX.dlt x hx) (h2 x hx).1,(h2 x hx).2⟩⟩,Φ.fr _ _ _ hr k (λ x hx hf=>hN x hx (hs x hf)),λ x hf=>hg x (hlt x hf) (hs x hf),hn,hsA⟩
theorem JX.step (hX:ArW w M D p slots ids A) (h1:∀ x,M x->G x/\¬Φ.F x) (h2:∀ x,D x->G x/\¬Φ.W x) (hr:Φ.P w) (hs:∀ x,Φ.F x->G x) (hnew:∀ x,w.heap.size<=x->G x) (k:Keeps M w w') (hX':ArX w' M1 D1 p A') (hM1:∀ x,M1 x->M x\/Fresh w w' x) (hD1:∀ x,D1 x->D x\/Fresh w w' x) (hsA:∀ s ∈ A'.sl,NdSm 0 s.nd):JX w' G Φ p A'/\Keeps G w w':=by
 refine ⟨⟨⟨M1,D1,hX',λ x hx=>?_,λ x hx=>?_⟩,Φ.fr _ _ _ hr k (λ x _ hf hm=>(h1 x hm).2 hf),hs,λ x hx=>hnew x (Nat.le_trans k.size hx),hsA⟩,k.mono (λ x _ hx=>(h1 x hx).1)⟩
 ·rcases hM1 x hx with h|h
  ·exact h1 x h
  ·exact ⟨hnew x h.1,λ hf=>by have:=Φ.lt _ hr x (.inl hf);have:=h.1;omega⟩
 ·rcases hD1 x hx with h|h
  ·exact h2 x h
  ·exact ⟨hnew x h.1,λ hf=>by have:=Φ.lt _ hr x (.inr hf);have:=h.1;omega⟩
theorem JX.wordX (h:JX w G Φ p A):Calls Tryz.prog 22 #[pV p,iV ix] w λ e w'=>e=.returned (.tuple #[.int .u64 (opWord A ix),iV (opErr A ix)])/\w=w':=by
 obtain ⟨⟨M,D,⟨sl,ids,hX⟩,h1,h2⟩,hr,hs_,hnew,hsA⟩:=h
 exact Proofs.YtjcgphhpaenjkaaGreat.wordX hX
theorem JX.rootX (h:JX w G Φ p A):Calls Tryz.prog 70 #[pV p] w λ e w'=>e=.returned (iV A.root)/\w=w':=by
 obtain ⟨⟨M,D,⟨sl,ids,hX⟩,h1,h2⟩,hr,hs_,hnew,hsA⟩:=h
 exact root_ hX
theorem JX.headX (h:JX w G Φ p A):Calls Tryz.prog 136 #[pV p,iV ix] w λ e w'=>∃ d0 d1 d2,e=.returned (.tuple #[.agg #[d0,d1,d2],iV (opErr A ix)])/\OHd w' (Fresh w w') d0 d1 d2 (opNd A ix)/\JX w' G Φ p A/\Keeps Nob w w':=by
 have h':=h
 obtain ⟨⟨M,D,⟨sl,ids,hX⟩,h1,h2⟩,hr,hs_,hnew,hsA⟩:=h
 refine (Proofs.YtjcgphhpaenjkaaGreat.headX hX hsA).mono ?_
 rintro e w' ⟨d0,d1,d2,rfl,ho,k⟩
 exact ⟨d0,d1,d2,rfl,ho,h'.nob k,k⟩
theorem JX.bodyX (h:JX w G Φ p A):Calls Tryz.prog 137 #[pV p,iV ix] w λ e w'=>∃ d0 d1 d2,e=.returned (.tuple #[.agg #[d0,d1,d2],iV (opErr A ix)])/\OBd w' (Fresh w w') d0 d1 d2 (opNd A ix)/\JX w' G Φ p A/\Keeps Nob w w':=by
 have h':=h
 obtain ⟨⟨M,D,⟨sl,ids,hX⟩,h1,h2⟩,hr,hs_,hnew,hsA⟩:=h
 refine (Proofs.YtjcgphhpaenjkaaGreat.bodyX hX hsA).mono ?_
 rintro e w' ⟨d0,d1,d2,rfl,ho,k⟩
 exact ⟨d0,d1,d2,rfl,ho,h'.nob k,k⟩
theorem JX.lockX {wd:Nat} (h:JX w G Φ p A) (hu:U64 wd):Calls Tryz.prog 82 #[pV p,iV ix,.int .u64 wd] w λ e w'=>e=.returned (.tuple #[.bool (opLock A ix wd).1,iV (opLock A ix wd).2.1])/\JX w' G Φ p (opLock A ix wd).2.2/\Keeps G w w':=by
 obtain ⟨⟨M,D,⟨sl,ids,hX⟩,h1,h2⟩,hr,hs_,hnew,hsA⟩:=h
 refine (Proofs.YtjcgphhpaenjkaaGreat.lockX hX hu).mono ?_
 rintro e w' ⟨rfl,hs,k⟩
 exact ⟨rfl,JX.step hX h1 h2 hr hs_ hnew k ⟨_,_,hs⟩ (λ x hx=>.inl hx) (λ x hx=>.inl hx) (sm_lock hsA)⟩
theorem JX.unlockX {c:Bool} (h:JX w G Φ p A)  : Calls Tryz.prog 85 #[pV p,iV ix,.bool c] w λ e w'=>e=.returned (iV (opUnlock A ix c).1)/\JX w' G Φ p (opUnlock A ix c).2/\Keeps G w w':=by
 obtain ⟨⟨M,D,⟨sl,ids,hX⟩,h1,h2⟩,hr,hs_,hnew,hsA⟩:=h
 refine (Proofs.YtjcgphhpaenjkaaGreat.unlockX hX).mono ?_
 rintro e w' ⟨rfl,hs,k⟩
 exact ⟨rfl,JX.step hX h1 h2 hr hs_ hnew k ⟨_,_,hs⟩ (λ x hx=>.inl hx) (λ x hx=>.inl hx) (sm_unlock hsA)⟩
theorem JX.growX {o:Int} (h:JX w G Φ p A)  : Calls Tryz.prog 171 #[pV p,iV o,iV ix] w λ e w'=>e=.returned (.tuple #[.bool (opGrow A o ix).1,iV (opGrow A o ix).2.1])/\JX w' G Φ p (opGrow A o ix).2.2/\Keeps G w w':=by
 obtain ⟨⟨M,D,⟨sl,ids,hX⟩,h1,h2⟩,hr,hs_,hnew,hsA⟩:=h
 refine (Proofs.YtjcgphhpaenjkaaGreat.growX hX).mono ?_
 rintro e w' ⟨rfl,hs,k⟩
 exact ⟨rfl,JX.step hX h1 h2 hr hs_ hnew k ⟨_,_,hs⟩ (λ x hx=>.inl hx) (λ x hx=>.inl hx) (sm_grow hsA)⟩
theorem JX.allocX  (h:JX w G Φ p A)  : Calls Tryz.prog 166 #[pV p] w λ e w'=>e=.returned (.tuple #[iV (opAlloc A).1,iV (opAlloc A).2.1])/\JX w' G Φ p (opAlloc A).2.2/\Keeps G w w':=by
 obtain ⟨⟨M,D,⟨sl,ids,hX⟩,h1,h2⟩,hr,hs_,hnew,hsA⟩:=h
 refine (Proofs.YtjcgphhpaenjkaaGreat.allocX hX).mono ?_
 rintro e w' ⟨rfl,hs,k⟩
 exact ⟨rfl,JX.step hX h1 h2 hr hs_ hnew k hs (λ x hx=>hx) (λ x hx=>.inl hx) (sm_alloc hsA)⟩
theorem JX.setHeadX {S:Nat->Prop} {a0 a1 a2:Value} {n:Nd} (h:JX w G Φ p A) (hh:IsHd w S a0 a1 a2 n) (hn:NdSm 0 n):Calls Tryz.prog 169 #[pV p,iV ix,.agg #[a0,a1,a2]] w λ e w'=>e=.returned (iV (opSetHead A ix n).1)/\JX w' G Φ p (opSetHead A ix n).2/\Keeps G w w':=by
 obtain ⟨⟨M,D,⟨sl,ids,hX⟩,h1,h2⟩,hr,hs_,hnew,hsA⟩:=h
 refine (Proofs.YtjcgphhpaenjkaaGreat.setHeadX hX hh hn).mono ?_
 rintro e w' ⟨rfl,hs,k⟩
 exact ⟨rfl,JX.step hX h1 h2 hr hs_ hnew k ⟨_,_,hs⟩ (λ x hx=>.inl hx) (λ x hx=>hx) (sm_setHead hsA hn)⟩
theorem JX.setBodyX {S:Nat->Prop} {a0 a1 a2:Value} {n:Nd} (h:JX w G Φ p A) (hh:IsBd w S a0 a1 a2 n) (hn:NdSm 0 n):Calls Tryz.prog 84 #[pV p,iV ix,.agg #[a0,a1,a2]] w λ e w'=>e=.returned (iV (opSetBody A ix n).1)/\JX w' G Φ p (opSetBody A ix n).2/\Keeps G w w':=by
 obtain ⟨⟨M,D,⟨sl,ids,hX⟩,h1,h2⟩,hr,hs_,hnew,hsA⟩:=h
 refine (Proofs.YtjcgphhpaenjkaaGreat.setBodyX hX hh hn).mono ?_
 rintro e w' ⟨rfl,hs,k⟩
 exact ⟨rfl,JX.step hX h1 h2 hr hs_ hnew k ⟨_,_,hs⟩ (λ x hx=>.inl hx) (λ x hx=>hx) (sm_setBody hsA hn)⟩
end
end Go.Proofs.YtjcgphhpaenjkaaGreat

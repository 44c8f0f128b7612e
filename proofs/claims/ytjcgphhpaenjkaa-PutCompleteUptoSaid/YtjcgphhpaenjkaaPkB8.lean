import Derived.Test.YtjcgphhpaenjkaaPkB7
set_option linter.unusedVariables false
namespace Go.Proofs.Ytjcgphhpaenjkaa
open Go.RowKit
section
variable {a0 a1 a2 a3 a4 leaf inner:Int} {A A' V V':Ar} {ps:List Pm} {m m':Pm} {lv lv':Int} {ls ls':List Ch} {es es':List Ent} {i k:Nat} {ix:Int} {n:Nd} {d:Mc} {s:Sl}
theorem unlock_odd (hs:A.get ix=some s) (ho:s.word % 2=1) (hb:s.word+2 < 18446744073709551616) (c:Bool):opUnlock A ix c=(0,A.put ix ⟨if c then s.word+1 else s.word-1,s.nd⟩):=by
 unfold opUnlock
 rw [hs]
 simp only
 rw [if_neg (by omega)]
 unfold back
 cases c
 ·rfl
 ·simp only [if_true];rw [Nat.mod_eq_of_lt (by omega)]
theorem setHead_odd (hs:A.get ix=some s) (ho:s.word % 2=1):opSetHead A ix n=(0,A.put ix ⟨s.word,withHd s.nd n⟩):=by unfold opSetHead;rw [hs];simp only;rw [if_neg (by omega)]
theorem setBody_odd (hs:A.get ix=some s) (ho:s.word % 2=1):opSetBody A ix n=(0,A.put ix ⟨s.word,withHd n s.nd⟩):=by unfold opSetBody;rw [hs];simp only;rw [if_neg (by omega)]
theorem DEach.mid (h:DEach leaf inner V lv ls m) (hk:(m.nx=3/\k=4)\/(m.nx=6/\k=7)\/(8<=m.nx/\m.nx<=12/\k=m.nx+1)) (hf:m.nx=10->opNd V m.fresh=m.right):DEach leaf inner V lv ls {m with nx:=k}:=by
 have hl:m.live:=⟨by omega,by omega⟩
 refine ⟨λ _=>h.key hl,λ _ h0=>?_,λ h1=>by have h2:k=1:=h1;omega,λ _ _=>h.at_ (by omega) (by omega),λ _=>?_,λ h1 h2=>h.halves ?_ ?_,λ x hx=>h.own x ?_,λ h1 h2=>?_,λ h1=>by have h2:k=19:=h1;omega⟩
 ·obtain ⟨p1,p2,p3⟩:=h.pend hl h0
  exact ⟨p1,p2,p3⟩
 ·obtain ⟨n1,n2,n3,n4⟩:=h.nw (by omega)
  exact ⟨n1,n2,λ hq=>n3 (by have h2:k=3\/k=4:=hq;omega),λ q1 q2=>n4 (by have h2:k≠3:=q1;have h3:k≠4:=q2;omega) (by have h2:k≠3:=q1;have h3:k≠4:=q2;omega)⟩
 ·have h3:8<=k:=h1;omega
 ·have h3:8<=k:=h1;omega
 ·rcases hk with hk|hk|hk
  ·rw [own_no (m:={m with nx:=k}) (.inl (by show k<=7;omega))] at hx;cases hx
  ·rw [own_no (m:={m with nx:=k}) (.inl (by show k<=7;omega))] at hx;cases hx
  ·rw [own_fresh (m:={m with nx:=k}) (by show 8<=k;omega) (by show k<=13;omega)] at hx
   rw [own_fresh (by omega) (by omega)];exact hx
 ·have h3:11<=k:=h1
  by_cases e:m.nx=10
  ·exact hf e
  ·exact h.freshNd (by omega) (by omega)
theorem grips_id (h1:3<=m.nx) (h2:m.nx<=13):m.grips ix ↔ ix=m.id:=⟨λ h=>h.2.symm,λ h=>⟨⟨h1,h2⟩,h.symm⟩⟩
theorem DInv.inside (h:DInv a0 a1 a2 a3 a4 A V ps lv ls es) (hm:ps[i]?=some m) (h3:3<=m.nx) (h4:m.nx<=12) (hk:(m.nx=3/\k=4)\/(8<=m.nx/\m.nx<=12/\k=m.nx+1)) (hf:m.nx=10->opNd V m.fresh=m.right) (t:Sl) (hinv:PInv a1 a2 (A.put m.id t) (ps.set i {m with nx:=k})):DInv a0 a1 a2 a3 a4 (A.put m.id t) V (ps.set i {m with nx:=k}) lv ls es:=by
 have hmm:=List.mem_of_getElem? hm
 have hg:∀ ix,({m with nx:=k}:Pm).grips ix ↔ ix=m.id:=λ ix=>grips_id (m:={m with nx:=k}) (by show 3<=k;omega) (by show k<=13;omega)
 have hg0:∀ ix,m.grips ix ↔ ix=m.id:=λ ix=>grips_id h3 (by omega)
 have hpos:1<=m.id:=(h.tree.met.2 _ ((h.each m hmm).at_ (by omega) (by omega)).1.ids).1
 refine h.quiet hm hinv rfl (put_len _) rfl (λ ix hq=>h.vof.grip m hmm ix ((hg0 ix).2 ((hg ix).1 hq))) (λ ix hq _=>opNd_put_ne hpos (λ e=>hq ((hg0 ix).2 e))) (λ ix hq hq'=>absurd ((hg ix).2 ((hg0 ix).1 hq)) hq') ((h.each m hmm).mid (by omega) hf) (λ x hx=>?_) (λ _ h0=>⟨⟨by omega,by omega⟩,h0,rfl⟩)
 rcases hk with hk|hk
 ·rw [own_no (m:={m with nx:=k}) (.inl (by show k<=7;omega))] at hx;cases hx
 ·rw [own_fresh (m:={m with nx:=k}) (by show 8<=k;omega) (by show k<=13;omega)] at hx
  rw [own_fresh (by omega) (by omega)];exact hx
theorem DInv.ownPut (h:DInv a0 a1 a2 a3 a4 A V ps lv ls es) (hm:ps[i]?=some m) {x:Int} (hx:m.own=[x]) {t:Sl} (hs:A.get x=some s) (hinv:PInv a1 a2 (A.put x t) (ps.set i m')) (hg:∀ ix,m'.grips ix ↔ m.grips ix) (hold:m'.old=m.old) (hxg:¬m.grips x) (hoth:∀ (j:Nat) y,j≠i->ps[j]?=some y->¬y.grips x)
  (hme:∀ V',Ext lv ls lv ls->V'.sl.length=V.sl.length->(∀ y,y≠x->opNd V' y=opNd V y)->opNd V' x=t.nd->DEach a1 a2 V' lv ls m') (hown:m'.own=[x]) (hhalf:m'.live->0 < m'.level->m.live/\0 < m.level/\m'.half=m.half):DInv a0 a1 a2 a3 a4 (A.put x t) (V.put x ⟨0,t.nd⟩) (ps.set i m') lv ls es:=by
 have hmm:=List.mem_of_getElem? hm
 obtain ⟨o1,o2,o3⟩:=(h.each m hmm).own x (by rw [hx];exact List.mem_singleton.2 rfl)
 obtain ⟨v,hv⟩:=get_in o2 o3
 have hxx:opNd (V.put x ⟨0,t.nd⟩) x=t.nd:=opNd_put hv
 have hne:∀ y,y≠x->opNd (V.put x ⟨0,t.nd⟩) y=opNd V y:=λ y hy=>opNd_put_ne o2 hy
 refine h.side hm hinv (h.vof.turn hm h.vof.root (by rw [put_len,put_len];exact h.vof.len) (λ ix hq=>?_) (λ j y ix hj hy hq=>hne ix (λ e=>hoth j y hj hy (e▸hq))) (λ ix hq hq'=>?_)) rfl (λ s hs=>?_) (Nat.le_of_eq (put_len _).symm) (λ y hy ho=>put_get_ne (λ e=>ho (by rw [hx,e];exact List.mem_singleton.2 rfl)) o2 _) (hme _ Ext.refl (put_len _) hne hxx) (λ y hy=>.inl (by rw [hx,<-hown];exact hy)) hhalf ⟨h.room.1,by rw [put_len];exact h.room.2⟩
 ·have h1:=(hg ix).1 hq
  rw [hold,hne ix (λ e=>hxg (e▸h1))]
  exact h.vof.grip m hmm ix h1
 ·by_cases e:ix=x
  ·rw [e,hxx,opNd_put hs]
  ·rw [hne ix e,opNd_put_ne o2 e]
   refine h.vof.free ix (λ y hy=>?_)
   obtain ⟨j,hj⟩:=mem_at hy
   by_cases e2:j=i
   ·subst e2;rw [hm] at hj;cases hj;exact λ hc=>hq ((hg ix).2 hc)
   ·exact hq' j y e2 hj
 ·rcases List.mem_or_eq_of_mem_set hs with h1|h1
  ·exact h.tree.even s h1
  ·rw [h1];rfl
theorem PInv.notGrip (h:PInv leaf inner A ps) (hm:ps[i]?=some m) {x:Int} (hx:x ∈ m.holds):∀ (j:Nat) y,j≠i->ps[j]?=some y->¬y.grips x:=λ j y hj hy ⟨hg,e⟩=>h.apart j i y m hj hy hm x (by rw [<-e];exact holds_id hg.1 hg.2) hx
theorem get_snoc (t:Sl) {x:Int}:({A with sl:=A.sl++[t]}:Ar).get x=if x=(A.sl.length:Int)+1 then some t else A.get x:=by
 unfold Ar.get
 by_cases h1:1<=x
 ·rw [if_pos h1,if_pos h1]
  by_cases h2:x=(A.sl.length:Int)+1
  ·rw [if_pos h2,List.getElem?_append_right (by omega)]
   rw [show (x-1).toNat-A.sl.length=0 by omega];rfl
  ·rw [if_neg h2]
   by_cases h3:x<=A.sl.length
   ·rw [List.getElem?_append_left (by omega)]
   ·rw [List.getElem?_eq_none (by simp;omega),List.getElem?_eq_none (by omega)]
 ·rw [if_neg h1,if_neg h1,if_neg (by omega)]
theorem opNd_snoc (t:Sl) {x:Int}:opNd ({A with sl:=A.sl++[t]}:Ar) x=if x=(A.sl.length:Int)+1 then t.nd else opNd A x:=by
 unfold opNd;rw [get_snoc]
 by_cases h:x=(A.sl.length:Int)+1
 ·rw [if_pos h,if_pos h]
 ·rw [if_neg h,if_neg h]
theorem DInv.alloc (h:DInv a0 a1 a2 a3 a4 A V ps lv ls es) (hm:ps[i]?=some m) (hroom:A.sl.length≠A.nodes) (hinv:PInv a1 a2 {A with sl:=A.sl++[⟨1,Nd.zero⟩]} (ps.set i m')) (hg:∀ ix,m'.grips ix ↔ m.grips ix) (hold:m'.old=m.old) (hown0:m.own=[]) (hown:m'.own=[(A.sl.length:Int)+1])
  (hme:∀ V',V.sl.length<=V'.sl.length->(A.sl.length:Int)+1<=V'.sl.length->(∀ y ∈ ids ls,opNd V' y=opNd V y)->DEach a1 a2 V' lv ls m') (hhalf:m'.live->0 < m'.level->m.live/\0 < m.level/\m'.half=m.half):DInv a0 a1 a2 a3 a4 {A with sl:=A.sl++[⟨1,Nd.zero⟩]} {V with sl:=V.sl++[⟨0,Nd.zero⟩]} (ps.set i m') lv ls es:=by
 have hmm:=List.mem_of_getElem? hm
 have hl:=h.vof.len
 have hlen:({V with sl:=V.sl++[⟨0,Nd.zero⟩]}:Ar).sl.length=V.sl.length+1:=by simp
 have hold':∀ y:Int,y<=(V.sl.length:Int)->({V with sl:=V.sl++[⟨0,Nd.zero⟩]}:Ar).get y=V.get y:=λ y hy=>by rw [get_snoc,if_neg (by omega)]
 have hidle:∀ y ∈ ids ls,y<=(V.sl.length:Int):=λ y hy=>(h.tree.met.2 y hy).2
 have hgl:∀ (x:Pm),x ∈ ps->∀ ix,x.grips ix->ix<=(V.sl.length:Int):=λ x hx ix hq=>by
  rw [<-hq.2];exact hidle _ ((h.each x hx).at_ (by have:=hq.1;omega) hq.1.2).1.ids
 have hnd:∀ y:Int,y<=(V.sl.length:Int)->opNd ({V with sl:=V.sl++[⟨0,Nd.zero⟩]}:Ar) y=opNd V y:=λ y hy=>by unfold opNd;rw [hold' y hy]
 refine h.side hm hinv (h.vof.turn hm h.vof.root (by simp;exact hl) (λ ix hq=>?_) (λ j y ix hj hy hq=>hnd ix (hgl y (List.mem_of_getElem? hy) ix hq)) (λ ix hq hq'=>?_)) rfl (λ s hs=>?_) (by omega) (λ y hy _=>hold' y hy) (hme _ (by omega) (by omega) (λ y hy=>hnd y (hidle y hy))) (λ y hy=>.inr ?_) hhalf ⟨h.room.1,by simp only [List.length_append,List.length_singleton];have:=h.room.2;omega⟩
 ·have h1:=(hg ix).1 hq
  rw [hold,hnd ix (hgl m hmm ix h1)]
  exact h.vof.grip m hmm ix h1
 ·rw [opNd_snoc,opNd_snoc,hl]
  split
  ·rfl
  ·refine h.vof.free ix (λ y hy=>?_)
   obtain ⟨j,hj⟩:=mem_at hy
   by_cases e2:j=i
   ·subst e2;rw [hm] at hj;cases hj;exact λ hc=>hq ((hg ix).2 hc)
   ·exact hq' j y e2 hj
 ·rcases List.mem_append.1 hs with h1|h1
  ·exact h.tree.even s h1
  ·rw [List.mem_singleton.1 h1];rfl
 ·rw [hown] at hy
  have:=List.mem_singleton.1 hy
  omega
end
section
variable {a0 a1 a2 a3 a4 leaf inner:Int} {A A' V V':Ar} {ps:List Pm} {m m':Pm} {lv lv':Int} {ls ls':List Ch} {es es':List Ent} {i k:Nat} {ix:Int} {n:Nd} {d:Mc} {s:Sl}
def Same (a0 a1 a2 a3 a4:Int) (A:Ar) (ps:List Pm) (lv:Int) (ls:List Ch) (es:List Ent) (i:Nat) (m:Pm):Prop:=∃ V',DInv a0 a1 a2 a3 a4 (stepP a1 a2 A m).2.1 V' (ps.set i (stepP a1 a2 A m).2.2) lv ls es
theorem DInv.step0 (h:DInv a0 a1 a2 a3 a4 A V ps lv ls es) (hm:ps[i]?=some m) (hx:m.nx=0) (hk:Kept a1 a2 A ps i m):Same a0 a1 a2 a3 a4 A ps lv ls es i m:=by
 have hk':PInv a1 a2 (stepP a1 a2 A m).2.1 (ps.set i (stepP a1 a2 A m).2.2):=hk
 unfold Same
 rw [stepP_0 hx] at hk' ⊢
 exact ⟨V,h.ends hm (by omega) rfl hk'⟩
theorem DInv.step20 (h:DInv a0 a1 a2 a3 a4 A V ps lv ls es) (hm:ps[i]?=some m) (hx:m.nx=20) (hk:Kept a1 a2 A ps i m):Same a0 a1 a2 a3 a4 A ps lv ls es i m:=by
 have hk':PInv a1 a2 (stepP a1 a2 A m).2.1 (ps.set i (stepP a1 a2 A m).2.2):=hk
 unfold Same
 rw [stepP_through hx] at hk' ⊢
 exact ⟨V,h.ends hm (by omega) hx hk'⟩
theorem DInv.step14 (h:DInv a0 a1 a2 a3 a4 A V ps lv ls es) (hm:ps[i]?=some m) (hx:m.nx=14) (hk:Kept a1 a2 A ps i m):Same a0 a1 a2 a3 a4 A ps lv ls es i m:=by
 have hk':PInv a1 a2 (stepP a1 a2 A m).2.1 (ps.set i (stepP a1 a2 A m).2.2):=hk
 have hE:=h.each m (List.mem_of_getElem? hm)
 have hl:m.live:=⟨by omega,by omega⟩
 unfold Same
 rw [stepP_14 hx] at hk' ⊢
 split at hk'<;>rename_i c
 ·rw [if_pos c];exact ⟨V,h.ends hm (by omega) rfl hk'⟩
 ·rw [if_neg c]
  refine ⟨V,h.quiet hm hk' rfl rfl rfl (λ ix hg=>absurd hg (nogrip_of (.inr (by show 14<=15;decide)) ix)) (λ _ _ _=>rfl) (λ ix hg=>absurd hg (nogrip_of (by omega) ix)) ?_ (noown (.inr (.inr (.inl rfl)))) (λ _ h0=>⟨hl,h0,rfl⟩)⟩
  refine ⟨λ _=>hE.key hl,λ _ h0=>?_,λ h1=>by have h2:(15:Nat)=1:=h1;omega,λ _ h1=>by have h2:15<=13:=h1;omega,λ h1=>by have h2:(15:Nat)=3\/(15:Nat)=4\/(6<=15/\15<=13):=h1;omega,λ _ h1=>by have h2:15<=13:=h1;omega,noown (.inr (.inr (.inl rfl))),λ _ h1=>by have h2:15<=13:=h1;omega,λ h1=>by have h2:(15:Nat)=19:=h1;omega⟩
  obtain ⟨p1,p2,p3⟩:=hE.pend hl h0
  exact ⟨p1,p2,p3⟩
theorem DInv.slot (h:DInv a0 a1 a2 a3 a4 A V ps lv ls es) {x:Int} (hx:x ∈ ids ls):∃ s,A.get x=some s:=get_in (h.tree.met.2 x hx).1 (by rw [<-h.vof.len];exact (h.tree.met.2 x hx).2)
theorem DInv.step2 (h:DInv a0 a1 a2 a3 a4 A V ps lv ls es) (hm:ps[i]?=some m) (hx:m.nx=2) (hk:Kept a1 a2 A ps i m):Same a0 a1 a2 a3 a4 A ps lv ls es i m:=by
 have hk':PInv a1 a2 (stepP a1 a2 A m).2.1 (ps.set i (stepP a1 a2 A m).2.2):=hk
 have hmm:=List.mem_of_getElem? hm
 have hE:=h.each m hmm
 have hl:m.live:=⟨by omega,by omega⟩
 have hat:=hE.at_ (by omega) (by omega)
 obtain ⟨s,hs⟩:=h.slot hat.1.ids
 have hpos:1<=m.id:=(get_le hs).1
 have he:(opLock A m.id m.word).2.1=0:=by unfold opLock;rw [hs];simp only;split<;>rfl
 unfold Same
 rw [stepP_2 hx he] at hk' ⊢
 by_cases hw:s.word=m.word/\m.word % 2=0
 ·have hlk:opLock A m.id m.word=(true,0,A.put m.id ⟨m.word+1,s.nd⟩):=by unfold opLock;rw [hs];simp only;rw [if_pos hw]
  have hold:m.old=s.nd/\opNd V m.id=s.nd:=by
   have h2:=h.inv.each m hmm
   unfold PEach at h2
   rw [hx] at h2
   obtain ⟨_,_,_,d,hD,hd1,hd2,_,hd4,hd5,hd6⟩:=h2
   have:=h.cur hmm hD (.inr ⟨hd1,hd2⟩) (by rw [<-hd4];exact hs) (by rw [<-hd5];exact hw.1)
   rw [<-hd4,<-hd6] at this
   exact this
  rw [hlk] at hk' ⊢
  rw [if_neg (λ e=>by cases e)] at hk' ⊢
  have fin:∀ m':Pm,3<=m'.nx->m'.nx<=7->m'.nx≠4->m'.nx≠7->m'.id=m.id->m'.old=m.old->m'.sep=m.sep->m'.level=m.level->m'.key=m.key->m'.val=m.val->m'.half=m.half->m'.side=m.side->(m'.nx≠5->m'.nw=newP m'/\(0 < m'.level->has m'.old.keys m'.sep=false)/\m'.nx=if over (newP m') a1 a2 then 6 else 3)->PInv a1 a2 (A.put m.id ⟨m.word+1,s.nd⟩) (ps.set i m')->∃ V',DInv a0 a1 a2 a3 a4 (A.put m.id ⟨m.word+1,s.nd⟩) V' (ps.set i m') lv ls es:=by
   intro m' g1 g2 g2a g2b g3 g4 g5 g6 g7 g8 g9 g10 g11 hi
   have hg:∀ ix,m'.grips ix ↔ ix=m.id:=λ ix=>by rw [grips_id g1 (by omega),g3]
   refine ⟨V,h.quiet hm hi rfl (put_len _) rfl (λ ix hq=>by rw [(hg ix).1 hq,g4,hold.1];exact hold.2) (λ ix _ hq=>opNd_put_ne hpos (λ e=>hq ((hg ix).2 e))) (λ ix hq=>absurd hq (nogrip_of (by omega) ix)) ?_ (noown (by omega)) (λ _ h0=>⟨hl,by rw [<-g6];exact h0,g9⟩)⟩
   refine ⟨λ _=>?_,λ _ h0=>?_,λ h1=>by omega,λ _ _=>?_,λ h1=>?_,λ h1=>by omega,noown (by omega),λ h1=>by omega,λ h1=>by omega⟩
   ·rw [g7,g8,g6,g5];exact hE.key hl
   ·obtain ⟨p1,p2,p3⟩:=hE.pend hl (by rw [<-g6];exact h0)
    exact ⟨by rw [g5];exact p1,by rw [g6,g9,g5,g10];exact p2,by rw [g9];exact p3⟩
   ·rw [g6,g3,g5,g4];exact hat
   ·obtain ⟨q1,q2,q3⟩:=g11 (by omega)
    refine ⟨q1,q2,λ hq=>?_,λ hq hq'=>?_⟩
    ·rw [q1]
     cases ho:over (newP m') a1 a2 with
     | false=>rfl
     | true=>rw [ho,if_pos rfl] at q3;omega
    ·rw [q1]
     cases ho:over (newP m') a1 a2 with
     | true=>rfl
     | false=>rw [ho,if_neg (by decide)] at q3;omega
  have h36:∀ b:Bool,3<=(if b=true then 6 else 3)/\(if b=true then 6 else 3)<=7/\(if b=true then 6 else 3)≠4/\(if b=true then 6 else 3)≠7:=by intro b;cases b<;>decide
  by_cases h0:m.level=0
  ·rw [if_pos h0] at hk' ⊢
   refine fin _ (h36 _).1 (h36 _).2.1 (h36 _).2.2.1 (h36 _).2.2.2 rfl rfl rfl rfl rfl rfl rfl rfl (λ _=>⟨rfl,λ hq=>by have h1:0 < m.level:=hq;omega,rfl⟩) hk'
  ·rw [if_neg h0] at hk' ⊢
   cases hh:has m.old.keys m.sep with
   | true=>
    rw [hh,if_pos rfl] at hk'
    rw [if_pos rfl]
    exact fin _ (by show 3<=5;decide) (by show 5<=7;decide) (by show (5:Nat)≠4;decide) (by show (5:Nat)≠7;decide) rfl rfl rfl rfl rfl rfl rfl rfl (λ hq=>absurd rfl hq) hk'
   | false=>
    rw [hh,if_neg (by decide)] at hk'
    rw [if_neg (by decide)]
    refine fin _ (h36 _).1 (h36 _).2.1 (h36 _).2.2.1 (h36 _).2.2.2 rfl rfl rfl rfl rfl rfl rfl rfl (λ _=>⟨rfl,λ _=>hh,rfl⟩) hk'
 ·have hlk:opLock A m.id m.word=(false,0,A):=by unfold opLock;rw [hs];simp only;rw [if_neg hw]
  rw [hlk] at hk' ⊢
  rw [if_pos rfl] at hk' ⊢
  exact ⟨V,h.goes hm (by omega) hl hk'⟩
theorem DInv.step57 (h:DInv a0 a1 a2 a3 a4 A V ps lv ls es) (hm:ps[i]?=some m) (hx:m.nx=5\/m.nx=7) (hk:Kept a1 a2 A ps i m) (hb:∀ s ∈ A.sl,s.word+2 < 18446744073709551616):Same a0 a1 a2 a3 a4 A ps lv ls es i m:=by
 have hk':PInv a1 a2 (stepP a1 a2 A m).2.1 (ps.set i (stepP a1 a2 A m).2.2):=hk
 have hmm:=List.mem_of_getElem? hm
 obtain ⟨s,hs,ho⟩:=h.inv.slot hm (holds_id (m:=m) (by omega) (by omega))
 obtain ⟨j,_,hj,_⟩:=get_some hs
 have hu:=unlock_odd hs ho (hb s (List.mem_of_getElem? hj)) false
 have hbase:PBase A m:=by
  have h2:=(h.inv.each m hmm).2.2.2
  rcases hx with hx|hx<;>rw [hx] at h2<;>exact h2
 have hsn:s.nd=m.old:=by
  obtain ⟨⟨s',hs',_,hn⟩,_⟩:=hbase
  rw [hs] at hs';cases hs';exact hn
 have hg0:∀ ix,m.grips ix ↔ ix=m.id:=λ ix=>grips_id (by omega) (by omega)
 have fin:∀ m':Pm,m'.nx=20->PInv a1 a2 (opUnlock A m.id false).2 (ps.set i m')->∃ V',DInv a0 a1 a2 a3 a4 (opUnlock A m.id false).2 V' (ps.set i m') lv ls es:=λ m' hm' hi=>by
  rw [hu] at hi ⊢
  refine ⟨V,h.quiet hm hi rfl (put_len _) rfl (λ ix hq=>absurd hq (nogrip_of (by omega) ix)) (λ ix hq _=>opNd_put_ne (get_le hs).1 (λ e=>hq ((hg0 ix).2 e))) (λ ix hq _=>?_) (DEach.through hm') (noown (by omega)) (λ hl=>absurd hm' hl.2)⟩
  rw [(hg0 ix).1 hq,opNd_put hs,h.vof.grip m hmm m.id ((hg0 _).2 rfl)]
  exact hsn
 have he:(opUnlock A m.id false).1=0:=by rw [hu]
 unfold Same
 rcases hx with hx|hx
 ·rw [stepP_5 hx he] at hk' ⊢;exact fin _ rfl hk'
 ·rw [stepP_7 hx he] at hk' ⊢
  split at hk'<;>rename_i c
  ·rw [if_pos c];exact fin _ rfl hk'
  ·rw [if_neg c];exact fin _ rfl hk'
theorem DInv.step3 (h:DInv a0 a1 a2 a3 a4 A V ps lv ls es) (hm:ps[i]?=some m) (hx:m.nx=3\/m.nx=11\/m.nx=12) (hk:Kept a1 a2 A ps i m):Same a0 a1 a2 a3 a4 A ps lv ls es i m:=by
 have hk':PInv a1 a2 (stepP a1 a2 A m).2.1 (ps.set i (stepP a1 a2 A m).2.2):=hk
 obtain ⟨s,hs,ho⟩:=h.inv.slot hm (holds_id (m:=m) (by omega) (by omega))
 unfold Same
 rcases hx with hx|hx|hx
 ·rw [stepP_3 hx (by rw [setBody_odd hs ho])] at hk' ⊢
  rw [setBody_odd hs ho] at hk' ⊢
  exact ⟨V,h.inside hm (by omega) (by omega) (.inl ⟨hx,rfl⟩) (λ e=>by omega) _ hk'⟩
 ·rw [stepP_11 hx (by rw [setHead_odd hs ho])] at hk' ⊢
  rw [setHead_odd hs ho] at hk' ⊢
  exact ⟨V,h.inside hm (by omega) (by omega) (.inr ⟨by omega,by omega,by omega⟩) (λ e=>by omega) _ hk'⟩
 ·rw [stepP_12 hx (by rw [setBody_odd hs ho])] at hk' ⊢
  rw [setBody_odd hs ho] at hk' ⊢
  exact ⟨V,h.inside hm (by omega) (by omega) (.inr ⟨by omega,by omega,by omega⟩) (λ e=>by omega) _ hk'⟩
end
section
variable {a0 a1 a2 a3 a4 leaf inner:Int} {A A' V V':Ar} {ps:List Pm} {m m':Pm} {lv lv':Int} {ls ls':List Ch} {es es':List Ent} {i k:Nat} {ix:Int} {n:Nd} {d:Mc} {s:Sl}
theorem Pend.far (h:Pend V lv ls m) (hf:∀ y ∈ Proofs.Ytjcgphhpaenjkaa.ids ls,opNd V' y=opNd V y):Pend V' lv ls m:=
 ⟨h.sep,h.half,λ e he=>by rw [hf e.1 (List.mem_map.2 ⟨e,he,rfl⟩)];exact h.kid e he⟩
theorem allocFull (hf:A.sl.length=A.nodes):opAlloc A=(0,2,A):=by unfold opAlloc;rw [if_pos hf]
theorem allocNew (hf:A.sl.length≠A.nodes):opAlloc A=((A.sl.length:Int)+1,0,{A with sl:=A.sl++[⟨1,Nd.zero⟩]}):=by unfold opAlloc;rw [if_neg hf]
theorem DInv.step6 (h:DInv a0 a1 a2 a3 a4 A V ps lv ls es) (hm:ps[i]?=some m) (hx:m.nx=6) (hk:Kept a1 a2 A ps i m):Same a0 a1 a2 a3 a4 A ps lv ls es i m:=by
 have hk':PInv a1 a2 (stepP a1 a2 A m).2.1 (ps.set i (stepP a1 a2 A m).2.2):=hk
 have hmm:=List.mem_of_getElem? hm
 have hE:=h.each m hmm
 have hl:m.live:=⟨by omega,by omega⟩
 unfold Same
 rw [stepP_6 hx] at hk' ⊢
 by_cases hf:A.sl.length=A.nodes
 ·rw [allocFull hf] at hk' ⊢
  rw [if_pos (λ e=>by cases e)] at hk' ⊢
  have hg:∀ ix,({m with nx:=7}:Pm).grips ix ↔ m.grips ix:=λ ix=>(grips_id (m:={m with nx:=7}) (by show 3<=7;decide) (by show 7<=13;decide)).trans (grips_id (m:=m) (by omega) (by omega)).symm
  exact ⟨V,h.quiet hm hk' rfl rfl rfl (λ ix hq=>h.vof.grip m hmm ix ((hg ix).1 hq)) (λ _ _ _=>rfl) (λ ix hq hq'=>absurd ((hg ix).2 hq) hq') (hE.mid (.inr (.inl ⟨hx,rfl⟩)) (λ e=>by omega)) (noown (.inl (by show 7<=7;decide))) (λ _ h0=>⟨hl,h0,rfl⟩)⟩
 ·rw [allocNew hf] at hk' ⊢
  rw [if_neg (λ e=>e rfl)] at hk' ⊢
  refine ⟨_,h.alloc hm hf hk' (λ ix=>(grips_id (by show 3<=8;decide) (by show 8<=13;decide)).trans (grips_id (m:=m) (by omega) (by omega)).symm) rfl (own_no (by omega)) (own_fresh (by show 8<=8;decide) (by show 8<=13;decide)) (λ V' g1 g2 g3=>?_) (λ _ h0=>⟨hl,h0,rfl⟩)⟩
  obtain ⟨n1,n2,n3,n4⟩:=hE.nw (by omega)
  refine ⟨λ _=>hE.key hl,λ _ h0=>?_,λ h1=>by have h2:(8:Nat)=1:=h1;omega,λ _ _=>hE.at_ (by omega) (by omega),λ _=>⟨n1,n2,λ hq=>by have h2:(8:Nat)=3\/(8:Nat)=4:=hq;omega,λ _ _=>n4 (by omega) (by omega)⟩,λ _ _=>⟨rfl,rfl,rfl⟩,λ x hx'=>?_,λ h1=>by have h2:11<=8:=h1;omega,λ h1=>by have h2:(8:Nat)=19:=h1;omega⟩
  ·obtain ⟨p1,p2,p3⟩:=(hE.pend hl h0).far g3
   exact ⟨p1,p2,p3⟩
  ·rw [own_fresh (by show 8<=8;decide) (by show 8<=13;decide)] at hx'
   rw [List.mem_singleton.1 hx']
   refine ⟨λ hin=>?_,by show (1:Int)<=(A.sl.length:Int)+1;omega,g2⟩
   have h1:=(h.tree.met.2 _ hin).2
   rw [h.vof.len] at h1
   have h2:(A.sl.length:Int)+1<=A.sl.length:=h1
   omega
theorem DInv.step15 (h:DInv a0 a1 a2 a3 a4 A V ps lv ls es) (hm:ps[i]?=some m) (hx:m.nx=15) (hk:Kept a1 a2 A ps i m):Same a0 a1 a2 a3 a4 A ps lv ls es i m:=by
 have hk':PInv a1 a2 (stepP a1 a2 A m).2.1 (ps.set i (stepP a1 a2 A m).2.2):=hk
 have hE:=h.each m (List.mem_of_getElem? hm)
 have hl:m.live:=⟨by omega,by omega⟩
 unfold Same
 rw [stepP_15 hx] at hk' ⊢
 by_cases hf:A.sl.length=A.nodes
 ·rw [allocFull hf] at hk' ⊢
  rw [if_pos (λ e=>by cases e)] at hk' ⊢
  exact ⟨V,h.ends hm (by omega) rfl hk'⟩
 ·rw [allocNew hf] at hk' ⊢
  rw [if_neg (λ e=>e rfl)] at hk' ⊢
  refine ⟨_,h.alloc hm hf hk' (λ ix=>⟨λ hq=>absurd hq (nogrip_of (.inr (by show 14<=16;decide)) ix),λ hq=>absurd hq (nogrip_of (by omega) ix)⟩) rfl (own_no (by omega)) (own_root (by show 16<=16;decide) (by show 16<=19;decide)) (λ V' g1 g2 g3=>?_) (λ _ h0=>⟨hl,h0,rfl⟩)⟩
  refine ⟨λ _=>hE.key hl,λ _ h0=>?_,λ h1=>by have h2:(16:Nat)=1:=h1;omega,λ _ h1=>by have h2:16<=13:=h1;omega,λ h1=>by have h2:(16:Nat)=3\/(16:Nat)=4\/(6<=16/\16<=13):=h1;omega,λ _ h1=>by have h2:16<=13:=h1;omega,λ x hx'=>?_,λ _ h1=>by have h2:16<=13:=h1;omega,λ h1=>by have h2:(16:Nat)=19:=h1;omega⟩
  ·obtain ⟨p1,p2,p3⟩:=(hE.pend hl h0).far g3
   exact ⟨p1,p2,p3⟩
  ·rw [own_root (by show 16<=16;decide) (by show 16<=19;decide)] at hx'
   rw [List.mem_singleton.1 hx']
   refine ⟨λ hin=>?_,by show (1:Int)<=(A.sl.length:Int)+1;omega,g2⟩
   have h1:=(h.tree.met.2 _ hin).2
   rw [h.vof.len] at h1
   have h2:(A.sl.length:Int)+1<=A.sl.length:=h1
   omega
theorem DInv.step8 (h:DInv a0 a1 a2 a3 a4 A V ps lv ls es) (hm:ps[i]?=some m) (hx:m.nx=8\/m.nx=9) (hk:Kept a1 a2 A ps i m):Same a0 a1 a2 a3 a4 A ps lv ls es i m:=by
 have hk':PInv a1 a2 (stepP a1 a2 A m).2.1 (ps.set i (stepP a1 a2 A m).2.2):=hk
 have hmm:=List.mem_of_getElem? hm
 have hE:=h.each m hmm
 have hl:m.live:=⟨by omega,by omega⟩
 have hho:m.fresh ∈ m.holds:=holds_fresh (by omega) (by omega)
 obtain ⟨s,hs,ho⟩:=h.inv.slot hm hho
 have hself:¬m.grips m.fresh:=λ hg=>by
  have h2:=(h.inv.each m hmm).2.2.2
  have e:m.id=m.fresh:=hg.2
  rcases hx with hx|hx<;>rw [hx] at h2
  ·exact h2.2.2.2.2 e.symm
  ·exact h2.2.1.2.2.2 e.symm
 have fin:∀ k t,(k=9/\m.nx=8)\/(k=10/\m.nx=9)->PInv a1 a2 (A.put m.fresh t) (ps.set i {m with nx:=k})->∃ V',DInv a0 a1 a2 a3 a4 (A.put m.fresh t) V' (ps.set i {m with nx:=k}) lv ls es:=λ k t hk1 hi=>by
  have hmid:=hE.mid (k:=k) (.inr (.inr ⟨by omega,by omega,by omega⟩)) (λ e=>by omega)
  refine ⟨_,h.ownPut hm (own_fresh (by omega) (by omega)) hs hi (λ ix=>(grips_id (m:={m with nx:=k}) (by show 3<=k;omega) (by show k<=13;omega)).trans (grips_id (m:=m) (by omega) (by omega)).symm) rfl hself (h.inv.notGrip hm hho) (λ V' _ g2 g3 _=>hmid.ext Ext.refl (Nat.le_of_eq g2.symm) (λ x hx'=>⟨(hmid.own x hx').1,λ hq=>by have h2:(11<=k/\k<=13)\/k=19:=hq;omega⟩) (λ _ h0 e he=>?_)) (own_fresh (m:={m with nx:=k}) (by show 8<=k;omega) (by show k<=13;omega)) (λ _ h0=>⟨hl,h0,rfl⟩)⟩
  have hin:e.1 ∈ ids ls:=List.mem_map.2 ⟨e,he,rfl⟩
  rw [g3 e.1 (λ e1=>(hE.own m.fresh (by rw [own_fresh (by omega) (by omega)];exact List.mem_singleton.2 rfl)).1 (e1▸hin))]
  exact (hE.pend hl h0).kid e he
 unfold Same
 rcases hx with hx|hx
 ·rw [stepP_8 hx (by rw [setHead_odd hs ho])] at hk' ⊢
  rw [setHead_odd hs ho] at hk' ⊢
  exact fin 9 _ (.inl ⟨rfl,hx⟩) hk'
 ·rw [stepP_9 hx (by rw [setBody_odd hs ho])] at hk' ⊢
  rw [setBody_odd hs ho] at hk' ⊢
  exact fin 10 _ (.inr ⟨rfl,hx⟩) hk'
theorem DInv.step10 (h:DInv a0 a1 a2 a3 a4 A V ps lv ls es) (hm:ps[i]?=some m) (hx:m.nx=10) (hk:Kept a1 a2 A ps i m) (hb:∀ s ∈ A.sl,s.word+2 < 18446744073709551616):Same a0 a1 a2 a3 a4 A ps lv ls es i m:=by
 have hk':PInv a1 a2 (stepP a1 a2 A m).2.1 (ps.set i (stepP a1 a2 A m).2.2):=hk
 have hmm:=List.mem_of_getElem? hm
 have hE:=h.each m hmm
 have hl:m.live:=⟨by omega,by omega⟩
 have hho:m.fresh ∈ m.holds:=holds_fresh (by omega) (by omega)
 obtain ⟨s,hs,ho⟩:=h.inv.slot hm hho
 obtain ⟨j,_,hj,_⟩:=get_some hs
 have hu:=unlock_odd hs ho (hb s (List.mem_of_getElem? hj)) true
 have h2:=(h.inv.each m hmm).2.2.2
 rw [hx] at h2
 have hself:¬m.grips m.fresh:=λ hg=>h2.2.1.2.2.2 (show m.id=m.fresh from hg.2).symm
 have hfr:opNd V m.fresh=m.right:=by
  rw [<-h2.2.2]
  refine h.vof.free _ (λ y hy=>?_)
  obtain ⟨q,hq⟩:=mem_at hy
  by_cases e:q=i
  ·subst e;rw [hm] at hq;cases hq;exact hself
  ·exact h.inv.notGrip hm hho q y e hq
 have hg:∀ ix,({m with nx:=11}:Pm).grips ix ↔ m.grips ix:=λ ix=>(grips_id (m:={m with nx:=11}) (by show 3<=11;decide) (by show 11<=13;decide)).trans (grips_id (m:=m) (by omega) (by omega)).symm
 unfold Same
 rw [stepP_10 hx (by rw [hu])] at hk' ⊢
 rw [hu] at hk' ⊢
 refine ⟨V,h.quiet hm hk' rfl (put_len _) rfl (λ ix hq=>h.vof.grip m hmm ix ((hg ix).1 hq)) (λ ix _ _=>?_) (λ ix hq hq'=>absurd ((hg ix).2 hq) hq') (hE.mid (.inr (.inr ⟨by omega,by omega,by omega⟩)) (λ _=>hfr)) (λ x hx'=>?_) (λ _ h0=>⟨hl,h0,rfl⟩)⟩
 ·by_cases e:ix=m.fresh
  ·rw [e,opNd_put hs];unfold opNd;rw [hs]
  ·exact opNd_put_ne (get_le hs).1 e
 ·rw [own_fresh (m:={m with nx:=11}) (by show 8<=11;decide) (by show 11<=13;decide)] at hx'
  rw [own_fresh (by omega) (by omega)];exact hx'
theorem DEach.rt (h:DEach leaf inner V lv ls m) (hk:16<=m.nx/\m.nx<=18/\k=m.nx+1) (hf:m.nx=18->opNd V m.root=Proofs.Ytjcgphhpaenjkaa.rootNd m):DEach leaf inner V lv ls {m with nx:=k}:=by
 have hl:m.live:=⟨by omega,by omega⟩
 refine ⟨λ _=>h.key hl,λ _ h0=>?_,λ h1=>by have h2:k=1:=h1;omega,λ _ h1=>by have h2:k<=13:=h1;omega,λ h1=>by have h2:k=3\/k=4\/(6<=k/\k<=13):=h1;omega,λ _ h1=>by have h2:k<=13:=h1;omega,λ x hx=>h.own x ?_,λ _ h1=>by have h2:k<=13:=h1;omega,λ h1=>?_⟩
 ·obtain ⟨p1,p2,p3⟩:=h.pend hl h0
  exact ⟨p1,p2,p3⟩
 ·rw [own_root (m:={m with nx:=k}) (by show 16<=k;omega) (by show k<=19;omega)] at hx
  rw [own_root (by omega) (by omega)];exact hx
 ·have h2:k=19:=h1
  exact hf (by omega)
theorem DInv.step16 (h:DInv a0 a1 a2 a3 a4 A V ps lv ls es) (hm:ps[i]?=some m) (hx:m.nx=16\/m.nx=17) (hk:Kept a1 a2 A ps i m):Same a0 a1 a2 a3 a4 A ps lv ls es i m:=by
 have hk':PInv a1 a2 (stepP a1 a2 A m).2.1 (ps.set i (stepP a1 a2 A m).2.2):=hk
 have hmm:=List.mem_of_getElem? hm
 have hE:=h.each m hmm
 have hl:m.live:=⟨by omega,by omega⟩
 have hho:m.root ∈ m.holds:=holds_root (by omega) (by omega)
 obtain ⟨s,hs,ho⟩:=h.inv.slot hm hho
 have fin:∀ k t,(k=17/\m.nx=16)\/(k=18/\m.nx=17)->PInv a1 a2 (A.put m.root t) (ps.set i {m with nx:=k})->∃ V',DInv a0 a1 a2 a3 a4 (A.put m.root t) V' (ps.set i {m with nx:=k}) lv ls es:=λ k t hk1 hi=>by
  have hmid:=hE.rt (k:=k) ⟨by omega,by omega,by omega⟩ (λ e=>by omega)
  refine ⟨_,h.ownPut hm (own_root (by omega) (by omega)) hs hi (λ ix=>⟨λ hq=>absurd hq (nogrip_of (.inr (by show 14<=k;omega)) ix),λ hq=>absurd hq (nogrip_of (by omega) ix)⟩) rfl (nogrip_of (by omega) _) (h.inv.notGrip hm hho) (λ V' _ g2 g3 _=>hmid.ext Ext.refl (Nat.le_of_eq g2.symm) (λ x hx'=>⟨(hmid.own x hx').1,λ hq=>by have h2:(11<=k/\k<=13)\/k=19:=hq;omega⟩) (λ _ h0 e he=>?_)) (own_root (m:={m with nx:=k}) (by show 16<=k;omega) (by show k<=19;omega)) (λ _ h0=>⟨hl,h0,rfl⟩)⟩
  have hin:e.1 ∈ ids ls:=List.mem_map.2 ⟨e,he,rfl⟩
  rw [g3 e.1 (λ e1=>(hE.own m.root (by rw [own_root (by omega) (by omega)];exact List.mem_singleton.2 rfl)).1 (e1▸hin))]
  exact (hE.pend hl h0).kid e he
 unfold Same
 rcases hx with hx|hx
 ·rw [stepP_16 hx (by rw [setHead_odd hs ho])] at hk' ⊢
  rw [setHead_odd hs ho] at hk' ⊢
  exact fin 17 _ (.inl ⟨rfl,hx⟩) hk'
 ·rw [stepP_17 hx (by rw [setBody_odd hs ho])] at hk' ⊢
  rw [setBody_odd hs ho] at hk' ⊢
  exact fin 18 _ (.inr ⟨rfl,hx⟩) hk'
theorem DInv.step18 (h:DInv a0 a1 a2 a3 a4 A V ps lv ls es) (hm:ps[i]?=some m) (hx:m.nx=18) (hk:Kept a1 a2 A ps i m) (hb:∀ s ∈ A.sl,s.word+2 < 18446744073709551616):Same a0 a1 a2 a3 a4 A ps lv ls es i m:=by
 have hk':PInv a1 a2 (stepP a1 a2 A m).2.1 (ps.set i (stepP a1 a2 A m).2.2):=hk
 have hmm:=List.mem_of_getElem? hm
 have hE:=h.each m hmm
 have hl:m.live:=⟨by omega,by omega⟩
 have hho:m.root ∈ m.holds:=holds_root (by omega) (by omega)
 obtain ⟨s,hs,ho⟩:=h.inv.slot hm hho
 obtain ⟨j,_,hj,_⟩:=get_some hs
 have hu:=unlock_odd hs ho (hb s (List.mem_of_getElem? hj)) true
 have h2:=(h.inv.each m hmm).2.2.2
 rw [hx] at h2
 have hfr:opNd V m.root=rootNd m:=by
  rw [<-h2.2]
  refine h.vof.free _ (λ y hy=>?_)
  obtain ⟨q,hq⟩:=mem_at hy
  by_cases e:q=i
  ·subst e;rw [hm] at hq;cases hq;exact nogrip_of (by omega) _
  ·exact h.inv.notGrip hm hho q y e hq
 unfold Same
 rw [stepP_18 hx (by rw [hu])] at hk' ⊢
 rw [hu] at hk' ⊢
 refine ⟨V,h.quiet hm hk' rfl (put_len _) rfl (λ ix hq=>absurd hq (nogrip_of (.inr (by show 14<=19;decide)) ix)) (λ ix _ _=>?_) (λ ix hq=>absurd hq (nogrip_of (by omega) ix)) (hE.rt ⟨by omega,by omega,by omega⟩ (λ _=>hfr)) (λ x hx'=>?_) (λ _ h0=>⟨hl,h0,rfl⟩)⟩
 ·by_cases e:ix=m.root
  ·rw [e,opNd_put hs];unfold opNd;rw [hs]
  ·exact opNd_put_ne (get_le hs).1 e
 ·rw [own_root (m:={m with nx:=19}) (by show 16<=19;decide) (by show 19<=19;decide)] at hx'
  rw [own_root (by omega) (by omega)];exact hx'
end
end Go.Proofs.Ytjcgphhpaenjkaa

import Derived.Test.YtjcgphhpaenjkaaPkB5
set_option linter.unusedVariables false
namespace Go.Proofs.Ytjcgphhpaenjkaa
open Go.RowKit
section
variable {A A':Ar} {ps:List Pm} {m m':Pm} {leaf inner:Int} {i:Nat}
theorem get_app (t:Sl) (ix:Int):({A with sl:=A.sl++[t]}:Ar).get ix=if ix=(A.sl.length:Int)+1 then some t else A.get ix:=by
 unfold Ar.get
 by_cases h:1<=ix
 ·rw [if_pos h,if_pos h]
  by_cases h2:ix=(A.sl.length:Int)+1
  ·rw [if_pos h2]
   have:(ix-1).toNat=A.sl.length:=by omega
   simp [this]
  ·rw [if_neg h2]
   rcases Nat.lt_or_ge (ix-1).toNat A.sl.length with h3|h3
   ·simp only
    rw [List.getElem?_append_left h3]
   ·simp only
    rw [List.getElem?_append_right h3,List.getElem?_eq_none h3,List.getElem?_eq_none (by simp;omega)]
 ·rw [if_neg h,if_neg h,if_neg (by omega)]
theorem get_end:A.get ((A.sl.length:Int)+1)=none:=by
 unfold Ar.get
 rw [if_pos (by omega)]
 exact List.getElem?_eq_none (by omega)
theorem PInv.takes (h:PInv leaf inner A ps) (hm:ps[i]?=some m) (hheld:∀ ix ∈ m'.holds,ix=(A.sl.length:Int)+1\/ix ∈ m.holds) (hpure:m'.pure->m.pure/\m'.id=m.id) (hD:m'.D=m.D)
  (heach:PEach leaf inner {A with sl:=A.sl++[⟨1,Nd.zero⟩]} m'):PInv leaf inner {A with sl:=A.sl++[⟨1,Nd.zero⟩]} (ps.set i m'):=by
 have hmm:=List.mem_of_getElem? hm
 have hsame:∀ ix s,A.get ix=some s->ix≠(A.sl.length:Int)+1/\({A with sl:=A.sl++[⟨1,Nd.zero⟩]}:Ar).get ix=A.get ix:=λ ix s hs=>by
  have hne:ix≠(A.sl.length:Int)+1:=λ e=>by rw [e,get_end] at hs;cases hs
  exact ⟨hne,by rw [get_app,if_neg hne]⟩
 have hh:∀ ix s,A.get ix=some s->∃ s',({A with sl:=A.sl++[⟨1,Nd.zero⟩]}:Ar).get ix=some s'/\(s.word<=s'.word\/(s'.word+1=s.word/\s.word % 2=1)):=λ ix s hs=>⟨s,by rw [(hsame ix s hs).2];exact hs,.inl (Nat.le_refl _)⟩
 have hc:∀ ix s w,A.get ix=some s->w<=s.word->w % 2=0->Cur {A with sl:=A.sl++[⟨1,Nd.zero⟩]} (ps.set i m') ix w->Cur A ps ix w/\opNd {A with sl:=A.sl++[⟨1,Nd.zero⟩]} ix=opNd A ix:=λ ix s w hs _ _ hcu=>
  cur_far (pure_set hm (λ hp hi=>by obtain ⟨h1,h2⟩:=hpure hp;exact ⟨h1,by rw [<-h2];exact hi⟩)) (hsame ix s hs).2 hcu
 refine h.turn hm (λ ix s hs he=>?_) (λ s hs=>?_) (λ ix hix=>?_) (λ j x hj hx ix hix=>?_) heach (λ d hd=>(h.desc m hmm d (by rw [<-hD];exact hd)).frame hh hc) hh hc
 ·rw [get_app] at hs
  split at hs
  ·injection hs with hs;rw [<-hs] at he;simp at he
  ·exact h.free ix s hs he
 ·rcases List.mem_append.1 hs with h1|h1
  ·exact h.few s h1
  ·simp only [List.mem_cons,List.not_mem_nil,or_false] at h1
   rw [h1];exact Few.zero 7
 ·rcases hheld ix hix with e|h1
  ·exact ⟨⟨1,Nd.zero⟩,by rw [get_app,if_pos e],rfl⟩
  ·obtain ⟨s,h2,h3⟩:=h.held m hmm ix h1
   exact ⟨s,by rw [(hsame ix s h2).2];exact h2,h3⟩
 ·obtain ⟨s,h2,_⟩:=h.held x (List.mem_of_getElem? hx) ix hix
  refine ⟨(hsame ix s h2).2,λ hm'=>?_⟩
  rcases hheld ix hm' with e|h1
  ·exact (hsame ix s h2).1 e
  ·exact h.apart j i x m hj hx hm ix hix h1
theorem alloc_full_ (hf:A.sl.length=A.nodes):opAlloc A=(0,2,A):=by unfold opAlloc;rw [if_pos hf]
theorem alloc_new_ (hf:A.sl.length≠A.nodes):opAlloc A=((A.sl.length:Int)+1,0,{A with sl:=A.sl++[⟨1,Nd.zero⟩]}):=by unfold opAlloc;rw [if_neg hf]
theorem PInv.step6 (h:PInv leaf inner A ps) (hm:ps[i]?=some m) (hx:m.nx=6) (h1:2<=leaf) (h2:3<=inner):Kept leaf inner A ps i m:=by
 have hmm:=List.mem_of_getElem? hm
 have he:=h.each m hmm
 obtain ⟨q1,q2,q3⟩:=each_pre he (by omega) (by omega)
 unfold PEach at he
 rw [hx] at he
 obtain ⟨_,_,_,hb,hr,hf,ho⟩:=he
 have hmi:=holds_id (m:=m) (by omega) (by omega)
 by_cases hfull:A.sl.length=A.nodes
 ·have e:stepP leaf inner A m=no A {m with nx:=7}:=by
   unfold stepP;rw [hx]
   show slotP A m=_
   unfold slotP
   rw [alloc_full_ hfull]
   simp only
   rw [if_neg (by omega),if_neg (by omega),if_pos (by decide)]
  unfold Kept
  rw [e]
  refine h.still hm rfl (λ ix hix=>subs_one (m':={m with nx:=7}) hix (.inl ⟨(by show 3<=7;decide),(by show 7<=7;decide)⟩) rfl hmi) (λ _=>⟨by unfold Pm.pure;omega,rfl⟩) ?_ (λ d hd=>h.desc m hmm d hd)
  unfold PEach
  exact ⟨λ _ _=>q1,q2,λ _ _=>q3,hb⟩
 ·have e:stepP leaf inner A m=no {A with sl:=A.sl++[⟨1,Nd.zero⟩]} {m with fresh:=(A.sl.length:Int)+1,left:=spL m.nw ((A.sl.length:Int)+1),right:=spR m.nw,btw:=spK m.nw,nx:=8}:=by
   unfold stepP;rw [hx]
   show slotP A m=_
   unfold slotP
   rw [alloc_new_ hfull]
   simp only
   rw [if_neg (by omega),if_neg (by omega),if_neg (by decide)]
  obtain ⟨hbad,hl,hrr⟩:=few_half (r:=(A.sl.length:Int)+1) hf hr ho h1 h2
  obtain ⟨⟨s,hs,_⟩,_⟩:=id hb
  have hne:m.id≠(A.sl.length:Int)+1:=λ e=>by rw [e,get_end] at hs;cases hs
  unfold Kept
  rw [e]
  refine h.takes hm (λ ix hix=>?_) (λ _=>⟨by unfold Pm.pure;omega,rfl⟩) rfl ?_
  ·have hix':ix ∈ Pm.holds {m with fresh:=(A.sl.length:Int)+1,left:=spL m.nw ((A.sl.length:Int)+1),right:=spR m.nw,btw:=spK m.nw,nx:=8}:=hix
   rw [holds_two ⟨(by show 8<=8;decide),(by show 8<=10;decide)⟩] at hix'
   simp only [List.mem_cons,List.not_mem_nil,or_false] at hix'
   rcases hix' with h3|h3
   ·exact .inr (by rw [h3];exact hmi)
   ·exact .inl h3
  ·unfold PEach
   exact ⟨λ _ _=>q1,q2,λ _ _=>q3,hb.frame (by show Ar.get _ m.id=_;rw [get_app,if_neg hne]),⟨right_spL hr,hl⟩,⟨right_spR hr,hrr⟩,hf.spK,λ e=>hne e.symm⟩
theorem PInv.step15 (h:PInv leaf inner A ps) (hm:ps[i]?=some m) (hx:m.nx=15):Kept leaf inner A ps i m:=by
 have hmm:=List.mem_of_getElem? hm
 have he:=h.each m hmm
 obtain ⟨q1,q2,q3⟩:=each_pre he (by omega) (by omega)
 unfold PEach at he
 rw [hx] at he
 obtain ⟨_,_,_,hl⟩:=he
 by_cases hfull:A.sl.length=A.nodes
 ·have e:stepP leaf inner A m=((true,false),A,m.ends 0):=by
   unfold stepP;rw [hx]
   show slotP A m=_
   unfold slotP
   rw [alloc_full_ hfull]
   simp only
   rw [if_pos ⟨hx,by decide⟩]
  unfold Kept
  rw [e]
  exact h.ends' hm rfl rfl q2 0
 ·have e:stepP leaf inner A m=no {A with sl:=A.sl++[⟨1,Nd.zero⟩]} {m with root:=(A.sl.length:Int)+1,nx:=16}:=by
   unfold stepP;rw [hx]
   show slotP A m=_
   unfold slotP
   rw [alloc_new_ hfull]
   simp only
   rw [if_neg (λ hh=>hh.2 rfl),if_pos hx]
  unfold Kept
  rw [e]
  refine h.takes hm (λ ix hix=>?_) (λ hp=>absurd hp (not_pure (.inr (.inr (by show 12<=16;decide))))) rfl ?_
  ·have hix':ix ∈ Pm.holds {m with root:=(A.sl.length:Int)+1,nx:=16}:=hix
   rw [holds_rt ⟨(by show 16<=16;decide),(by show 16<=18;decide)⟩] at hix'
   simp only [List.mem_cons,List.not_mem_nil,or_false] at hix'
   exact .inl hix'
  ·unfold PEach
   exact ⟨λ _ _=>q1,q2,λ _ _=>q3,hl⟩
theorem PInv.step (h:PInv leaf inner A ps) (hm:ps[i]?=some m) (h1:2<=leaf) (h2:leaf<=6) (h3:3<=inner) (h4:inner<=6) (hb:∀ s ∈ A.sl,s.word+2 < 18446744073709551616):Kept leaf inner A ps i m:=by
 by_cases h20:20<=m.nx
 ·have e:stepP leaf inner A m=((true,false),A,m):=by
   unfold stepP
   split<;>first|rfl|omega
  unfold Kept
  rw [e]
  show PInv leaf inner A (ps.set i m)
  have e:ps.set i m=ps:=by
   apply List.ext_getElem?
   intro j
   rw [List.getElem?_set]
   split
   ·rename_i hij
    subst hij
    rw [if_pos (List.getElem?_eq_some_iff.1 hm).1,hm]
   ·rfl
  rw [e];exact h
 by_cases e0:m.nx=0
 ·exact h.step0 hm e0
 by_cases e1:m.nx=1
 ·exact h.step1 hm e1
 by_cases e2:m.nx=2
 ·have e:stepP leaf inner A m=lockP leaf inner A m:=by unfold stepP;rw [e2];rfl
  unfold Kept
  rw [e]
  exact h.lock hm e2 h2 h4
 by_cases e3:m.nx=3
 ·exact h.step3 hm e3
 by_cases e4:m.nx=4
 ·exact h.step4 hm e4 hb
 by_cases e5:m.nx=5\/m.nx=7
 ·exact h.step57 hm e5
 by_cases e6:m.nx=6
 ·exact h.step6 hm e6 h1 h3
 by_cases e8:m.nx=8
 ·exact h.step8 hm e8
 by_cases e9:m.nx=9
 ·exact h.step9 hm e9
 by_cases e10:m.nx=10
 ·exact h.step10 hm e10 hb
 by_cases e11:m.nx=11
 ·exact h.step11 hm e11
 by_cases e12:m.nx=12
 ·exact h.step12 hm e12
 by_cases e13:m.nx=13
 ·exact h.step13 hm e13 hb
 by_cases e14:m.nx=14
 ·exact h.step14 hm e14
 by_cases e15:m.nx=15
 ·exact h.step15 hm e15
 by_cases e16:m.nx=16
 ·exact h.step16 hm e16
 by_cases e17:m.nx=17
 ·exact h.step17 hm e17
 by_cases e18:m.nx=18
 ·exact h.step18 hm e18 hb
 ·exact h.step19 hm (by omega)
theorem PInv.push (h:PInv leaf inner A ps) (hno:m.holds=[]) (hnp:¬m.pure) (heach:PEach leaf inner A m) (hD:∀ d,m.D=some d->DOk A (ps++[m]) d):PInv leaf inner A (ps++[m]):=by
 have hget:∀ j x,(ps++[m])[j]?=some x->ps[j]?=some x\/(j=ps.length/\x=m):=λ j x hj=>by
  rcases Nat.lt_or_ge j ps.length with h1|h1
  ·rw [List.getElem?_append_left h1] at hj;exact .inl hj
  ·rw [List.getElem?_append_right h1] at hj
   obtain ⟨k,hk⟩:∃ k,j-ps.length=k:=⟨_,rfl⟩
   rw [hk] at hj
   cases k with
   | zero=>simp at hj;exact .inr ⟨by omega,hj.symm⟩
   | succ k=>simp at hj
 have hmem:∀ x ∈ ps++[m],x ∈ ps\/x=m:=λ x hx=>by
  rcases List.mem_append.1 hx with h1|h1
  ·exact .inl h1
  ·simp only [List.mem_cons,List.not_mem_nil,or_false] at h1;exact .inr h1
 refine ⟨h.free,h.few,λ x hx ix hix=>?_,λ j k x y hjk hj hk ix hix=>?_,λ x hx=>?_,λ x hx d hd=>?_⟩
 ·rcases hmem x hx with h1|rfl
  ·exact h.held x h1 ix hix
  ·rw [hno] at hix;cases hix
 ·rcases hget j x hj with h1|⟨_,rfl⟩
  ·rcases hget k y hk with h2|⟨_,rfl⟩
   ·exact h.apart j k x y hjk h1 h2 ix hix
   ·rw [hno];simp
  ·rw [hno] at hix;cases hix
 ·rcases hmem x hx with h1|rfl
  ·exact h.each x h1
  ·exact heach
 ·rcases hmem x hx with h1|rfl
  ·refine (h.desc x h1 d hd).frame (λ ix s hs=>⟨s,hs,.inl (Nat.le_refl _)⟩) (λ ix s w _ _ _ hcu=>cur_far (λ y hy hp hi=>?_) rfl hcu)
   rcases hmem y hy with h2|rfl
   ·exact ⟨y,h2,hp,hi⟩
   ·exact absurd hp hnp
  ·exact hD d hd
theorem PInv.new {key val:List UInt8} (h:PInv leaf inner A ps):PInv leaf inner A (ps++[Pm.new key val]):=by
 unfold Pm.new
 split
 ·rename_i hfit
  refine h.push (holds_no (.inl (by show 1<=2;decide))) (not_pure (.inl (by show 1<=2;decide))) ?_ (λ d hd=>?_)
  ·unfold PEach
   have hv:val.length<=256:=by have:=hfit.2;unfold valFit at this;simpa using this
   have hk2:key.length<=64:=by have:=hfit.1;unfold keyFit at this;simp only [Bool.and_eq_true,decide_eq_true_eq] at this;exact this.2
   exact ⟨λ _ _=>hk2,Int.le_refl 0,λ _ _=>⟨hk2,hv,_,rfl⟩,_,rfl,(by unfold Mc.new;simp),rfl,rfl⟩
  ·unfold Pm.goes at hd
   injection hd with hd
   rw [<-hd];exact DOk.new
 ·refine h.push (holds_no (.inl (by show 0<=2;decide))) (not_pure (.inl (by show 0<=2;decide))) ?_ (λ d hd=>by cases hd)
  unfold PEach
  exact ⟨λ h0=>absurd rfl h0,Int.le_refl 0,λ h0=>absurd rfl h0,trivial⟩
theorem PInv.start (n:Nat):PInv leaf inner (ar0 n) []:=by
 have hz:∀ s ∈ (ar0 n).sl,s=⟨0,Nd.zero⟩:=λ s hs=>by simpa [ar0] using hs
 refine ⟨λ ix s hs _=>?_,λ s hs=>by rw [hz s hs];exact Few.zero 7,λ m hm=>absurd hm (by simp),λ i j m m' _ hm=>by simp at hm,λ m hm=>absurd hm (by simp),λ m hm=>absurd hm (by simp)⟩
 obtain ⟨_,_,hi,_⟩:=get_some hs
 rw [hz s (List.mem_of_getElem? hi)]
 exact ⟨right_zero,Few.zero 6⟩
/-! ### words rise by one a step at most -/
def WordsLe (b:Nat) (A:Ar):Prop:=∀ s ∈ A.sl,s.word<=b
theorem WordsLe.mono {b c:Nat} (h:WordsLe b A) (hc:b<=c):WordsLe c A:=λ s hs=>by have:=h s hs;omega
theorem WordsLe.get {b:Nat} {ix:Int} {s:Sl} (h:WordsLe b A) (hs:A.get ix=some s):s.word<=b:=by
 obtain ⟨_,_,hi,_⟩:=get_some hs
 exact h s (List.mem_of_getElem? hi)
theorem WordsLe.put {b:Nat} {ix:Int} {t:Sl} (h:WordsLe b A) (ht:t.word<=b+1):WordsLe (b+1) (A.put ix t):=λ s hs=>by
 rcases List.mem_or_eq_of_mem_set hs with h1|rfl
 ·have:=h s h1;omega
 ·exact ht
theorem back_le (x:Nat) (c:Bool):back x c<=x+1:=by
 unfold back
 split
 ·exact Nat.mod_le _ _
 ·omega
section
variable {b:Nat} {ix:Int} {wd:Nat} {c:Bool} {x:Nd}
theorem WordsLe.lock (h:WordsLe b A):WordsLe (b+1) (opLock A ix wd).2.2:=by
 rcases hg:A.get ix with _|s
 ·rw [opLock_none hg];exact h.mono (by omega)
 ·rw [opLock_some hg]
  have:=h.get hg
  split
  ·rename_i hw;exact h.put (by show wd+1<=_;omega)
  ·exact h.mono (by omega)
theorem WordsLe.unlock (h:WordsLe b A):WordsLe (b+1) (opUnlock A ix c).2:=by
 unfold opUnlock
 split
 ·exact h.mono (by omega)
 ·rename_i s hg
  have h1:=h.get hg
  have h2:=back_le s.word c
  split
  ·exact h.mono (by omega)
  ·exact h.put (by show back s.word c<=_;omega)
theorem WordsLe.setHead (h:WordsLe b A):WordsLe (b+1) (opSetHead A ix x).2:=by
 unfold opSetHead
 split
 ·exact h.mono (by omega)
 ·rename_i s hg
  have h1:=h.get hg
  split
  ·exact h.mono (by omega)
  ·exact h.put (by show s.word<=_;omega)
theorem WordsLe.setBody (h:WordsLe b A):WordsLe (b+1) (opSetBody A ix x).2:=by
 unfold opSetBody
 split
 ·exact h.mono (by omega)
 ·rename_i s hg
  have h1:=h.get hg
  split
  ·exact h.mono (by omega)
  ·exact h.put (by show s.word<=_;omega)
theorem WordsLe.alloc (h:WordsLe b A):WordsLe (b+1) (opAlloc A).2.2:=by
 unfold opAlloc
 split
 ·exact h.mono (by omega)
 ·intro s hs
  rcases List.mem_append.1 hs with h1|h1
  ·have:=h s h1;omega
  ·simp only [List.mem_cons,List.not_mem_nil,or_false] at h1
   rw [h1];show 1<=_;omega
end
theorem onP_ar (A:Ar) (m:Pm) (e:Int) (n:Nat):(onP A m e n).2.1=A:=by unfold onP no;split<;>rfl
theorem downP_ar (A:Ar) (m:Pm):(downP A m).2.1=A:=by
 unfold downP no
 split
 ·rfl
 ·split
  ·simp only
   split
   ·rfl
   ·split<;>rfl
  ·rfl
theorem lockP_ar (A:Ar) (m:Pm):(lockP leaf inner A m).2.1=(opLock A m.id m.word).2.2:=by
 unfold lockP no
 simp only
 repeat' split
 all_goals rfl
theorem givesP_ar (A:Ar) (m:Pm):(givesP A m).2.1=(opUnlock A m.id (decide (m.nx=4))).2:=by
 unfold givesP
 simp only
 repeat' split
 all_goals rfl
theorem slotP_ar (A:Ar) (m:Pm):(slotP A m).2.1=(opAlloc A).2.2:=by
 unfold slotP no
 simp only
 repeat' split
 all_goals rfl
theorem WordsLe.step {b:Nat} (h:WordsLe b A):WordsLe (b+1) (stepP leaf inner A m).2.1:=by
 have h1:WordsLe (b+1) A:=h.mono (by omega)
 unfold stepP
 split
 any_goals exact h1
 any_goals
  simp only
 any_goals rw [downP_ar]
 any_goals rw [lockP_ar]
 any_goals rw [givesP_ar]
 any_goals rw [slotP_ar]
 any_goals rw [onP_ar]
 any_goals first|exact h1|exact h.lock|exact h.unlock|exact h.alloc|exact h.setHead|exact h.setBody
 ·split<;>exact h.unlock
 ·unfold no;split<;>exact h1
 ·intro s hs
  have e:s ∈ A.sl:=by
   unfold no at hs
   split at hs<;>(simp only [grow_sl] at hs;exact hs)
  exact h1 s e
end
structure Tv (V:Ar) (chk:Nd->Int) (a0 a1 a2 lv:Int) (ls:List Ch):Prop where
 ti:TrI V chk lv V.root ls
 lv0:0<=lv
 even:∀ s ∈ V.sl,s.word % 2=0
 met:MetA V (ls.flatten.map Prod.fst)
 may:∀ n,chk n=0 ↔ May n a0 a1 a2
 two:∀ (j:Nat) c,1<=j->ls[j]?=some c->2<=c.length
def InL (lv:Int) (ls:List Ch) (L id:Int) (k:List UInt8):Prop:=∃ (j:Nat) (c:Ch) (lw:List UInt8),ls[j]?=some c/\L=lv-j/\(id,lw) ∈ c/\cmp lw k<=0
def Ext (lv:Int) (ls:List Ch) (lv':Int) (ls':List Ch):Prop:=∀ (j:Nat) c,ls[j]?=some c->∃ (j':Nat) (c':Ch),ls'[j']?=some c'/\lv'-j'=lv-j/\∀ e ∈ c,e ∈ c'
def DesOk (lv:Int) (ls:List Ch) (d:Mc):Prop:=
 0<=d.level/\(d.nx=.latch\/d.nx=.head\/d.nx=.body\/d.nx=.valid->∃ L,InL lv ls L d.id d.key)/\(d.nx=.done->d.there=true->InL lv ls d.level d.id d.key/\beyond d.nd.high d.key=false)
section
variable {V A:Ar} {a0 a1 a2:Int} {chk:Nd->Int} {lv lv':Int} {ls ls':List Ch} {L id:Int} {k:List UInt8} {d:Mc} {j:Nat} {c:Ch} {lw:List UInt8}
theorem noR {P:Prop} (h:Nx.root=.latch\/Nx.root=.head\/Nx.root=.body\/Nx.root=.valid):P:=by rcases h with h|h|h|h<;>cases h
theorem noD {P:Prop} (h:Nx.done=.latch\/Nx.done=.head\/Nx.done=.body\/Nx.done=.valid):P:=by rcases h with h|h|h|h<;>cases h
theorem Ext.refl:Ext lv ls lv ls:=λ j c h=>⟨j,c,h,rfl,λ _ h=>h⟩
theorem InL.ext (h:InL lv ls L id k) (he:Ext lv ls lv' ls'):InL lv' ls' L id k:=by
 obtain ⟨j,c,lw,h1,h2,h3,h4⟩:=h
 obtain ⟨j',c',g1,g2,g3⟩:=he j c h1
 exact ⟨j',c',lw,g1,by omega,g3 _ h3,h4⟩
theorem DesOk.ext (h:DesOk lv ls d) (he:Ext lv ls lv' ls'):DesOk lv' ls' d:=by
 obtain ⟨h1,h2,h3⟩:=h
 refine ⟨h1,λ hx=>?_,λ hx ht=>?_⟩
 ·obtain ⟨L,h⟩:=h2 hx
  exact ⟨L,h.ext he⟩
 ·exact ⟨(h3 hx ht).1.ext he,(h3 hx ht).2⟩
theorem Tv.at_ (h:Tv V chk a0 a1 a2 lv ls) (hj:ls[j]?=some c) (hm:(id,lw) ∈ c):∃ s,V.get id=some s/\opNd V id=s.nd/\s.nd.lvl=lv-j/\May s.nd a0 a1 a2/\lowBad lw s.nd=false/\(s.nd.right≠0->(s.nd.right,s.nd.high) ∈ c):=by
 obtain ⟨f,hc,_⟩:=h.ti.at_ hj
 obtain ⟨c',g1,_,g3⟩:=hc.mem hm
 obtain ⟨s,r,e,k1,k2,k3,k4,k5⟩:=g1.at_
 refine ⟨s,k1,by unfold opNd;rw [k1],k2,(h.may _).1 k3,k4,λ hr=>?_⟩
 rcases k5 with ⟨k5,_⟩|⟨_,k6⟩
 ·exact absurd k5 hr
 ·obtain ⟨r',rfl⟩:=k6.head_
  exact g3 _ (by rw [e];exact List.mem_cons_of_mem _ List.mem_cons_self)
theorem DesOk.new (k:List UInt8) {L:Int} (h:0<=L):DesOk lv ls (Mc.new k L):=⟨h,noR,λ hx=>by cases hx⟩
theorem DesOk.step (h:DesOk lv ls d) (hT:Tv V chk a0 a1 a2 lv ls) (hr:A.root=V.root) (hcur:d.nx=.valid->opErr A d.id=0->opWord A d.id=d.word->d.nd=opNd V d.id) (hth:d.there=true->d.nx=.done):DesOk lv ls (stepM A d):=by
 obtain ⟨h0,h1,h2⟩:=h
 have hnt:d.nx≠.done->d.there=false:=λ hn=>by
  cases ht:d.there with
  | false=>rfl
  | true=>exact absurd (hth ht) hn
 unfold stepM
 split
 ·exact ⟨h0,h1,h2⟩
 ·rename_i hx
  refine ⟨h0,λ _=>⟨lv,?_⟩,λ hd=>by cases hd⟩
  have hlen:=hT.ti.len
  have hl0:=hT.lv0
  obtain ⟨c,hc⟩:∃ c,ls[0]?=some c:=⟨_,List.getElem?_eq_getElem (by omega)⟩
  obtain ⟨r,e⟩:=(hT.ti.top c hc).head_
  exact ⟨0,c,[],hc,by omega,by show (A.root,[]) ∈ c;rw [e,hr];exact List.mem_cons_self,cmp_nil _⟩
 ·rename_i hx
  have hb:=h1 (.inl hx)
  split
  ·refine ⟨h0,λ _=>hb,λ hd=>?_⟩
   simp only [latchM] at hd
   split at hd
   ·cases hd
   ·rw [hx] at hd;cases hd
  ·exact ⟨h0,noD,λ _ ht=>by rw [show d.there=true from ht] at hnt;exact absurd (hnt (by rw [hx];decide)) (by decide)⟩
 ·rename_i hx
  have hb:=h1 (.inr (.inl hx))
  split
  ·exact ⟨h0,λ _=>hb,λ hd=>by cases hd⟩
  ·exact ⟨h0,noD,λ _ ht=>by rw [show d.there=true from ht] at hnt;exact absurd (hnt (by rw [hx];decide)) (by decide)⟩
 ·rename_i hx
  have hb:=h1 (.inr (.inr (.inl hx)))
  split
  ·exact ⟨h0,λ _=>hb,λ hd=>by cases hd⟩
  ·exact ⟨h0,noD,λ _ ht=>by rw [show d.there=true from ht] at hnt;exact absurd (hnt (by rw [hx];decide)) (by decide)⟩
 ·rename_i hx
  have hno:d.there=false:=hnt (by rw [hx];decide)
  obtain ⟨L,j,c,lw,hj,hL,hm,hle⟩:=h1 (.inr (.inr (.inr hx)))
  split
  ·rename_i he
   unfold decideM
   split
   ·exact ⟨h0,noR,λ hd=>by cases hd⟩
   rename_i hw
   have hnd:=hcur hx he (by simpa using hw)
   obtain ⟨s,k1,k2,k3,k4,k5,k6⟩:=hT.at_ hj hm
   rw [k2] at hnd
   split
   ·exact ⟨h0,noD,λ _ ht=>by rw [show d.there=true from ht] at hno;cases hno⟩
   rename_i hlt
   split
   ·rename_i hb
    obtain ⟨b1,b2⟩:=beyond_iff.1 hb
    refine ⟨h0,λ _=>⟨L,j,c,d.nd.high,hj,hL,?_,by have:=cmp_swap_ d.key d.nd.high;show cmp d.nd.high d.key<=0;omega⟩,λ hd=>by cases hd⟩
    show (d.nd.right,d.nd.high) ∈ c
    rw [hnd] at b1 ⊢
    exact k6 (λ e=>by have:=k4.high.2 e;omega)
   rename_i hb
   split
   ·rename_i hl
    refine ⟨h0,noD,λ _ _=>⟨⟨j,c,lw,hj,?_,hm,hle⟩,by simpa using hb⟩⟩
    show d.level=_
    rw [<-hl,hnd];omega
   ·rename_i hl
    have hlv:s.nd.lvl≠0/\0 < s.nd.lvl:=by rw [hnd] at hlt hl;omega
    have hlen:=hT.ti.len
    obtain ⟨dn,hdn⟩:∃ dn,ls[j+1]?=some dn:=⟨_,List.getElem?_eq_getElem (by omega)⟩
    have hk:=(hT.ti.chn j c dn hj hdn).2 _ hm
    rw [k2] at hk
    obtain ⟨lw',g1,g2⟩:=child_in k4 hlv.1 hk hle
    refine ⟨h0,λ _=>⟨L-1,j+1,dn,lw',hdn,by omega,?_,g2⟩,λ hd=>by cases hd⟩
    show (childOf d.nd.kids d.nd.keys d.key,lw') ∈ dn
    rw [hnd];exact g1
  ·exact ⟨h0,noD,λ _ ht=>by rw [show d.there=true from ht] at hno;cases hno⟩
end
def Pm.grips (m:Pm) (ix:Int):Prop:=(3<=m.nx/\m.nx<=13)/\m.id=ix
structure VOf (A:Ar) (ps:List Pm) (V:Ar):Prop where
 root:A.root=V.root
 len:V.sl.length=A.sl.length
 grip:∀ m ∈ ps,∀ ix,m.grips ix->opNd V ix=m.old
 free:∀ ix,(∀ m ∈ ps,¬m.grips ix)->opNd V ix=opNd A ix
def Pm.own (m:Pm):List Int:=if 8<=m.nx/\m.nx<=13 then [m.fresh] else if 16<=m.nx/\m.nx<=19 then [m.root] else []
def Pm.live (m:Pm):Prop:=m.nx≠0/\m.nx≠20
abbrev ids (ls:List Ch):List Int:=ls.flatten.map Prod.fst
structure Pend (V:Ar) (lv:Int) (ls:List Ch) (m:Pm):Prop where
 sep:1<=m.sep.length/\m.sep.length<=64
 half:∃ (j:Nat) (c:Ch),ls[j]?=some c/\m.level-1=lv-j/\(m.half,m.sep) ∈ c/\∃ lw,(m.side,lw) ∈ c
 kid:∀ e ∈ ls.flatten,m.half ∉ (opNd V e.1).kids
structure DEach (leaf inner:Int) (V:Ar) (lv:Int) (ls:List Ch) (m:Pm):Prop where
 key:m.live->keyFit m.key=true/\valFit m.val=true/\0<=m.level/\(m.level=0->m.sep=m.key)
 pend:m.live->0 < m.level->Pend V lv ls m
 des:m.nx=1->∃ d,m.D=some d/\DesOk lv ls d/\d.key=m.sep/\d.level=m.level
 at_:2<=m.nx->m.nx<=13->InL lv ls m.level m.id m.sep/\beyond m.old.high m.sep=false
 nw:m.nx=3\/m.nx=4\/(6<=m.nx/\m.nx<=13)->m.nw=newP m/\(0 < m.level->has m.old.keys m.sep=false)/\(m.nx=3\/m.nx=4->over m.nw leaf inner=false)/\(m.nx≠3->m.nx≠4->over m.nw leaf inner=true)
 halves:8<=m.nx->m.nx<=13->m.left=spL m.nw m.fresh/\m.right=spR m.nw/\m.btw=spK m.nw
 own:∀ x ∈ m.own,x ∉ ids ls/\1<=x/\x<=V.sl.length
 freshNd:11<=m.nx->m.nx<=13->opNd V m.fresh=m.right
 rootNd:m.nx=19->opNd V m.root=rootNd m
section
variable {leaf inner:Int} {A A' V V':Ar} {ps:List Pm} {m m':Pm} {lv lv':Int} {ls ls':List Ch} {i:Nat} {ix:Int} {n:Nd}
theorem own_fresh (h1:8<=m.nx) (h2:m.nx<=13):m.own=[m.fresh]:=by unfold Pm.own;rw [if_pos ⟨h1,h2⟩]
theorem own_root (h1:16<=m.nx) (h2:m.nx<=19):m.own=[m.root]:=by unfold Pm.own;rw [if_neg (by omega),if_pos ⟨h1,h2⟩]
theorem own_no (h:m.nx<=7\/m.nx=14\/m.nx=15\/20<=m.nx):m.own=[]:=by unfold Pm.own;rw [if_neg (by omega),if_neg (by omega)]
theorem DEach.ext (h:DEach leaf inner V lv ls m) (he:Ext lv ls lv' ls') (hlen:V.sl.length<=V'.sl.length) (hown:∀ x ∈ m.own,x ∉ ids ls'/\((11<=m.nx/\m.nx<=13)\/m.nx=19->opNd V' x=opNd V x)) (hkid:m.live->0 < m.level->∀ e ∈ ls'.flatten,m.half ∉ (opNd V' e.1).kids):DEach leaf inner V' lv' ls' m:=by
 refine ⟨h.key,λ h1 h2=>?_,λ hx=>?_,λ h1 h2=>?_,h.nw,h.halves,λ x hx=>?_,λ h1 h2=>?_,λ hx=>?_⟩
 ·obtain ⟨p1,⟨j,c,p2,p3,p4,lw,p5⟩,_⟩:=h.pend h1 h2
  obtain ⟨j',c',g1,g2,g3⟩:=he j c p2
  exact ⟨p1,⟨j',c',g1,by omega,g3 _ p4,lw,g3 _ p5⟩,hkid h1 h2⟩
 ·obtain ⟨d,d1,d2,d3⟩:=h.des hx
  exact ⟨d,d1,d2.ext he,d3⟩
 ·exact ⟨(h.at_ h1 h2).1.ext he,(h.at_ h1 h2).2⟩
 ·obtain ⟨_,o2,o3⟩:=h.own x hx
  exact ⟨(hown x hx).1,o2,by omega⟩
 ·rw [(hown m.fresh (by rw [own_fresh (by omega) h2];exact List.mem_singleton.2 rfl)).2 (.inl ⟨h1,h2⟩)];exact h.freshNd h1 h2
 ·rw [(hown m.root (by rw [own_root (by omega) (by omega)];exact List.mem_singleton.2 rfl)).2 (.inr hx)];exact h.rootNd hx
theorem set_at {j:Nat} {x:Pm} (h:(ps.set i m')[j]?=some x) (hm:ps[i]?=some m):(j=i/\x=m')\/(j≠i/\ps[j]?=some x):=by
 by_cases e:j=i
 ·subst e
  rw [List.getElem?_set_self (List.getElem?_eq_some_iff.1 hm).1] at h
  exact .inl ⟨rfl,(Option.some.inj h).symm⟩
 ·rw [List.getElem?_set_ne (Ne.symm e)] at h
  exact .inr ⟨e,h⟩
theorem mem_at {α:Type} {l:List α} {x:α} (h:x ∈ l):∃ j:Nat,l[j]?=some x:=List.mem_iff_getElem?.1 h
theorem VOf.turn (h:VOf A ps V) (hm:ps[i]?=some m) (hroot:A'.root=V'.root) (hlen:V'.sl.length=A'.sl.length) (hme:∀ ix,m'.grips ix->opNd V' ix=m'.old)
  (hoth:∀ (j:Nat) x ix,j≠i->ps[j]?=some x->x.grips ix->opNd V' ix=opNd V ix)
  (hfree:∀ ix,¬m'.grips ix->(∀ (j:Nat) x,j≠i->ps[j]?=some x->¬x.grips ix)->opNd V' ix=opNd A' ix):VOf A' (ps.set i m') V':=by
 refine ⟨hroot,hlen,λ x hx ix hg=>?_,λ ix hg=>?_⟩
 ·obtain ⟨j,hj⟩:=mem_at hx
  rcases set_at hj hm with ⟨_,rfl⟩|⟨hne,hj⟩
  ·exact hme ix hg
  ·rw [hoth j x ix hne hj hg];exact h.grip x (List.mem_of_getElem? hj) ix hg
 ·have hl:=(List.getElem?_eq_some_iff.1 hm).1
  refine hfree ix (hg m' (List.mem_of_getElem? (i:=i) (by rw [List.getElem?_set_self hl]))) (λ j x hne hj=>hg x (List.mem_of_getElem? (i:=j) (by rw [List.getElem?_set_ne (Ne.symm hne)];exact hj)))
theorem PInv.nogrip (h:PInv leaf inner A ps) {s:Sl} (hs:A.get ix=some s) (he:s.word % 2=0):∀ x ∈ ps,¬x.grips ix:=λ x hx ⟨hg,e⟩=>h.nobody hs he x hx (by rw [<-e];exact holds_id hg.1 hg.2)
theorem PInv.mygrip (h:PInv leaf inner A ps) (hm:ps[i]?=some m) (h1:3<=m.nx) (h2:m.nx<=13):∀ (j:Nat) x,j≠i->ps[j]?=some x->¬x.grips m.id:=λ j x hj hx ⟨hg,e⟩=>h.apart j i x m hj hx hm m.id (by rw [<-e];exact holds_id hg.1 hg.2) (holds_id h1 h2)
theorem opNd_put {s t:Sl} (hs:A.get ix=some s):opNd (A.put ix t) ix=t.nd:=by unfold opNd;rw [put_get' hs]
theorem opNd_put_ne {x:Int} {t:Sl} (h1:1<=ix) (hx:x≠ix):opNd (A.put ix t) x=opNd A x:=by unfold opNd;rw [put_get_ne hx h1]
theorem get_of_len (h:V.sl.length=A.sl.length) {s:Sl} (hs:A.get ix=some s):∃ t,V.get ix=some t:=get_in (get_le hs).1 (by rw [h];exact (get_le hs).2)
theorem VOf.all (h:VOf A ps V) (hi:PInv leaf inner A ps) (he:∀ s ∈ A.sl,s.word % 2=0):∀ ix,opNd V ix=opNd A ix:=λ ix=>by
 cases hs:A.get ix with
 | none=>
  have hv:V.get ix=none:=by
   cases hv:V.get ix with
   | none=>rfl
   | some t=>
    obtain ⟨s,hs'⟩:=get_of_len h.len.symm hv
    rw [hs] at hs';cases hs'
  unfold opNd;rw [hs,hv]
 | some s=>
  obtain ⟨j,_,hj,_⟩:=get_some hs
  exact h.free ix (hi.nogrip hs (he s (List.mem_of_getElem? hj)))
end
end Go.Proofs.Ytjcgphhpaenjkaa

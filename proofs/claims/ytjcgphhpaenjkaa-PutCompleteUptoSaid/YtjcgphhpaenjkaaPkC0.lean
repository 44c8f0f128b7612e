import Derived.Test.YtjcgphhpaenjkaaPkB9
set_option linter.unusedVariables false
namespace Go.Proofs.Ytjcgphhpaenjkaa
open Go.RowKit
def Pm.twos (m:Pm):Prop:=(3<=m.nx->m.nx<=13->Two m.old)/\(m.nx=3\/m.nx=4\/(6<=m.nx/\m.nx<=13)->Two m.nw)/\(8<=m.nx->m.nx<=13->Two m.left/\Two m.right)
structure FreeOk (A:Ar) (m:Pm):Prop where
 free:∀ ix s,A.get ix=some s->ix ∉ m.holds->s.word % 2=0/\Two s.nd
 twos:m.twos
section
variable {A A':Ar} {m m':Pm} {leaf inner x ix:Int} {n:Nd} {s t:Sl} {ps:List Pm} {c:Bool} {wd:Nat}
theorem set_ne (h:ix≠x):(opSetHead A x n).2.get ix=A.get ix/\(opSetBody A x n).2.get ix=A.get ix/\(opUnlock A x c).2.get ix=A.get ix/\(opLock A x wd).2.2.get ix=A.get ix:=by
 cases hx:A.get x with
 | none=>
  refine ⟨?_,?_,?_,?_⟩
  ·unfold opSetHead;rw [hx]
  ·unfold opSetBody;rw [hx]
  ·unfold opUnlock;rw [hx]
  ·unfold opLock;rw [hx]
 | some s=>
  have hp:=get_pos hx
  refine ⟨?_,?_,?_,?_⟩
  ·unfold opSetHead;rw [hx];simp only;split
   ·rfl
   ·exact put_get_ne h hp _
  ·unfold opSetBody;rw [hx];simp only;split
   ·rfl
   ·exact put_get_ne h hp _
  ·unfold opUnlock;rw [hx];simp only;split
   ·rfl
   ·exact put_get_ne h hp _
  ·unfold opLock;rw [hx];simp only;split
   ·exact put_get_ne h hp _
   ·rfl
theorem unlock_at (hs:A.get x=some s) (ho:s.word % 2=1):∀ t,(opUnlock A x c).2.get x=some t->t.word % 2=0/\t.nd=s.nd:=by
 intro t ht
 unfold opUnlock at ht
 rw [hs] at ht
 simp only at ht
 rw [if_neg (by omega),put_get hs] at ht
 injection ht with ht
 subst ht
 refine ⟨?_,rfl⟩
 unfold back
 cases c<;>simp only<;>(try simp)<;>omega
theorem FreeOk.near (h:FreeOk A m) (x:Int) (hg:∀ ix,ix≠x->A'.get ix=A.get ix) (hh:∀ ix,ix ∈ m.holds->ix=x\/ix ∈ m'.holds) (hx:x ∈ m'.holds\/∀ t,A'.get x=some t->t.word % 2=0/\Two t.nd) (ht:m'.twos):FreeOk A' m':=by
 refine ⟨λ ix s hs hn=>?_,ht⟩
 by_cases he:ix=x
 ·subst he
  rcases hx with hx|hx
  ·exact absurd hx hn
  ·exact hx s hs
 ·rw [hg ix he] at hs
  refine h.free ix s hs (λ hm=>?_)
  rcases hh ix hm with e|e
  ·exact he e
  ·exact hn e
theorem FreeOk.same (h:FreeOk A m) (hg:∀ ix,A'.get ix=A.get ix) (hh:∀ ix,ix ∈ m.holds->ix ∈ m'.holds) (ht:m'.twos):FreeOk A' m':=
 ⟨λ ix s hs hn=>h.free ix s (by rw [<-hg];exact hs) (λ hm=>hn (hh ix hm)),ht⟩
theorem twos_no (h:m'.nx<=2\/14<=m'.nx):m'.twos:=⟨λ _ _=>by omega,λ _=>by omega,λ _ _=>by omega⟩
theorem two_jnd {k:List UInt8} {kid:Int} (h:Two n):Two (jnd n k kid):=by
 intro hl
 unfold jnd at hl ⊢
 split
 ·rename_i hh;rw [if_pos hh] at hl;exact h hl
 ·rename_i hh
  rw [if_neg hh] at hl
  have:=h hl
  simp only [ins,List.length_append,List.length_take,List.length_cons,List.length_drop]
  omega
theorem two_spl {leaf inner r:Int} (ho:over n leaf inner=true) (h3:3<=inner):Two (spL n r)/\Two (spR n):=by
 by_cases hl:n.lvl=0
 ·refine ⟨λ h=>absurd ?_ h,λ h=>absurd ?_ h⟩
  ·unfold spL;repeat' split
   all_goals exact hl
  ·unfold spR;repeat' split
   all_goals first|rfl|exact hl
 ·unfold over at ho
  rw [if_neg hl,decide_eq_true_eq] at ho
  have hM:spM n=n.kids.length:=by unfold spM;rw [if_neg hl]
  have hH:spH n=(n.kids.length+1) / 2:=by unfold spH;rw [hM]
  unfold spL spR
  by_cases hb:spBad n
  ·rw [if_pos hb,if_pos hb]
   exact ⟨λ _=>by omega,λ h=>absurd rfl h⟩
  ·rw [if_neg hb,if_neg hb,if_neg hl,if_neg hl]
   refine ⟨λ _=>?_,λ _=>?_⟩
   ·simp only [List.length_take];omega
   ·simp only [List.length_drop];omega
theorem FreeOk.step (h:FreeOk A m) (hi:PInv leaf inner A ps) (hm:m ∈ ps) (ok:POk A m) (hn:m.nx<=20) (h3:3<=inner):FreeOk (stepP leaf inner A m).2.1 (stepP leaf inner A m).2.2:=by
 have he:=(hi.each m hm).2.2.2
 have ht:=h.twos
 have hhid:=λ (h1:3<=m.nx) (h2:m.nx<=13)=>hi.held m hm m.id (holds_id h1 h2)
 have hhfr:=λ (h1:8<=m.nx) (h2:m.nx<=10)=>hi.held m hm m.fresh (holds_fresh h1 h2)
 have hhrt:=λ (h1:16<=m.nx) (h2:m.nx<=18)=>hi.held m hm m.root (holds_root h1 h2)
 obtain ⟨k,hk⟩:∃ k,m.nx=k:=⟨_,rfl⟩
 have hk20:k<=20:=hk▸hn
 rw [hk] at he
 match k,hk,hk20,he with
 | 0,hk,_,_=>rw [stepP_0 hk];exact h.same (λ _=>rfl) (λ ix hx=>by rw [holds_no (.inl (by omega))] at hx;cases hx) (twos_no (.inr (by show 14<=20;decide)))
 | 1,hk,_,_=>
  have e:stepP leaf inner A m=downP A m:=by unfold stepP;simp only [hk]
  have hs:(downP A m).2.1=A/\((downP A m).2.2.nx<=2\/14<=(downP A m).2.2.nx):=by
   unfold downP
   split
   ·exact ⟨rfl,.inl (by show m.nx<=2;omega)⟩
   ·split
    ·simp only
     split
     ·exact ⟨rfl,.inl (by show 2<=2;decide)⟩
     ·split
      ·exact ⟨rfl,.inr (by show 14<=14;decide)⟩
      ·exact ⟨rfl,.inr (by show 14<=20;decide)⟩
    ·exact ⟨rfl,.inl (by show m.nx<=2;omega)⟩
  rw [e,hs.1]
  exact h.same (λ _=>rfl) (λ ix hx=>by rw [holds_no (.inl (by omega))] at hx;cases hx) (twos_no hs.2)
 | 2,hk,_,he=>
  obtain ⟨d,hd,hdn,hdt,hdl,e1,e2,e3⟩:=he
  have hok:=hi.desc m hm d hd
  obtain ⟨s,hs,hle,hev⟩:=hok.here (.inr (.inr (.inr ⟨hdn,hdt⟩)))
  rw [<-e1] at hs
  rw [<-e2] at hle hev
  have hno:m.holds=[]:=holds_no (.inl (by omega))
  have hsf:=h.free m.id s hs (by rw [hno];exact List.not_mem_nil)
  have e:stepP leaf inner A m=lockP leaf inner A m:=by unfold stepP;simp only [hk]
  rw [e]
  have hfree:∀ ix,ix ∈ m.holds->ix=m.id\/ix ∈ (lockP leaf inner A m).2.2.holds:=λ ix hx=>by rw [hno] at hx;cases hx
  unfold lockP at hfree ⊢
  rw [opLock_some hs] at hfree ⊢
  by_cases hw:s.word=m.word
  ·have hold:m.old=s.nd:=by
    have:=hok.all (.inr ⟨hdn,hdt⟩) ⟨s,by rw [<-e1];exact hs,.inl (by rw [<-e2];exact hw)⟩
    rw [e3,this,<-e1,opNd_some hs]
   have hlvl:m.old.lvl=m.level:=by rw [e3,hok.lvl hdt,hdl]
   rw [if_pos ⟨hw,hev⟩] at hfree ⊢
   simp only [ne_eq,not_true_eq_false,if_false,Bool.true_eq_false] at hfree ⊢
   have h2:Two m.old:=by rw [hold];exact hsf.2
   have h2n:Two (newP m):=by
    unfold newP
    by_cases hl:m.level=0
    ·rw [if_pos hl];exact λ hh=>absurd (by rw [wth_hd.1,hlvl,hl]) hh
    ·rw [if_neg hl];exact two_jnd h2
   have hput:∀ ix,ix≠m.id->(A.put m.id ⟨m.word+1,s.nd⟩).get ix=A.get ix:=λ ix hx=>put_get_ne hx (get_pos hs) _
   have key:∀ m':Pm,m'.id=m.id->m'.old=m.old->(m'.nx=3/\m'.nw=newP m\/m'.nx=6/\m'.nw=newP m\/m'.nx=5)->FreeOk (A.put m.id ⟨m.word+1,s.nd⟩) m':=λ m' g1 g2 g3=>by
    refine h.near m.id hput (λ ix hx=>by rw [hno] at hx;cases hx) (.inl ?_) ⟨λ _ _=>by rw [g2];exact h2,λ hh=>?_,λ hh _=>by omega⟩
    ·rw [holds_one (.inl (by omega)),g1];exact List.mem_singleton.2 rfl
    ·rcases g3 with ⟨g3,g4⟩|⟨g3,g4⟩|g3
     ·rw [g4];exact h2n
     ·rw [g4];exact h2n
     ·omega
   by_cases hl:m.level=0
   ·rw [if_pos hl]
    cases hov:over (newP m) leaf inner with
    | true=>exact key _ rfl rfl (.inr (.inl ⟨rfl,rfl⟩))
    | false=>exact key _ rfl rfl (.inl ⟨rfl,rfl⟩)
   ·rw [if_neg hl]
    split
    ·exact key _ rfl rfl (.inr (.inr rfl))
    ·cases hov:over (newP m) leaf inner with
     | true=>exact key _ rfl rfl (.inr (.inl ⟨rfl,rfl⟩))
     | false=>exact key _ rfl rfl (.inl ⟨rfl,rfl⟩)
  ·rw [if_neg (λ hh=>hw hh.1)]
   simp only [ne_eq,not_true_eq_false,if_false,if_true]
   exact h.same (λ _=>rfl) (λ ix hx=>by rw [hno] at hx;cases hx) (twos_no (.inl (by show 1<=2;decide)))
 | 3,hk,_,_=>
  rw [stepP_3 hk (ok.body hk).1]
  exact h.near m.id (λ ix hx=>(set_ne hx (c:=true) (wd:=0)).2.1) (λ ix hx=>by rw [holds_one (.inl (by omega))] at hx;exact .inl (by simpa using hx)) (.inl (by rw [holds_one (.inl ⟨(by show 3<=4;decide),(by show 4<=7;decide)⟩)];exact List.mem_singleton.2 rfl)) ⟨λ _ _=>ht.1 (by omega) (by omega),λ _=>ht.2.1 (by omega),λ h _=>by have:8<=4:=h;omega⟩
 | 4,hk,_,he=>
  have hg:=ok.gives (.inl hk)
  rw [hk] at hg
  rw [stepP_4 hk hg]
  obtain ⟨s,hs,ho⟩:=hhid (by omega) (by omega)
  rw [opNd_some hs] at he
  exact h.near m.id (λ ix hx=>(set_ne hx (n:=Nd.zero) (wd:=0)).2.2.1) (λ ix hx=>by rw [holds_one (.inl (by omega))] at hx;exact .inl (by simpa using hx)) (.inr (λ t ht'=>by obtain ⟨g1,g2⟩:=unlock_at hs ho t ht';exact ⟨g1,by rw [g2,he.1];exact ht.2.1 (by omega)⟩)) (twos_no (.inr (by show 14<=20;decide)))
 | 5,hk,_,he=>
  have hg:=ok.gives (.inr (.inl hk))
  rw [hk] at hg
  obtain ⟨s,hs,ho⟩:=hhid (by omega) (by omega)
  obtain ⟨⟨s',hs',_,hnd⟩,_⟩:=he
  obtain rfl:s'=s:=by rw [hs] at hs';injection hs' with e;exact e.symm
  have hA:∀ m':Pm,14<=m'.nx->FreeOk (opUnlock A m.id false).2 m':=λ m' hm'=>h.near m.id (λ ix hx=>(set_ne hx (n:=Nd.zero) (wd:=0)).2.2.1) (λ ix hx=>by rw [holds_one (.inl (by omega))] at hx;exact .inl (by simpa using hx)) (.inr (λ t ht'=>by obtain ⟨g1,g2⟩:=unlock_at hs ho t ht';exact ⟨g1,by rw [g2,hnd];exact ht.1 (by omega) (by omega)⟩)) (twos_no (.inr hm'))
  rw [stepP_5 hk hg]
  exact hA _ (by show 14<=20;decide)
 | 7,hk,_,he=>
  have hg:=ok.gives (.inr (.inr hk))
  rw [hk] at hg
  obtain ⟨s,hs,ho⟩:=hhid (by omega) (by omega)
  obtain ⟨⟨s',hs',_,hnd⟩,_⟩:=he
  obtain rfl:s'=s:=by rw [hs] at hs';injection hs' with e;exact e.symm
  have hA:∀ m':Pm,14<=m'.nx->FreeOk (opUnlock A m.id false).2 m':=λ m' hm'=>h.near m.id (λ ix hx=>(set_ne hx (n:=Nd.zero) (wd:=0)).2.2.1) (λ ix hx=>by rw [holds_one (.inl (by omega))] at hx;exact .inl (by simpa using hx)) (.inr (λ t ht'=>by obtain ⟨g1,g2⟩:=unlock_at hs ho t ht';exact ⟨g1,by rw [g2,hnd];exact ht.1 (by omega) (by omega)⟩)) (twos_no (.inr hm'))
  rw [stepP_7 hk hg]
  split<;>exact hA _ (by show 14<=20;decide)
 | 6,hk,_,he=>
  have e:stepP leaf inner A m=slotP A m:=by unfold stepP;simp only [hk]
  have hov:=he.2.2.2
  rw [e]
  unfold slotP
  by_cases hfull:A.sl.length=A.nodes
  ·rw [alloc_full_ hfull]
   simp only [hk]
   exact h.same (λ _=>rfl) (λ ix hx=>by rw [holds_one (.inl (by omega))] at hx;rw [holds_one (.inl ⟨(by show 3<=7;decide),(by show 7<=7;decide)⟩)];exact hx) ⟨λ _ _=>ht.1 (by omega) (by omega),λ _=>ht.2.1 (by omega),λ h _=>by have:8<=7:=h;omega⟩
  ·rw [alloc_new_ hfull]
   simp only [hk]
   have hh:∀ m':Pm,m'.nx=8->m'.id=m.id->m'.fresh=(A.sl.length:Int)+1->m'.twos->FreeOk {A with sl:=A.sl++[⟨1,Nd.zero⟩]} m':=λ m' g1 g2 g3 g4=>by
    refine h.near ((A.sl.length:Int)+1) (λ ix hx=>by rw [get_app,if_neg hx]) (λ ix hx=>?_) (.inl ?_) g4
    ·rw [holds_one (.inl (by omega))] at hx
     rw [holds_two (by omega),g2]
     exact .inr (List.mem_cons.2 (.inl (by simpa using hx)))
    ·rw [holds_two (by omega),g3];exact List.mem_cons_of_mem _ (List.mem_singleton.2 rfl)
   exact hh _ rfl rfl rfl ⟨λ _ _=>ht.1 (by omega) (by omega),λ _=>ht.2.1 (by omega),λ _ _=>two_spl hov h3⟩
 | 8,hk,_,_=>
  rw [stepP_8 hk (ok.s8 hk).1]
  exact h.near m.fresh (λ ix hx=>(set_ne hx (c:=true) (wd:=0)).1) (λ ix hx=>by rw [holds_two (by omega)] at hx;rw [holds_two (m:={m with nx:=9}) ⟨(by show 8<=9;decide),(by show 9<=10;decide)⟩];exact .inr hx) (.inl (by rw [holds_two (m:={m with nx:=9}) ⟨(by show 8<=9;decide),(by show 9<=10;decide)⟩];exact List.mem_cons_of_mem _ (List.mem_singleton.2 rfl))) ⟨λ _ _=>ht.1 (by omega) (by omega),λ _=>ht.2.1 (by omega),λ _ _=>ht.2.2 (by omega) (by omega)⟩
 | 9,hk,_,_=>
  rw [stepP_9 hk (ok.s9 hk).1]
  exact h.near m.fresh (λ ix hx=>(set_ne hx (c:=true) (wd:=0)).2.1) (λ ix hx=>by rw [holds_two (by omega)] at hx;rw [holds_two (m:={m with nx:=10}) ⟨(by show 8<=10;decide),(by show 10<=10;decide)⟩];exact .inr hx) (.inl (by rw [holds_two (m:={m with nx:=10}) ⟨(by show 8<=10;decide),(by show 10<=10;decide)⟩];exact List.mem_cons_of_mem _ (List.mem_singleton.2 rfl))) ⟨λ _ _=>ht.1 (by omega) (by omega),λ _=>ht.2.1 (by omega),λ _ _=>ht.2.2 (by omega) (by omega)⟩
 | 10,hk,_,he=>
  rw [stepP_10 hk (ok.s10 hk)]
  obtain ⟨s,hs,ho⟩:=hhfr (by omega) (by omega)
  have hnd:=he.2.2
  rw [opNd_some hs] at hnd
  exact h.near m.fresh (λ ix hx=>(set_ne hx (n:=Nd.zero) (wd:=0)).2.2.1) (λ ix hx=>by rw [holds_two (by omega)] at hx;rw [holds_one (m:={m with nx:=11}) (.inr ⟨(by show 11<=11;decide),(by show 11<=13;decide)⟩)];simp only [List.mem_cons,List.not_mem_nil,or_false] at hx;rcases hx with hx|hx;exact .inr (List.mem_singleton.2 hx);exact .inl hx) (.inr (λ t ht'=>by obtain ⟨g1,g2⟩:=unlock_at hs ho t ht';exact ⟨g1,by rw [g2,hnd];exact (ht.2.2 (by omega) (by omega)).2⟩)) ⟨λ _ _=>ht.1 (by omega) (by omega),λ _=>ht.2.1 (by omega),λ _ _=>ht.2.2 (by omega) (by omega)⟩
 | 11,hk,_,_=>
  rw [stepP_11 hk (ok.s11 hk).1]
  exact h.near m.id (λ ix hx=>(set_ne hx (c:=true) (wd:=0)).1) (λ ix hx=>by rw [holds_one (.inr (by omega))] at hx;exact .inl (by simpa using hx)) (.inl (by rw [holds_one (.inr ⟨(by show 11<=12;decide),(by show 12<=13;decide)⟩)];exact List.mem_singleton.2 rfl)) ⟨λ _ _=>ht.1 (by omega) (by omega),λ _=>ht.2.1 (by omega),λ _ _=>ht.2.2 (by omega) (by omega)⟩
 | 12,hk,_,_=>
  rw [stepP_12 hk (ok.s12 hk).1]
  exact h.near m.id (λ ix hx=>(set_ne hx (c:=true) (wd:=0)).2.1) (λ ix hx=>by rw [holds_one (.inr (by omega))] at hx;exact .inl (by simpa using hx)) (.inl (by rw [holds_one (.inr ⟨(by show 11<=13;decide),(by show 13<=13;decide)⟩)];exact List.mem_singleton.2 rfl)) ⟨λ _ _=>ht.1 (by omega) (by omega),λ _=>ht.2.1 (by omega),λ _ _=>ht.2.2 (by omega) (by omega)⟩
 | 13,hk,_,he=>
  rw [stepP_13 hk (ok.s13 hk).1]
  obtain ⟨s,hs,ho⟩:=hhid (by omega) (by omega)
  have hnd:=he.2
  rw [opNd_some hs] at hnd
  exact h.near m.id (λ ix hx=>(set_ne hx (n:=Nd.zero) (wd:=0)).2.2.1) (λ ix hx=>by rw [holds_one (.inr (by omega))] at hx;exact .inl (by simpa using hx)) (.inr (λ t ht'=>by obtain ⟨g1,g2⟩:=unlock_at hs ho t ht';exact ⟨g1,by rw [g2,hnd];exact (ht.2.2 (by omega) (by omega)).1⟩)) (twos_no (.inl (by show 1<=2;decide)))
 | 14,hk,_,_=>
  rw [stepP_14 hk]
  split
  ·exact h.same (λ _=>rfl) (λ ix hx=>by rw [holds_no (by omega)] at hx;cases hx) (twos_no (.inr (by show 14<=20;decide)))
  ·exact h.same (λ _=>rfl) (λ ix hx=>by rw [holds_no (by omega)] at hx;cases hx) (twos_no (.inr (by show 14<=15;decide)))
 | 15,hk,_,_=>
  have e:stepP leaf inner A m=slotP A m:=by unfold stepP;simp only [hk]
  rw [e]
  unfold slotP
  by_cases hfull:A.sl.length=A.nodes
  ·rw [alloc_full_ hfull]
   simp only [hk]
   exact h.same (λ _=>rfl) (λ ix hx=>by rw [holds_no (by omega)] at hx;cases hx) (twos_no (.inr (by show 14<=20;decide)))
  ·rw [alloc_new_ hfull]
   simp only [hk]
   have hh:∀ m':Pm,m'.nx=16->m'.root=(A.sl.length:Int)+1->FreeOk {A with sl:=A.sl++[⟨1,Nd.zero⟩]} m':=λ m' g1 g3=>by
    refine h.near ((A.sl.length:Int)+1) (λ ix hx=>by rw [get_app,if_neg hx]) (λ ix hx=>?_) (.inl ?_) (twos_no (.inr (by omega)))
    ·rw [holds_no (by omega)] at hx;cases hx
    ·rw [holds_rt (by omega),g3];exact List.mem_singleton.2 rfl
   exact hh _ rfl rfl
 | 16,hk,_,_=>
  rw [stepP_16 hk (ok.s16 hk)]
  exact h.near m.root (λ ix hx=>(set_ne hx (c:=true) (wd:=0)).1) (λ ix hx=>by rw [holds_rt (by omega)] at hx;exact .inl (by simpa using hx)) (.inl (by rw [holds_rt ⟨(by show 16<=17;decide),(by show 17<=18;decide)⟩];exact List.mem_singleton.2 rfl)) (twos_no (.inr (by show 14<=17;decide)))
 | 17,hk,_,_=>
  rw [stepP_17 hk (ok.s17 hk)]
  exact h.near m.root (λ ix hx=>(set_ne hx (c:=true) (wd:=0)).2.1) (λ ix hx=>by rw [holds_rt (by omega)] at hx;exact .inl (by simpa using hx)) (.inl (by rw [holds_rt ⟨(by show 16<=18;decide),(by show 18<=18;decide)⟩];exact List.mem_singleton.2 rfl)) (twos_no (.inr (by show 14<=18;decide)))
 | 18,hk,_,he=>
  rw [stepP_18 hk (ok.s18 hk)]
  obtain ⟨s,hs,ho⟩:=hhrt (by omega) (by omega)
  have hnd:=he.2
  rw [opNd_some hs] at hnd
  exact h.near m.root (λ ix hx=>(set_ne hx (n:=Nd.zero) (wd:=0)).2.2.1) (λ ix hx=>by rw [holds_rt (by omega)] at hx;exact .inl (by simpa using hx)) (.inr (λ t ht'=>by obtain ⟨g1,g2⟩:=unlock_at hs ho t ht';exact ⟨g1,by rw [g2,hnd];exact λ _=>Nat.le_refl _⟩)) (twos_no (.inr (by show 14<=19;decide)))
 | 19,hk,_,_=>
  have hg:∀ ix,(opGrow A m.side m.root).2.2.get ix=A.get ix:=λ ix=>by
   unfold opGrow
   split
   ·rfl
   ·split<;>rfl
  rw [stepP_19 hk]
  split
  ·exact h.same hg (λ ix hx=>by rw [holds_no (by omega)] at hx;cases hx) (twos_no (.inr (by show 14<=20;decide)))
  ·exact h.same hg (λ ix hx=>by rw [holds_no (by omega)] at hx;cases hx) (twos_no (.inl (by show 1<=2;decide)))
 | 20,hk,_,_=>rw [stepP_through hk];exact h
 | n+21,_,h,_=>exact absurd h (by omega)
end
section
variable {A:Ar} {chk:Nd->Int} {a0 a1 a2:Int}
theorem alone_down_ (hmay:∀ n,chk n=0->May n a0 a1 a2) (hev:∀ s ∈ A.sl,s.word % 2=0):∀ (n:Nat) (L first:Int) (up:Option Ch) (c:Ch) (ts:List Ch) (c':Ch) (low:List UInt8) (M:Mc),Trs A chk L first up (c::ts)->Chn A chk L M.id low c'->(∀ e ∈ c',e ∈ c)->c'.length+(ts.take (L-M.level).toNat).flatten.length<=n->cmp low M.key<=0->M.nx=.latch->M.there=false->0<=M.level->M.level<=L->
  RunsTo A M (4*n) (λ M'=>∃ ch,(c::ts)[(L-M.level).toNat]?=some ch/\EndsAt A ch M.key M.level M'/\M'.again=M.again)
 | 0,L,first,up,c,ts,c',low,M,hT,hC,hsub,hn,hlow,hnx,hth,hl0,hlL=>by
  obtain ⟨s,r,e,_⟩:=hC.at_
  subst e
  simp at hn
 | n+1,L,first,up,c,ts,c',low,M,hT,hC,hsub,hn,hlow,hnx,hth,hl0,hlL=>by
  obtain ⟨s,r,e,hs,hlv,hck,hlb,hr⟩:=hC.at_
  have hev':s.word % 2=0:=by
   obtain ⟨i,_,h2,_⟩:=get_some hs
   exact hev s (List.mem_of_getElem? h2)
  have hm:=hmay _ hck
  obtain ⟨f1,f2⟩:=four hnx hs hev'
  have hfour:=four_there hnx hth hs hev'
  have key4:∀ {N:Nat} {E:Mc->Prop},RunsTo A (runM A 4 M) N E->N+4<=4*(n+1)->RunsTo A M (4*(n+1)) E:=λ h hN=>(h.behind hfour).mono hN
  rw [f1] at key4
  unfold decideM at key4
  simp only [ne_eq,not_true_eq_false,if_false] at key4
  rw [if_neg (by omega)] at key4
  by_cases hb:beyond s.nd.high M.key=true
  ·rw [if_pos hb] at key4
   obtain ⟨hb1,hb2⟩:=beyond_iff.1 hb
   rcases hr with ⟨hr,_⟩|⟨hr,hC'⟩
   ·have:=hm.high.2 hr;omega
   subst e
   refine key4 (alone_down_ hmay hev n L first up c ts r s.nd.high _ hT hC' (λ e he=>hsub e (List.mem_cons_of_mem _ he)) (by show r.length+(ts.take (L-M.level).toNat).flatten.length<=n;simp only [List.length_cons] at hn;omega) (by show cmp s.nd.high M.key<=0;rw [cmp_swap_ M.key s.nd.high];omega) rfl hth hl0 hlL) (by omega)
  rw [if_neg hb] at key4
  by_cases hle:s.nd.lvl=M.level
  ·rw [if_pos hle] at key4
   refine key4 (N:=0) ⟨0,Nat.le_refl _,rfl,?_,λ k hk=>by omega⟩ (by omega)
   refine ⟨c,by rw [show (L-M.level).toNat=0 by omega];rfl,⟨rfl,⟨low,hsub _ (by rw [e];exact List.mem_cons_self ..),hlow⟩,hs,hle,by show beyond s.nd.high M.key=false;simpa using hb⟩,rfl⟩
  ·rw [if_neg hle] at key4
   cases hT with
   | base h1 h2=>omega
   | step h0 h1 h2 h3=>
    obtain ⟨c2,ts2,e2,hc2,hu2⟩:∃ c2 ts2,ts=c2::ts2/\Chn A chk (L-1) (firstKid A c) [] c2/\UpOk A (some c) c2:=by
     generalize hL1:L-1=L1 at h3
     cases h3 with
     | base g1 g2=>exact ⟨_,_,rfl,g1,g2⟩
     | step _ g1 g2 _=>exact ⟨_,_,rfl,g1,g2⟩
    subst e2
    have hmem:(M.id,low) ∈ c:=hsub _ (by rw [e];exact List.mem_cons_self ..)
    have hnk:=hu2 _ rfl _ hmem
    have hop:opNd A M.id=s.nd:=by unfold opNd;rw [hs]
    simp only [hop] at hnk
    obtain ⟨lw,g1,g2⟩:=child_in (key:=M.key) hm (by omega) hnk hlow
    obtain ⟨c3,k1,k2,k3⟩:=hc2.mem g1
    have hlen:c3.length+(ts2.take (L-1-M.level).toNat).flatten.length<=n:=by
     have hc1:1<=c'.length:=by rw [e];simp
     rw [show (L-M.level).toNat=(L-1-M.level).toNat+1 by omega,List.take_succ_cons] at hn
     simp only [List.flatten_cons,List.length_append] at hn
     omega
    have ih:=alone_down_ hmay hev n (L-1) (firstKid A c) (some c) c2 ts2 c3 lw {key:=M.key,level:=M.level,nx:=.latch,id:=childOf s.nd.kids s.nd.keys M.key,word:=s.word,nd:=s.nd,there:=M.there,again:=M.again,right:=M.right} h3 k1 k3 hlen g2 rfl hth hl0 (by show M.level<=L-1;omega)
    refine key4 ⟨?_⟩ (N:=4*n) (by omega)
    obtain ⟨S,s1,s2,⟨ch,s3,s4⟩,s5⟩:=ih.fin
    refine ⟨S,s1,s2,⟨ch,?_,s4⟩,s5⟩
    have e3:(L-M.level).toNat=(L-1-M.level).toNat+1:=by omega
    rw [e3]
    exact s3
theorem alone_n {lv:Int} {ls:List Ch} {key:List UInt8} {level:Int} (h:TreeOk A a0 a1 a2 chk lv ls) (h0:0<=level) (hl:level<=lv+1) :
  RunsTo A (.new key level) (if level=lv+1 then 5 else 1+4*(ls.take (lv-level+1).toNat).flatten.length) (λ M'=>(level=lv+1->M'.there=false)/\(level<=lv->∃ ch,ls[(lv-level).toNat]?=some ch/\EndsAt A ch key level M')):=by
 obtain ⟨s,hs,hlv⟩:=h.top
 have h1:∀ i,i < 1->(runM A i (Mc.new key level)).nx≠.done/\(runM A i (Mc.new key level)).there=false:=λ i hi=>by
  obtain rfl:i=0:=by omega
  exact ⟨(λ h=>nomatch h),rfl⟩
 have e1:runM A 1 (Mc.new key level)={Mc.new key level with id:=A.root,nx:=.latch}:=rfl
 by_cases hle:level=lv+1
 ·rw [if_pos hle]
  have hev':s.word % 2=0:=by
   obtain ⟨i,_,h2,_⟩:=get_some hs
   exact h.even s (List.mem_of_getElem? h2)
  have hnx:(runM A 1 (Mc.new key level)).nx=.latch:=rfl
  have hid:A.get (runM A 1 (Mc.new key level)).id=some s:=hs
  obtain ⟨f1,f2⟩:=four hnx hid hev'
  have hfour:=four_there hnx rfl hid hev'
  unfold decideM at f1
  simp only [ne_eq,not_true_eq_false,if_false] at f1
  rw [if_pos (by show s.nd.lvl < level;omega)] at f1
  have hR:RunsTo A (runM A 4 (runM A 1 (Mc.new key level))) 0 (λ M'=>(level=lv+1->M'.there=false)/\(level<=lv->∃ ch,ls[(lv-level).toNat]?=some ch/\EndsAt A ch key level M')):=by
   rw [f1]
   exact ⟨0,Nat.le_refl _,rfl,⟨λ _=>rfl,λ h=>by omega⟩,λ k hk=>by omega⟩
  exact (hR.behind hfour).behind h1
 ·rw [if_neg hle]
  obtain ⟨c,ts,e2,hc⟩:∃ c ts,ls=c::ts/\Chn A chk lv A.root [] c:=by
   have ht:=h.trs
   cases ht with
   | base g1 g2=>exact ⟨_,_,rfl,g1⟩
   | step _ g1 g2 _=>exact ⟨_,_,rfl,g1⟩
  subst e2
  have e3:((c::ts).take (lv-level+1).toNat).flatten.length=c.length+(ts.take (lv-level).toNat).flatten.length:=by
   rw [show (lv-level+1).toNat=(lv-level).toNat+1 by omega,List.take_succ_cons,List.flatten_cons,List.length_append]
  rw [e3]
  have hT:=alone_down_ h.may h.even (c.length+(ts.take (lv-level).toNat).flatten.length) lv A.root none c ts c [] {Mc.new key level with id:=A.root,nx:=.latch} h.trs hc (λ _ h=>h) (Nat.le_refl _) (cmp_nil key) rfl rfl h0 (by show level<=lv;omega)
  rw [<-e1] at hT
  have hT2:=(hT.behind h1).mono (N':=1+4*(c.length+(ts.take (lv-level).toNat).flatten.length)) (by omega)
  obtain ⟨S,s1,s2,⟨ch,s3,s4,s5⟩,s6⟩:=hT2.fin
  exact ⟨S,s1,s2,⟨λ h=>absurd h hle,λ _=>⟨ch,s3,s4⟩⟩,s6⟩
end
section
variable {A:Ar} {chk:Nd->Int} {a0 a1 a2 lv level:Int} {ls:List Ch}
theorem TreeOk.double (h:TreeOk A a0 a1 a2 chk lv ls) (two:∀ c ∈ ls,∀ e ∈ c,Two (opNd A e.1)):∀ (k n:Nat),n+k<=ls.length->((ls.take n).flatten.length+1)*2 ^ k<=(ls.take (n+k)).flatten.length+1:=by
 intro k
 induction k with
 | zero=>intro n _;simp
 | succ k ih=>
  intro n hn
  have h1:=ih n (by omega)
  obtain ⟨c,hc⟩:∃ c,ls[n+k]?=some c:=⟨_,List.getElem?_eq_getElem (by omega)⟩
  have h2:=h.trs.pre h.may 0 two (λ c hc=>by
   cases hl:ls with
   | nil=>rw [hl] at hc;simp at hc
   | cons c0 ts=>
    have ht:=h.trs
    rw [hl] at ht hc
    simp at hc
    subst hc
    have hch:Chn A chk lv A.root [] c0:=by
     cases ht with
     | base g1 g2=>exact g1
     | step _ g1 g2 _=>exact g1
    obtain ⟨s,r,e,_⟩:=hch.at_
    rw [e];simp) (n+k) c hc
  have h3:(ls.take (n+(k+1))).flatten.length=(ls.take (n+k)).flatten.length+c.length:=by
   rw [show n+(k+1)=(n+k)+1 by omega,List.take_add_one,hc]
   simp
  rw [h3,Nat.pow_succ,<-Nat.mul_assoc]
  omega
def rest (k:Int):Nat:=if k=0 then 600 else if k=1 then 320 else if k=2 then 175 else if k=3 then 100 else if k=4 then 60 else if k=5 then 35 else 14
end
section
variable {a0 a1 a2 a3 a4:Int} {A A' V V':Ar} {ps:List Pm} {m m':Pm} {lv:Int} {ls:List Ch} {es es':List Ent} {i j:Nat} {id kid:Int} {n:Nd} {s t:Sl} {d c:Ch} {lw key:List UInt8}
theorem jnd_first (hm:May n a0 a1 a2) (hl:n.lvl≠0):(jnd n key kid).kids.getD 0 0=n.kids.getD 0 0:=by
 unfold jnd
 split
 ·rfl
 ·have h1:=(hm.inner hl).2.2.2.1
  show (ins n.kids (min (below n.keys key+1) n.kids.length) kid).getD 0 0=_
  rw [List.getD_eq_getElem?_getD,List.getD_eq_getElem?_getD,ins_get _ _ _ (Nat.min_le_right _ _),if_pos (by omega)]
theorem jnd_nodeKids (hm:May n a0 a1 a2) (hl:n.lvl≠0) (hk:nodeKids d lw n=true) (hin:(kid,key) ∈ d):nodeKids d lw (jnd n key kid)=true:=by
 unfold jnd
 split
 ·exact hk
 ·have hlen:=(hm.inner hl).2.2.2.1
  have hb:=below_le n.keys key
  have hmin:min (below n.keys key+1) n.kids.length=below n.keys key+1:=by omega
  rw [hmin]
  unfold nodeKids at hk ⊢
  rw [List.all_eq_true] at hk ⊢
  intro k hkr
  have hlt:k < n.kids.length+1:=by
   have:=List.mem_range.1 hkr
   simp [ins] at this;omega
  have hkid:∀ q,(ins n.kids (below n.keys key+1) kid).getD q 0=if q < below n.keys key+1 then n.kids.getD q 0 else if q=below n.keys key+1 then kid else n.kids.getD (q-1) 0:=λ q=>by
   rw [List.getD_eq_getElem?_getD,ins_get _ _ _ (by omega)]
   split
   ·rw [List.getD_eq_getElem?_getD]
   ·split
    ·rfl
    ·rw [List.getD_eq_getElem?_getD]
  have hkey:∀ q,(ins n.keys (below n.keys key) key).getD q []=if q < below n.keys key then n.keys.getD q [] else if q=below n.keys key then key else n.keys.getD (q-1) []:=λ q=>by
   rw [List.getD_eq_getElem?_getD,ins_get _ _ _ hb]
   split
   ·rw [List.getD_eq_getElem?_getD]
   ·split
    ·rfl
    ·rw [List.getD_eq_getElem?_getD]
  show kidOk d ((ins n.kids (below n.keys key+1) kid).getD k 0) (if k=0 then lw else (ins n.keys (below n.keys key) key).getD (k-1) [])=true
  rw [hkid,hkey]
  by_cases c1:k < below n.keys key+1
  ·rw [if_pos c1]
   have h1:=hk k (List.mem_range.2 (by omega))
   unfold wantLow at h1
   by_cases c0:k=0
   ·rw [if_pos c0] at h1 ⊢;exact h1
   ·rw [if_neg c0] at h1 ⊢
    rw [if_pos (by omega)];exact h1
  ·rw [if_neg c1]
   by_cases c2:k=below n.keys key+1
   ·rw [if_pos c2,if_neg (show ¬k=0 by omega),if_neg (show ¬k-1 < below n.keys key by omega),if_pos (show k-1=below n.keys key by omega)]
    unfold kidOk
    rw [List.any_eq_true]
    exact ⟨_,hin,by simp⟩
   ·rw [if_neg c2,if_neg (show ¬k=0 by omega),if_neg (show ¬k-1 < below n.keys key by omega),if_neg (show ¬k-1=below n.keys key by omega)]
    have h1:=hk (k-1) (List.mem_range.2 (by omega))
    unfold wantLow at h1
    rw [if_neg (by omega)] at h1
    rw [show k-1-1=k-1-1 from rfl] at h1
    exact h1
theorem keyFit_iff {k:List UInt8}:keyFit k=true ↔ 1<=k.length/\k.length<=64:=by unfold keyFit;simp
theorem valFit_iff {k:List UInt8}:valFit k=true ↔ k.length<=256:=by unfold valFit;simp
structure Grip (a0 a1 a2:Int) (V:Ar) (lv:Int) (ls:List Ch) (m:Pm) (j:Nat) (c:Ch) (lw:List UInt8):Prop where
 at_:ls[j]?=some c
 lvl:m.level=lv-j
 mem:(m.id,lw) ∈ c
 low:cmp lw m.sep<=0
 get:∃ t,V.get m.id=some t/\t.nd=m.old
 nd:opNd V m.id=m.old
 olvl:m.old.lvl=m.level
 may:May m.old a0 a1 a2
 lowb:lowBad lw m.old=false
theorem DInv.grip (h:DInv a0 a1 a2 a3 a4 A V ps lv ls es) (hm:m ∈ ps) (h1:3<=m.nx) (h2:m.nx<=13):∃ j c lw,Grip a0 a1 a2 V lv ls m j c lw:=by
 obtain ⟨⟨j,c,lw,g1,g2,g3,g4⟩,_⟩:=(h.each m hm).at_ (by omega) h2
 obtain ⟨t,k1,k2,k3,k4,k5,_⟩:=h.tree.at_ g1 g3
 have hv:=h.vof.grip m hm m.id ((grips_id h1 h2).2 rfl)
 have hto:t.nd=m.old:=k2.symm.trans hv
 rw [hto] at k3 k4 k5
 exact ⟨j,c,lw,g1,g2,g3,g4,⟨t,k1,hto⟩,hv,by omega,k4,k5⟩
theorem DInv.newMay (h:DInv a0 a1 a2 a3 a4 A V ps lv ls es) (hm:m ∈ ps) (h1:3<=m.nx) (h2:m.nx<=13) (hb:beyond m.old.high m.sep=false) (hg:Grip a0 a1 a2 V lv ls m j c lw):May (newP m) a0 (a1+1) (a2+1)/\(newP m).lvl=m.old.lvl/\(newP m).right=m.old.right/\(newP m).high=m.old.high/\lowBad lw (newP m)=false/\(newP m).kids.getD 0 0=m.old.kids.getD 0 0/\(∀ d,ls[j+1]?=some d->nodeKids d lw m.old=true->nodeKids d lw (newP m)=true)/\(∀ x ∈ (newP m).kids,x ∈ m.old.kids\/(0 < m.level/\x=m.half)):=by
 have hE:=h.each m hm
 have hl:m.live:=⟨by omega,by omega⟩
 obtain ⟨k1,k2,k3,k4⟩:=hE.key hl
 unfold newP
 by_cases h0:m.level=0
 ·rw [if_pos h0]
  have hs:=k4 h0
  obtain ⟨q1,q2,q3,q4⟩:=wth_hd (n:=m.old) (key:=m.key) (val:=m.val)
  have hlow:=hg.low
  rw [hs] at hlow hb
  have hw:=hg.may.with_ (by rw [hg.olvl];exact h0) (keyFit_iff.1 k1) hb (valFit_iff.1 k2)
  refine ⟨hw.1.wide (Int.le_refl _) (by omega),q1,q2,q3,wth_low hg.may hg.lowb hlow,by rw [q4],λ d _ hd=>?_,λ x hx=>.inl (by rw [q4] at hx;exact hx)⟩
  have hkn:m.old.kids=[]:=(hg.may.leaf (by rw [hg.olvl];exact h0)).2.2.1
  unfold nodeKids
  rw [q4,hkn];rfl
 ·rw [if_neg h0]
  have hpend:=hE.pend hl (by omega)
  have hol:m.old.lvl≠0:=by rw [hg.olvl];exact h0
  have hin:(m.id,lw) ∈ ls.flatten:=List.mem_flatten.2 ⟨c,List.mem_of_getElem? hg.at_,hg.mem⟩
  have hnk:m.half ∉ m.old.kids:=by have:=hpend.kid _ hin;rw [hg.nd] at this;exact this
  have hmet:=h.tree.met.2 _ hpend.ids.1
  have hr:=h.room
  have hvl:=h.vof.len
  obtain ⟨q1,q2,q3,q4⟩:=jnd_hd (n:=m.old) (key:=m.sep) (kid:=m.half)
  have hw:=hg.may.join_ hol hpend.sep hb hnk ⟨hmet.1,by omega⟩
  refine ⟨hw.1.wide (by omega) (Int.le_refl _),q1,q2,q3,jnd_low hg.may hg.lowb hg.low,jnd_first hg.may hol,λ d hd hk=>?_,λ x hx=>(jnd_kids hx).elim (λ e=>.inr ⟨by omega,e⟩) .inl⟩
  obtain ⟨j',c',p1,p2,p3,_⟩:=hpend.half
  have hjj:j'=j+1:=by have:=hg.lvl;omega
  rw [hjj,hd] at p1
  cases p1
  exact jnd_nodeKids hg.may hol hk p3
end
end Go.Proofs.Ytjcgphhpaenjkaa

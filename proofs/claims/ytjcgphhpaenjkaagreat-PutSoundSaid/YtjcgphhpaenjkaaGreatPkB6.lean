import Derived.Test.YtjcgphhpaenjkaaGreatPkB5
namespace Go.Proofs.YtjcgphhpaenjkaaGreat
open Go.RowKit
section
variable {A A':Ar} {ps:List Pm} {m m':Pm} {leaf inner:Int} {i:Nat}
theorem holds_id (h1:3<=m.nx) (h2:m.nx<=13):m.id ∈ m.holds:=by
 unfold Pm.holds
 split
 ·exact List.mem_cons_self ..
 ·rw [if_pos ⟨h1,h2⟩];exact List.mem_cons_self ..
theorem holds_fresh (h1:8<=m.nx) (h2:m.nx<=10):m.fresh ∈ m.holds:=by
 unfold Pm.holds
 rw [if_pos (by omega)]
 exact List.mem_cons_of_mem _ (List.mem_cons_self ..)
theorem holds_root (h1:16<=m.nx) (h2:m.nx<=18):m.root ∈ m.holds:=by
 unfold Pm.holds
 rw [if_neg (by omega),if_neg (by omega),if_pos ⟨h1,h2⟩]
 exact List.mem_cons_self ..
theorem pure_holds (h:m.pure):m.id ∈ m.holds:=by
 unfold Pm.pure at h
 exact holds_id (by omega) (by omega)
theorem opNd_same {ix:Int} (h:A'.get ix=A.get ix):opNd A' ix=opNd A ix:=by unfold opNd;rw [h]
theorem PBase.frame (h:PBase A m) (hg:A'.get m.id=A.get m.id):PBase A' m:=by
 obtain ⟨⟨s,h1,h2⟩,h3⟩:=h
 exact ⟨⟨s,by rw [hg];exact h1,h2⟩,h3⟩
theorem PEach.frame (h:PEach leaf inner A m) (hg:∀ ix ∈ m.holds,A'.get ix=A.get ix):PEach leaf inner A' m:=by
 unfold PEach at *
 obtain ⟨a,b,c,h⟩:=h
 refine ⟨a,b,c,?_⟩
 have hid:3<=m.nx->m.nx<=13->A'.get m.id=A.get m.id:=λ h1 h2=>hg _ (holds_id h1 h2)
 have hfr:8<=m.nx->m.nx<=10->A'.get m.fresh=A.get m.fresh:=λ h1 h2=>hg _ (holds_fresh h1 h2)
 have hro:16<=m.nx->m.nx<=18->A'.get m.root=A.get m.root:=λ h1 h2=>hg _ (holds_root h1 h2)
 clear hg a b c
 generalize m.nx=k at *
 rcases k with _|_|_|_|_|_|_|_|_|_|_|_|_|_|_|_|_|_|_|_|k
 ·trivial
 ·exact h
 ·exact h
 ·exact ⟨h.1.frame (hid (by omega) (by omega)),h.2⟩
 ·exact ⟨(opNd_same (hid (by omega) (by omega))).trans h.1,h.2⟩
 ·exact PBase.frame h (hid (by omega) (by omega))
 ·exact ⟨h.1.frame (hid (by omega) (by omega)),h.2⟩
 ·exact PBase.frame h (hid (by omega) (by omega))
 ·exact ⟨h.1.frame (hid (by omega) (by omega)),h.2⟩
 ·exact ⟨h.1.frame (hid (by omega) (by omega)),h.2.1,by rw [opNd_same (hfr (by omega) (by omega))];exact h.2.2⟩
 ·exact ⟨h.1.frame (hid (by omega) (by omega)),h.2.1,(opNd_same (hfr (by omega) (by omega))).trans h.2.2⟩
 ·exact ⟨h.1.frame (hid (by omega) (by omega)),h.2⟩
 ·exact ⟨h.1,by rw [opNd_same (hid (by omega) (by omega))];exact h.2⟩
 ·exact ⟨h.1,(opNd_same (hid (by omega) (by omega))).trans h.2⟩
 ·exact h
 ·exact h
 ·exact h
 ·exact ⟨h.1,by rw [opNd_same (hro (by omega) (by omega))];exact h.2⟩
 ·exact ⟨h.1,(opNd_same (hro (by omega) (by omega))).trans h.2⟩
 ·exact h
 ·trivial
theorem PInv.turn (h:PInv leaf inner A ps) (hm:ps[i]?=some m)
  (hfree:∀ ix s,A'.get ix=some s->s.word % 2=0->right s.nd=true/\Few 6 s.nd) (hfew:∀ s ∈ A'.sl,Few 7 s.nd)
  (hheld:∀ ix ∈ m'.holds,∃ s,A'.get ix=some s/\s.word % 2=1) (hoth:∀ j x,j≠i->ps[j]?=some x->∀ ix ∈ x.holds,A'.get ix=A.get ix/\ix ∉ m'.holds)
  (heach:PEach leaf inner A' m') (hdesc:∀ d,m'.D=some d->DOk A' (ps.set i m') d)
  (hh:∀ ix s,A.get ix=some s->∃ s',A'.get ix=some s'/\(s.word<=s'.word\/(s'.word+1=s.word/\s.word % 2=1)))
  (hc:∀ ix s w,A.get ix=some s->w<=s.word->w % 2=0->Cur A' (ps.set i m') ix w->Cur A ps ix w/\opNd A' ix=opNd A ix):PInv leaf inner A' (ps.set i m'):=by
 have hget:∀ j x,(ps.set i m')[j]?=some x->(j=i/\x=m')\/(j≠i/\ps[j]?=some x):=λ j x hj=>by
  rw [List.getElem?_set] at hj
  split at hj
  ·rename_i e
   split at hj
   ·injection hj with hj;exact .inl ⟨e.symm,hj.symm⟩
   ·cases hj
  ·rename_i hne
   exact .inr ⟨λ e=>hne e.symm,hj⟩
 refine ⟨hfree,hfew,λ x hx ix hix=>?_,λ j k x y hjk hj hk ix hix=>?_,λ x hx=>?_,λ x hx d hd=>?_⟩
 ·rcases set_mem hm hx with rfl|⟨h1,j,h2,h3⟩
  ·exact hheld ix hix
  ·rw [(hoth j x h2 h3 ix hix).1];exact h.held x h1 ix hix
 ·rcases hget j x hj with ⟨rfl,rfl⟩|⟨h1,h2⟩
  ·rcases hget k y hk with ⟨rfl,rfl⟩|⟨h3,h4⟩
   ·exact absurd rfl hjk
   ·exact λ hy=>(hoth k y h3 h4 ix hy).2 hix
  ·rcases hget k y hk with ⟨rfl,rfl⟩|⟨h3,h4⟩
   ·exact (hoth j x h1 h2 ix hix).2
   ·exact h.apart j k x y hjk h2 h4 ix hix
 ·rcases set_mem hm hx with rfl|⟨h1,j,h2,h3⟩
  ·exact heach
  ·exact (h.each x h1).frame (λ ix hix=>(hoth j x h2 h3 ix hix).1)
 ·rcases set_mem hm hx with rfl|⟨h1,j,h2,h3⟩
  ·exact hdesc d hd
  ·exact (h.desc x h1 d hd).frame hh hc
theorem get_pos {ix:Int} {s:Sl} (h:A.get ix=some s):1<=ix:=by
 unfold Ar.get at h
 split at h
 ·assumption
 ·cases h
theorem get_sl {ix:Int} (h:A'.sl=A.sl):A'.get ix=A.get ix:=by unfold Ar.get;rw [h]
theorem PInv.still (h:PInv leaf inner A ps) (hm:ps[i]?=some m) (hsl:A'.sl=A.sl) (hheld:∀ ix ∈ m'.holds,ix ∈ m.holds)
  (hpure:m'.pure->m.pure/\m'.id=m.id) (heach:PEach leaf inner A' m') (hdesc:∀ d,m'.D=some d->DOk A ps d):PInv leaf inner A' (ps.set i m'):=by
 have hmm:=List.mem_of_getElem? hm
 have hh:∀ ix s,A.get ix=some s->∃ s',A'.get ix=some s'/\(s.word<=s'.word\/(s'.word+1=s.word/\s.word % 2=1)):=λ ix s hs=>⟨s,by rw [get_sl hsl];exact hs,.inl (Nat.le_refl _)⟩
 have hc:∀ ix s w,A.get ix=some s->w<=s.word->w % 2=0->Cur A' (ps.set i m') ix w->Cur A ps ix w/\opNd A' ix=opNd A ix:=λ ix s w _ _ _ hcu=>
  cur_far (pure_set hm (λ hp hi=>by obtain ⟨h1,h2⟩:=hpure hp;exact ⟨h1,by rw [<-h2];exact hi⟩)) (get_sl hsl) hcu
 refine h.turn hm (λ ix s hs he=>h.free ix s (by rw [get_sl hsl] at hs;exact hs) he) (by rw [hsl];exact h.few) (λ ix hix=>?_) (λ j x hj hx ix hix=>⟨get_sl hsl,λ hm'=>?_⟩) heach (λ d hd=>(hdesc d hd).frame hh hc) hh hc
 ·rw [get_sl hsl];exact h.held m hmm ix (hheld ix hix)
 ·exact h.apart j i x m hj hx hm ix hix (hheld ix hm')
theorem PInv.put {ix0:Int} {s t:Sl} (h:PInv leaf inner A ps) (hm:ps[i]?=some m) (hs:A.get ix0=some s) (hown:∀ j x,j≠i->ps[j]?=some x->ix0 ∉ x.holds)
  (hfree:t.word % 2=0->right t.nd=true/\Few 6 t.nd) (hfew:Few 7 t.nd) (hheld:∀ ix ∈ m'.holds,(ix=ix0/\t.word % 2=1)\/(ix≠ix0/\ix ∈ m.holds))
  (hw:s.word<=t.word\/(t.word+1=s.word/\s.word % 2=1)) (hpure:m'.pure->m'.id=m.id/\(m.pure\/m.id=ix0))
  (hcur:∀ w,w<=s.word->w % 2=0->Cur (A.put ix0 t) (ps.set i m') ix0 w->Cur A ps ix0 w/\t.nd=s.nd)
  (heach:PEach leaf inner (A.put ix0 t) m') (hdesc:∀ d,m'.D=some d->DOk A ps d):PInv leaf inner (A.put ix0 t) (ps.set i m'):=by
 have hmm:=List.mem_of_getElem? hm
 have h1:=get_pos hs
 have hne:∀ ix,ix≠ix0->(A.put ix0 t).get ix=A.get ix:=λ ix hx=>get_put_ne h1 hx
 have he:=put_get hs t
 have hh:∀ ix s,A.get ix=some s->∃ s',(A.put ix0 t).get ix=some s'/\(s.word<=s'.word\/(s'.word+1=s.word/\s.word % 2=1)):=λ ix s1 hs1=>by
  by_cases hx:ix=ix0
  ·subst hx
   rw [hs] at hs1;injection hs1 with hs1
   exact ⟨t,he,by rw [<-hs1];exact hw⟩
  ·exact ⟨s1,by rw [hne ix hx];exact hs1,.inl (Nat.le_refl _)⟩
 have hc:∀ ix s w,A.get ix=some s->w<=s.word->w % 2=0->Cur (A.put ix0 t) (ps.set i m') ix w->Cur A ps ix w/\opNd (A.put ix0 t) ix=opNd A ix:=λ ix s1 w hs1 hl hev hcu=>by
  by_cases hx:ix=ix0
  ·subst hx
   rw [hs] at hs1;injection hs1 with hs1
   obtain ⟨g1,g2⟩:=hcur w (by rw [hs1];exact hl) hev hcu
   exact ⟨g1,by rw [opNd_some he,opNd_some hs];exact g2⟩
  ·refine cur_far (pure_set hm (λ hp hi=>?_)) (hne ix hx) hcu
   obtain ⟨g1,g2⟩:=hpure hp
   rcases g2 with g2|g2
   ·exact ⟨g2,by rw [<-g1];exact hi⟩
   ·exact absurd (by rw [<-hi,g1];exact g2) hx
 refine h.turn hm (λ ix s1 hs1 hev=>?_) (λ s1 hs1=>?_) (λ ix hix=>?_) (λ j x hj hx ix hix=>⟨?_,λ hm'=>?_⟩) heach (λ d hd=>(hdesc d hd).frame hh hc) hh hc
 ·by_cases hx:ix=ix0
  ·subst hx;rw [he] at hs1;injection hs1 with hs1;rw [<-hs1] at hev ⊢;exact hfree hev
  ·rw [hne ix hx] at hs1;exact h.free ix s1 hs1 hev
 ·rcases List.mem_or_eq_of_mem_set hs1 with h|rfl
  ·exact PInv.few ‹_› s1 h
  ·exact hfew
 ·rcases hheld ix hix with ⟨rfl,g⟩|⟨g1,g2⟩
  ·exact ⟨t,he,g⟩
  ·rw [hne ix g1];exact h.held m hmm ix g2
 ·exact hne ix (λ e=>hown j x hj hx (by rw [<-e];exact hix))
 ·rcases hheld ix hm' with ⟨rfl,_⟩|⟨g1,g2⟩
  ·exact hown j x hj hx hix
  ·exact h.apart j i x m hj hx hm ix hix g2
theorem PInv.own (h:PInv leaf inner A ps) (hm:ps[i]?=some m) {ix0:Int} (hi:ix0 ∈ m.holds):∀ j x,j≠i->ps[j]?=some x->ix0 ∉ x.holds:=λ j x hj hx hc=>h.apart j i x m hj hx hm ix0 hc hi
theorem PInv.nobody (h:PInv leaf inner A ps) {ix0:Int} {s:Sl} (hs:A.get ix0=some s) (he:s.word % 2=0):∀ x ∈ ps,ix0 ∉ x.holds:=λ x hx hc=>by
 obtain ⟨s',h1,h2⟩:=h.held x hx ix0 hc
 rw [hs] at h1;injection h1 with h1
 rw [h1] at he;omega
end
section
variable {A A':Ar} {ps:List Pm} {m m':Pm} {leaf inner:Int} {i:Nat}
theorem holds_one (h:(3<=m.nx/\m.nx<=7)\/(11<=m.nx/\m.nx<=13)):m.holds=[m.id]:=by
 unfold Pm.holds
 rw [if_neg (by omega),if_pos (by omega)]
theorem holds_two (h:8<=m.nx/\m.nx<=10):m.holds=[m.id,m.fresh]:=by
 unfold Pm.holds
 rw [if_pos (by omega)]
theorem holds_rt (h:16<=m.nx/\m.nx<=18):m.holds=[m.root]:=by
 unfold Pm.holds
 rw [if_neg (by omega),if_neg (by omega),if_pos h]
theorem holds_no (h:m.nx<=2\/m.nx=14\/m.nx=15\/19<=m.nx):m.holds=[]:=by
 unfold Pm.holds
 rw [if_neg (by omega),if_neg (by omega),if_neg (by omega)]
theorem not_pure (h:m.nx<=2\/m.nx=4\/12<=m.nx):¬m.pure:=by unfold Pm.pure;omega
theorem few_in {ix:Int} {s:Sl} (h:∀ s ∈ A.sl,Few 7 s.nd) (hs:A.get ix=some s):Few 7 s.nd:=by
 have:=few_slot h ix
 rwa [opNd_some hs] at this
theorem PInv.goes (h:PInv leaf inner A ps) (hm:ps[i]?=some m) (hx:m.nx≠0) (hx2:m.nx≠20) (_hno:m.holds=[]):PInv leaf inner A (ps.set i m.goes):=by
 have hmm:=List.mem_of_getElem? hm
 have he:=h.each m hmm
 refine h.still hm rfl (λ ix hix=>?_) (λ hp=>absurd hp (not_pure (.inl (by unfold Pm.goes;simp)))) ?_ (λ d hd=>?_)
 ·rw [holds_no (m:=m.goes) (.inl (by unfold Pm.goes;simp))] at hix;cases hix
 ·unfold PEach at *
  obtain ⟨h1,h2,h3,_⟩:=he
  obtain ⟨g1,g2,_⟩:=h3 hx hx2
  exact ⟨λ _ _=>h1 hx hx2,h2,λ _ _=>⟨g1,g2,_,rfl⟩,_,rfl,by unfold Mc.new;simp,rfl,rfl⟩
 ·unfold Pm.goes at hd
  injection hd with hd
  rw [<-hd]
  exact DOk.new
theorem PInv.lock (h:PInv leaf inner A ps) (hm:ps[i]?=some m) (hx:m.nx=2) (h1:leaf<=6) (h2:inner<=6):PInv leaf inner (lockP leaf inner A m).2.1 (ps.set i (lockP leaf inner A m).2.2):=by
 have hmm:=List.mem_of_getElem? hm
 have he:=h.each m hmm
 have hno:m.holds=[]:=holds_no (.inl (by omega))
 unfold PEach at he
 rw [hx] at he
 obtain ⟨q1,q2,q3,d,hd,hdn,hdt,hdl,e1,e2,e3⟩:=he
 obtain ⟨q4,q5,_⟩:=q3 (by decide) (by decide)
 have q1:=q1 (by decide) (by decide)
 have hok:=h.desc m hmm d hd
 obtain ⟨s,hs,hle,hev⟩:=hok.here (.inr (.inr (.inr ⟨hdn,hdt⟩)))
 have hlv:=hok.lvl hdt
 rw [<-e1] at hs
 rw [<-e2] at hle hev
 unfold lockP
 rw [opLock_some hs]
 by_cases hw:s.word=m.word
 ·rw [if_pos ⟨hw,hev⟩]
  have hold:m.old=s.nd:=by
   have:=hok.all (.inr ⟨hdn,hdt⟩) ⟨s,by rw [<-e1];exact hs,.inl (by rw [<-e2];exact hw)⟩
   rw [e3,this,<-e1,opNd_some hs]
  obtain ⟨hr,hf6⟩:=h.free m.id s hs (by rw [hw];exact hev)
  have hlvl:m.old.lvl=m.level:=by rw [e3,hlv,hdl]
  simp only [ne_eq,not_true_eq_false,if_false,Bool.true_eq_false]
  have key:∀ m':Pm,m'.id=m.id->m'.word=m.word->m'.old=m.old->m'.level=m.level->m'.D=m.D->m'.sep=m.sep->m'.key=m.key->m'.val=m.val->
    ((m'.nx=5)\/(m'.nx=3/\right m'.nw=true/\Few 6 m'.nw/\HdEq m'.nw m'.old)\/(m'.nx=6/\right m'.nw=true/\Few 7 m'.nw/\over m'.nw leaf inner=true))->PInv leaf inner (A.put m.id ⟨m.word+1,s.nd⟩) (ps.set i m'):=by
   intro m' g1 g2 g3 g4 g5 g6 g7 g8 g9
   have hb:PBase (A.put m.id ⟨m.word+1,s.nd⟩) m':=⟨⟨_,by rw [g1];exact put_get hs _,by rw [g2],by rw [g3];exact hold.symm⟩,by rw [g2];exact hev,by rw [g3,hold];exact hr,by rw [g3,hold];exact hf6,by rw [g3,g4];exact hlvl⟩
   refine h.put hm hs (λ j x hj hx'=>h.nobody hs (by rw [hw];exact hev) x (List.mem_of_getElem? hx')) (λ ho=>by simp only at ho;omega) (show Few 7 s.nd from few_in h.few hs) (λ ix hix=>?_) (.inl (by simp only;omega)) (λ _=>⟨g1,.inr rfl⟩) (λ w hl hwe hcu=>?_) ?_ (λ d' hd'=>h.desc m hmm d' (by rw [<-g5];exact hd'))
   ·rw [holds_one (m:=m') (by omega)] at hix
    simp only [List.mem_cons,List.not_mem_nil,or_false] at hix
    exact .inl ⟨by rw [hix,g1],by simp only;omega⟩
   ·obtain ⟨s',hs',hw'⟩:=hcu
    rw [put_get hs] at hs'
    injection hs' with hs'
    have hsw:s'.word=m.word+1:=by rw [<-hs']
    rcases hw' with hw'|⟨hw',_⟩
    ·omega
    ·exact ⟨⟨s,hs,.inl (by omega)⟩,rfl⟩
   ·unfold PEach
    refine ⟨λ _ _=>by rw [g6];exact q1,by rw [g4];exact q2,λ _ _=>⟨by rw [g7];exact q4,by rw [g8];exact q5,d,by rw [g5];exact hd⟩,?_⟩
    rcases g9 with g9|⟨g9,g10⟩|⟨g9,g10⟩
    ·rw [g9];exact hb
    ·rw [g9];exact ⟨hb,g10⟩
    ·rw [g9];exact ⟨hb,g10⟩
  have hro:right m.old=true:=by rw [hold];exact hr
  have hfo:Few 6 m.old:=by rw [hold];exact hf6
  by_cases hl:m.level=0
  ·rw [if_pos hl]
   have hnw:newP m=wth m.old m.key m.val:=by unfold newP;rw [if_pos hl]
   have hl0:m.old.lvl=0:=by rw [hlvl,hl]
   obtain ⟨r1,r2⟩:=right_with (key:=m.key) (val:=m.val) hro hl0
   have r3:=hfo.wth q4 q5
   have hd3:HdEq (wth m.old m.key m.val) m.old:=by unfold wth HdEq;split<;>exact ⟨rfl,rfl,rfl⟩
   cases hov:over (newP m) leaf inner with
   | true=>exact key _ rfl rfl rfl rfl rfl rfl rfl rfl (.inr (.inr ⟨rfl,by rw [hnw];exact r1,by rw [hnw];exact r3,hov⟩))
   | false=>
    have r4:=Few.fit (d:=6) r3 r1 (by rw [<-hnw];exact hov) (by omega) (by omega)
    exact key _ rfl rfl rfl rfl rfl rfl rfl rfl (.inr (.inl ⟨rfl,by rw [hnw];exact r1,by rw [hnw];exact r4,by rw [hnw];exact hd3⟩))
  ·rw [if_neg hl]
   split
   ·exact key _ rfl rfl rfl rfl rfl rfl rfl rfl (.inl rfl)
   ·have hnw:newP m=jnd m.old m.sep m.half:=by unfold newP;rw [if_neg hl]
    have hl0:m.old.lvl≠0:=by rw [hlvl];exact hl
    obtain ⟨r1,r2⟩:=right_jnd (key:=m.sep) (kid:=m.half) hro hl0
    have r3:=hfo.jnd (kid:=m.half) q1
    have hd3:HdEq (jnd m.old m.sep m.half) m.old:=by unfold jnd HdEq;split<;>exact ⟨rfl,rfl,rfl⟩
    cases hov:over (newP m) leaf inner with
    | true=>exact key _ rfl rfl rfl rfl rfl rfl rfl rfl (.inr (.inr ⟨rfl,by rw [hnw];exact r1,by rw [hnw];exact r3,hov⟩))
    | false=>
     have r4:=Few.fit (d:=6) r3 r1 (by rw [<-hnw];exact hov) (by omega) (by omega)
     exact key _ rfl rfl rfl rfl rfl rfl rfl rfl (.inr (.inl ⟨rfl,by rw [hnw];exact r1,by rw [hnw];exact r4,by rw [hnw];exact hd3⟩))
 ·rw [if_neg (λ hh=>hw hh.1)]
  simp only [ne_eq,not_true_eq_false,if_false,if_true]
  exact h.goes hm (by omega) (by omega) hno
theorem PInv.slot (h:PInv leaf inner A ps) (hm:ps[i]?=some m) {ix0:Int} (hi:ix0 ∈ m.holds):∃ s,A.get ix0=some s/\s.word % 2=1:=h.held m (List.mem_of_getElem? hm) ix0 hi
theorem PInv.sets {ix0:Int} {s:Sl} {n':Nd} (h:PInv leaf inner A ps) (hm:ps[i]?=some m) (hi:ix0 ∈ m.holds) (hs:A.get ix0=some s) (ho:s.word % 2=1) (hf:Few 7 n')
  (hsub:∀ ix ∈ m'.holds,ix ∈ m.holds) (hp:m'.pure->m.pure/\m'.id=m.id/\ix0≠m.id) (hD:m'.D=m.D) (heach:PEach leaf inner (A.put ix0 ⟨s.word,n'⟩) m'):PInv leaf inner (A.put ix0 ⟨s.word,n'⟩) (ps.set i m'):=by
 have hmm:=List.mem_of_getElem? hm
 have hown:=h.own hm hi
 refine h.put hm hs hown (λ he=>by simp only at he;omega) hf (λ ix hix=>?_) (.inl (Nat.le_refl _)) (λ hq=>⟨(hp hq).2.1,.inl (hp hq).1⟩) (λ w hl hwe hcu=>?_) heach (λ d hd=>h.desc m hmm d (by rw [<-hD];exact hd))
 ·by_cases hx:ix=ix0
  ·exact .inl ⟨hx,ho⟩
  ·exact .inr ⟨hx,hsub ix hix⟩
 ·exfalso
  obtain ⟨s',hs',hw'⟩:=hcu
  rw [put_get hs] at hs'
  injection hs' with hs'
  have hsw:s'.word=s.word:=by rw [<-hs']
  rcases hw' with hw'|⟨hw',x,hx,hxp,hxi⟩
  ·omega
  ·rcases set_mem hm hx with rfl|⟨h1,j,h2,h3⟩
   ·obtain ⟨g1,g2,g3⟩:=hp hxp
    exact g3 (by rw [<-hxi,g2])
   ·exact hown j x h2 h3 (by rw [<-hxi];exact pure_holds hxp)
theorem PInv.frees {ix0:Int} {s:Sl} (h:PInv leaf inner A ps) (hm:ps[i]?=some m) (hi:ix0 ∈ m.holds) (hs:A.get ix0=some s) (ho:s.word % 2=1) (hr:right s.nd=true) (hf:Few 6 s.nd)
  (hsub:∀ ix ∈ m'.holds,ix≠ix0/\ix ∈ m.holds) (hp:m'.pure->m'.id=m.id/\m.pure) (heach:PEach leaf inner (A.put ix0 ⟨s.word+1,s.nd⟩) m') (hdesc:∀ d,m'.D=some d->DOk A ps d):PInv leaf inner (A.put ix0 ⟨s.word+1,s.nd⟩) (ps.set i m'):=by
 refine h.put hm hs (h.own hm hi) (λ _=>⟨hr,hf⟩) (hf.mono (by decide)) (λ ix hix=>.inr (hsub ix hix)) (.inl (by simp only;omega)) (λ hq=>⟨(hp hq).1,.inl (hp hq).2⟩) (λ w hl hwe hcu=>?_) heach hdesc
 exfalso
 obtain ⟨s',hs',hw'⟩:=hcu
 rw [put_get hs] at hs'
 injection hs' with hs'
 have hsw:s'.word=s.word+1:=by rw [<-hs']
 rcases hw' with hw'|⟨hw',_⟩<;>omega
theorem PInv.back_ {s:Sl} (h:PInv leaf inner A ps) (hm:ps[i]?=some m) (hx:m.nx=5\/m.nx=7) (hs:A.get m.id=some s) (hb:PBase A m)
  (hno:m'.holds=[]) (hnp:¬m'.pure) (hD:m'.D=m.D) (heach:PEach leaf inner (A.put m.id ⟨s.word-1,s.nd⟩) m'):PInv leaf inner (A.put m.id ⟨s.word-1,s.nd⟩) (ps.set i m'):=by
 have hmm:=List.mem_of_getElem? hm
 obtain ⟨⟨s1,h1,h2,h3⟩,h4,h5,h6,h7⟩:=hb
 rw [hs] at h1;injection h1 with h1
 subst h1
 have hi:m.id ∈ m.holds:=holds_id (by omega) (by omega)
 refine h.put hm hs (h.own hm hi) (λ _=>by rw [h3];exact ⟨h5,h6⟩) (by rw [h3];exact h6.mono (by decide)) (λ ix hix=>by rw [hno] at hix;cases hix) (.inr (by simp only;omega)) (λ hq=>absurd hq hnp) (λ w hl hwe hcu=>?_) heach (λ d hd=>h.desc m hmm d (by rw [<-hD];exact hd))
 obtain ⟨s',hs',hw'⟩:=hcu
 rw [put_get hs] at hs'
 injection hs' with hs'
 have hsw:s'.word=s.word-1:=by rw [<-hs']
 refine ⟨⟨s,hs,.inr ⟨by rcases hw' with hw'|⟨hw',_⟩<;>omega,m,hmm,by unfold Pm.pure;omega,rfl⟩⟩,rfl⟩
theorem hd_body {x y:Nd} (h:HdEq y x):withHd x y=x:=by
 obtain ⟨h1,h2,h3⟩:=h
 unfold withHd
 rw [h1,h2,h3]
theorem hd_head (x y:Nd):HdEq (withHd y x) x:=⟨rfl,rfl,rfl⟩
theorem HdEq.symm {x y:Nd} (h:HdEq x y):HdEq y x:=⟨h.1.symm,h.2.1.symm,h.2.2.symm⟩
end
end Go.Proofs.YtjcgphhpaenjkaaGreat

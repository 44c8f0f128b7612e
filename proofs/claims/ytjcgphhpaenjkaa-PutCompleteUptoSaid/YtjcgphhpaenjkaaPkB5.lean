import Derived.Test.YtjcgphhpaenjkaaPkB4
set_option linter.unusedVariables false
namespace Go.Proofs.Ytjcgphhpaenjkaa
open Go.RowKit
section
variable {A A':Ar} {ps:List Pm} {m m':Pm} {leaf inner:Int} {i:Nat}
theorem holds_one (h:(3<=m.nx/\m.nx<=7)\/(11<=m.nx/\m.nx<=13)):m.holds=[m.id]:=by
 unfold Pm.holds
 rw [if_neg (by omega),if_pos (by omega)]
theorem holds_two (h:8<=m.nx/\m.nx<=10):m.holds=[m.id,m.fresh]:=by
 unfold Pm.holds
 rw [if_pos (by omega)]
theorem holds_rt (h:16<=m.nx/\m.nx<=18):m.holds=[m.root]:=by
 unfold Pm.holds
 rw [if_neg (by omega),if_neg (by omega),if_pos h]
theorem holds_no (h:m.nx<=2\/m.nx=14\/m.nx=15\/19<=m.nx):m.holds=[]:=by
 unfold Pm.holds
 rw [if_neg (by omega),if_neg (by omega),if_neg (by omega)]
theorem not_pure (h:m.nx<=2\/m.nx=4\/12<=m.nx):¬m.pure:=by unfold Pm.pure;omega
theorem few_in {ix:Int} {s:Sl} (h:∀ s ∈ A.sl,Few 7 s.nd) (hs:A.get ix=some s):Few 7 s.nd:=by
 have:=few_slot h ix
 rwa [opNd_some hs] at this
theorem PInv.goes (h:PInv leaf inner A ps) (hm:ps[i]?=some m) (hx:m.nx≠0) (hx2:m.nx≠20) (_hno:m.holds=[]):PInv leaf inner A (ps.set i m.goes):=by
 have hmm:=List.mem_of_getElem? hm
 have he:=h.each m hmm
 refine h.still hm rfl (λ ix hix=>?_) (λ hp=>absurd hp (not_pure (.inl (by unfold Pm.goes;simp)))) ?_ (λ d hd=>?_)
 ·rw [holds_no (m:=m.goes) (.inl (by unfold Pm.goes;simp))] at hix;cases hix
 ·unfold PEach at *
  obtain ⟨h1,h2,h3,_⟩:=he
  obtain ⟨g1,g2,_⟩:=h3 hx hx2
  exact ⟨λ _ _=>h1 hx hx2,h2,λ _ _=>⟨g1,g2,_,rfl⟩,_,rfl,by unfold Mc.new;simp,rfl,rfl⟩
 ·unfold Pm.goes at hd
  injection hd with hd
  rw [<-hd]
  exact DOk.new
theorem PInv.lock (h:PInv leaf inner A ps) (hm:ps[i]?=some m) (hx:m.nx=2) (h1:leaf<=6) (h2:inner<=6):PInv leaf inner (lockP leaf inner A m).2.1 (ps.set i (lockP leaf inner A m).2.2):=by
 have hmm:=List.mem_of_getElem? hm
 have he:=h.each m hmm
 have hno:m.holds=[]:=holds_no (.inl (by omega))
 unfold PEach at he
 rw [hx] at he
 obtain ⟨q1,q2,q3,d,hd,hdn,hdt,hdl,e1,e2,e3⟩:=he
 obtain ⟨q4,q5,_⟩:=q3 (by decide) (by decide)
 have q1:=q1 (by decide) (by decide)
 have hok:=h.desc m hmm d hd
 obtain ⟨s,hs,hle,hev⟩:=hok.here (.inr (.inr (.inr ⟨hdn,hdt⟩)))
 have hlv:=hok.lvl hdt
 rw [<-e1] at hs
 rw [<-e2] at hle hev
 unfold lockP
 rw [opLock_some hs]
 by_cases hw:s.word=m.word
 ·rw [if_pos ⟨hw,hev⟩]
  have hold:m.old=s.nd:=by
   have:=hok.all (.inr ⟨hdn,hdt⟩) ⟨s,by rw [<-e1];exact hs,.inl (by rw [<-e2];exact hw)⟩
   rw [e3,this,<-e1,opNd_some hs]
  obtain ⟨hr,hf6⟩:=h.free m.id s hs (by rw [hw];exact hev)
  have hlvl:m.old.lvl=m.level:=by rw [e3,hlv,hdl]
  simp only [ne_eq,not_true_eq_false,if_false,Bool.true_eq_false]
  have key:∀ m':Pm,m'.id=m.id->m'.word=m.word->m'.old=m.old->m'.level=m.level->m'.D=m.D->m'.sep=m.sep->m'.key=m.key->m'.val=m.val->
    ((m'.nx=5)\/(m'.nx=3/\right m'.nw=true/\Few 6 m'.nw/\HdEq m'.nw m'.old)\/(m'.nx=6/\right m'.nw=true/\Few 7 m'.nw/\over m'.nw leaf inner=true))->PInv leaf inner (A.put m.id ⟨m.word+1,s.nd⟩) (ps.set i m'):=by
   intro m' g1 g2 g3 g4 g5 g6 g7 g8 g9
   have hb:PBase (A.put m.id ⟨m.word+1,s.nd⟩) m':=⟨⟨_,by rw [g1];exact put_get hs _,by rw [g2],by rw [g3];exact hold.symm⟩,by rw [g2];exact hev,by rw [g3,hold];exact hr,by rw [g3,hold];exact hf6,by rw [g3,g4];exact hlvl⟩
   refine h.put hm hs (λ j x hj hx'=>h.nobody hs (by rw [hw];exact hev) x (List.mem_of_getElem? hx')) (λ ho=>by simp only at ho;omega) (show Few 7 s.nd from few_in h.few hs) (λ ix hix=>?_) (.inl (by simp only;omega)) (λ _=>⟨g1,.inr rfl⟩) (λ w hl hwe hcu=>?_) ?_ (λ d' hd'=>h.desc m hmm d' (by rw [<-g5];exact hd'))
   ·rw [holds_one (m:=m') (by omega)] at hix
    simp only [List.mem_cons,List.not_mem_nil,or_false] at hix
    exact .inl ⟨by rw [hix,g1],by simp only;omega⟩
   ·obtain ⟨s',hs',hw'⟩:=hcu
    rw [put_get hs] at hs'
    injection hs' with hs'
    have hsw:s'.word=m.word+1:=by rw [<-hs']
    rcases hw' with hw'|⟨hw',_⟩
    ·omega
    ·exact ⟨⟨s,hs,.inl (by omega)⟩,rfl⟩
   ·unfold PEach
    refine ⟨λ _ _=>by rw [g6];exact q1,by rw [g4];exact q2,λ _ _=>⟨by rw [g7];exact q4,by rw [g8];exact q5,d,by rw [g5];exact hd⟩,?_⟩
    rcases g9 with g9|⟨g9,g10⟩|⟨g9,g10⟩
    ·rw [g9];exact hb
    ·rw [g9];exact ⟨hb,g10⟩
    ·rw [g9];exact ⟨hb,g10⟩
  have hro:right m.old=true:=by rw [hold];exact hr
  have hfo:Few 6 m.old:=by rw [hold];exact hf6
  by_cases hl:m.level=0
  ·rw [if_pos hl]
   have hnw:newP m=wth m.old m.key m.val:=by unfold newP;rw [if_pos hl]
   have hl0:m.old.lvl=0:=by rw [hlvl,hl]
   obtain ⟨r1,r2⟩:=right_with (key:=m.key) (val:=m.val) hro hl0
   have r3:=hfo.wth q4 q5
   have hd3:HdEq (wth m.old m.key m.val) m.old:=by unfold wth HdEq;split<;>exact ⟨rfl,rfl,rfl⟩
   cases hov:over (newP m) leaf inner with
   | true=>exact key _ rfl rfl rfl rfl rfl rfl rfl rfl (.inr (.inr ⟨rfl,by rw [hnw];exact r1,by rw [hnw];exact r3,hov⟩))
   | false=>
    have r4:=Few.fit (d:=6) r3 r1 (by rw [<-hnw];exact hov) (by omega) (by omega)
    exact key _ rfl rfl rfl rfl rfl rfl rfl rfl (.inr (.inl ⟨rfl,by rw [hnw];exact r1,by rw [hnw];exact r4,by rw [hnw];exact hd3⟩))
  ·rw [if_neg hl]
   split
   ·exact key _ rfl rfl rfl rfl rfl rfl rfl rfl (.inl rfl)
   ·have hnw:newP m=jnd m.old m.sep m.half:=by unfold newP;rw [if_neg hl]
    have hl0:m.old.lvl≠0:=by rw [hlvl];exact hl
    obtain ⟨r1,r2⟩:=right_jnd (key:=m.sep) (kid:=m.half) hro hl0
    have r3:=hfo.jnd (kid:=m.half) q1
    have hd3:HdEq (jnd m.old m.sep m.half) m.old:=by unfold jnd HdEq;split<;>exact ⟨rfl,rfl,rfl⟩
    cases hov:over (newP m) leaf inner with
    | true=>exact key _ rfl rfl rfl rfl rfl rfl rfl rfl (.inr (.inr ⟨rfl,by rw [hnw];exact r1,by rw [hnw];exact r3,hov⟩))
    | false=>
     have r4:=Few.fit (d:=6) r3 r1 (by rw [<-hnw];exact hov) (by omega) (by omega)
     exact key _ rfl rfl rfl rfl rfl rfl rfl rfl (.inr (.inl ⟨rfl,by rw [hnw];exact r1,by rw [hnw];exact r4,by rw [hnw];exact hd3⟩))
 ·rw [if_neg (λ hh=>hw hh.1)]
  simp only [ne_eq,not_true_eq_false,if_false,if_true]
  exact h.goes hm (by omega) (by omega) hno
theorem PInv.slot (h:PInv leaf inner A ps) (hm:ps[i]?=some m) {ix0:Int} (hi:ix0 ∈ m.holds):∃ s,A.get ix0=some s/\s.word % 2=1:=h.held m (List.mem_of_getElem? hm) ix0 hi
theorem PInv.sets {ix0:Int} {s:Sl} {n':Nd} (h:PInv leaf inner A ps) (hm:ps[i]?=some m) (hi:ix0 ∈ m.holds) (hs:A.get ix0=some s) (ho:s.word % 2=1) (hf:Few 7 n')
  (hsub:∀ ix ∈ m'.holds,ix ∈ m.holds) (hp:m'.pure->m.pure/\m'.id=m.id/\ix0≠m.id) (hD:m'.D=m.D) (heach:PEach leaf inner (A.put ix0 ⟨s.word,n'⟩) m'):PInv leaf inner (A.put ix0 ⟨s.word,n'⟩) (ps.set i m'):=by
 have hmm:=List.mem_of_getElem? hm
 have hown:=h.own hm hi
 refine h.put hm hs hown (λ he=>by simp only at he;omega) hf (λ ix hix=>?_) (.inl (Nat.le_refl _)) (λ hq=>⟨(hp hq).2.1,.inl (hp hq).1⟩) (λ w hl hwe hcu=>?_) heach (λ d hd=>h.desc m hmm d (by rw [<-hD];exact hd))
 ·by_cases hx:ix=ix0
  ·exact .inl ⟨hx,ho⟩
  ·exact .inr ⟨hx,hsub ix hix⟩
 ·exfalso
  obtain ⟨s',hs',hw'⟩:=hcu
  rw [put_get hs] at hs'
  injection hs' with hs'
  have hsw:s'.word=s.word:=by rw [<-hs']
  rcases hw' with hw'|⟨hw',x,hx,hxp,hxi⟩
  ·omega
  ·rcases set_mem hm hx with rfl|⟨h1,j,h2,h3⟩
   ·obtain ⟨g1,g2,g3⟩:=hp hxp
    exact g3 (by rw [<-hxi,g2])
   ·exact hown j x h2 h3 (by rw [<-hxi];exact pure_holds hxp)
theorem PInv.frees {ix0:Int} {s:Sl} (h:PInv leaf inner A ps) (hm:ps[i]?=some m) (hi:ix0 ∈ m.holds) (hs:A.get ix0=some s) (ho:s.word % 2=1) (hr:right s.nd=true) (hf:Few 6 s.nd)
  (hsub:∀ ix ∈ m'.holds,ix≠ix0/\ix ∈ m.holds) (hp:m'.pure->m'.id=m.id/\m.pure) (heach:PEach leaf inner (A.put ix0 ⟨s.word+1,s.nd⟩) m') (hdesc:∀ d,m'.D=some d->DOk A ps d):PInv leaf inner (A.put ix0 ⟨s.word+1,s.nd⟩) (ps.set i m'):=by
 refine h.put hm hs (h.own hm hi) (λ _=>⟨hr,hf⟩) (hf.mono (by decide)) (λ ix hix=>.inr (hsub ix hix)) (.inl (by simp only;omega)) (λ hq=>⟨(hp hq).1,.inl (hp hq).2⟩) (λ w hl hwe hcu=>?_) heach hdesc
 exfalso
 obtain ⟨s',hs',hw'⟩:=hcu
 rw [put_get hs] at hs'
 injection hs' with hs'
 have hsw:s'.word=s.word+1:=by rw [<-hs']
 rcases hw' with hw'|⟨hw',_⟩<;>omega
theorem PInv.back_ {s:Sl} (h:PInv leaf inner A ps) (hm:ps[i]?=some m) (hx:m.nx=5\/m.nx=7) (hs:A.get m.id=some s) (hb:PBase A m)
  (hno:m'.holds=[]) (hnp:¬m'.pure) (hD:m'.D=m.D) (heach:PEach leaf inner (A.put m.id ⟨s.word-1,s.nd⟩) m'):PInv leaf inner (A.put m.id ⟨s.word-1,s.nd⟩) (ps.set i m'):=by
 have hmm:=List.mem_of_getElem? hm
 obtain ⟨⟨s1,h1,h2,h3⟩,h4,h5,h6,h7⟩:=hb
 rw [hs] at h1;injection h1 with h1
 subst h1
 have hi:m.id ∈ m.holds:=holds_id (by omega) (by omega)
 refine h.put hm hs (h.own hm hi) (λ _=>by rw [h3];exact ⟨h5,h6⟩) (by rw [h3];exact h6.mono (by decide)) (λ ix hix=>by rw [hno] at hix;cases hix) (.inr (by simp only;omega)) (λ hq=>absurd hq hnp) (λ w hl hwe hcu=>?_) heach (λ d hd=>h.desc m hmm d (by rw [<-hD];exact hd))
 obtain ⟨s',hs',hw'⟩:=hcu
 rw [put_get hs] at hs'
 injection hs' with hs'
 have hsw:s'.word=s.word-1:=by rw [<-hs']
 refine ⟨⟨s,hs,.inr ⟨by rcases hw' with hw'|⟨hw',_⟩<;>omega,m,hmm,by unfold Pm.pure;omega,rfl⟩⟩,rfl⟩
theorem hd_body {x y:Nd} (h:HdEq y x):withHd x y=x:=by
 obtain ⟨h1,h2,h3⟩:=h
 unfold withHd
 rw [h1,h2,h3]
theorem hd_head (x y:Nd):HdEq (withHd y x) x:=⟨rfl,rfl,rfl⟩
theorem HdEq.symm {x y:Nd} (h:HdEq x y):HdEq y x:=⟨h.1.symm,h.2.1.symm,h.2.2.symm⟩
end
section
variable {A A':Ar} {ps:List Pm} {m m':Pm} {leaf inner:Int} {i:Nat}
abbrev Kept (leaf inner:Int) (A:Ar) (ps:List Pm) (i:Nat) (m:Pm):Prop:=PInv leaf inner (stepP leaf inner A m).2.1 (ps.set i (stepP leaf inner A m).2.2)
theorem each_pre (h:PEach leaf inner A m) (hx:m.nx≠0) (hx2:m.nx≠20):m.sep.length<=64/\0<=m.level/\(m.key.length<=64/\m.val.length<=256/\∃ d,m.D=some d):=by
 unfold PEach at h
 exact ⟨h.1 hx hx2,h.2.1,h.2.2.1 hx hx2⟩
theorem subs_one {ix:Int} (h:ix ∈ m'.holds) (h1:(3<=m'.nx/\m'.nx<=7)\/(11<=m'.nx/\m'.nx<=13)) (h2:m'.id=m.id) (h3:m.id ∈ m.holds):ix ∈ m.holds:=by
 rw [holds_one h1] at h
 simp only [List.mem_cons,List.not_mem_nil,or_false] at h
 rw [h,h2];exact h3
theorem subs_two {ix:Int} (h:ix ∈ m'.holds) (h1:8<=m'.nx/\m'.nx<=10) (h2:m'.id=m.id) (h4:m'.fresh=m.fresh) (h3:m.id ∈ m.holds) (h5:m.fresh ∈ m.holds):ix ∈ m.holds:=by
 rw [holds_two h1] at h
 simp only [List.mem_cons,List.not_mem_nil,or_false] at h
 rcases h with h|h
 ·rw [h,h2];exact h3
 ·rw [h,h4];exact h5
theorem subs_rt {ix:Int} (h:ix ∈ m'.holds) (h1:16<=m'.nx/\m'.nx<=18) (h2:m'.root=m.root) (h3:m.root ∈ m.holds):ix ∈ m.holds:=by
 rw [holds_rt h1] at h
 simp only [List.mem_cons,List.not_mem_nil,or_false] at h
 rw [h,h2];exact h3
theorem PInv.step3 (h:PInv leaf inner A ps) (hm:ps[i]?=some m) (hx:m.nx=3):Kept leaf inner A ps i m:=by
 have hmm:=List.mem_of_getElem? hm
 have he:=h.each m hmm
 obtain ⟨q1,q2,q3⟩:=each_pre he (by omega) (by omega)
 unfold PEach at he
 rw [hx] at he
 obtain ⟨_,_,_,hb,hr,hf,hh⟩:=he
 obtain ⟨⟨s,hs,hw,hn⟩,hev,_⟩:=hb
 have ho:s.word % 2=1:=by omega
 have e:stepP leaf inner A m=no (A.put m.id ⟨s.word,withHd m.nw s.nd⟩) {m with nx:=4}:=by
  unfold stepP;rw [hx];simp only [setBody_held hs ho,onP,if_true]
 have en:withHd m.nw s.nd=m.nw:=by rw [hn];exact hd_body hh.symm
 unfold Kept
 rw [e,en]
 refine h.sets hm (holds_id (by omega) (by omega)) hs ho (hf.mono (by decide)) (λ ix hix=>?_) (λ hp=>absurd hp (not_pure (.inr (.inl rfl)))) rfl ?_
 ·exact subs_one (m':={m with nx:=4}) hix (.inl ⟨(by show 3<=4;decide),(by show 4<=7;decide)⟩) rfl (holds_id (by omega) (by omega))
 ·unfold PEach
  exact ⟨λ _ _=>q1,q2,λ _ _=>q3,opNd_some (put_get hs _),hr,hf⟩
theorem PInv.step8 (h:PInv leaf inner A ps) (hm:ps[i]?=some m) (hx:m.nx=8):Kept leaf inner A ps i m:=by
 have hmm:=List.mem_of_getElem? hm
 have he:=h.each m hmm
 obtain ⟨q1,q2,q3⟩:=each_pre he (by omega) (by omega)
 unfold PEach at he
 rw [hx] at he
 obtain ⟨_,_,_,hb,hh⟩:=he
 obtain ⟨s,hs,ho⟩:=h.slot hm (holds_fresh (m:=m) (by omega) (by omega))
 have e:stepP leaf inner A m=no (A.put m.fresh ⟨s.word,withHd s.nd m.right⟩) {m with nx:=9}:=by
  unfold stepP;rw [hx];simp only [setHead_held hs ho,onP,if_true]
 unfold Kept
 rw [e]
 refine h.sets hm (holds_fresh (by omega) (by omega)) hs ho (few_hd (few_in h.few hs) (hh.2.1.2.mono (by decide))) (λ ix hix=>?_) (λ _=>⟨by unfold Pm.pure;omega,rfl,hh.2.2.2⟩) rfl ?_
 ·exact subs_two (m':={m with nx:=9}) hix ⟨(by show 8<=9;decide),(by show 9<=10;decide)⟩ rfl rfl (holds_id (by omega) (by omega)) (holds_fresh (by omega) (by omega))
 ·unfold PEach
  exact ⟨λ _ _=>q1,q2,λ _ _=>q3,hb.frame (get_put_ne (get_pos hs) (λ e=>hh.2.2.2 e.symm)),hh,by
   show HdEq (opNd _ m.fresh) m.right
   rw [opNd_some (put_get hs _)];exact hd_head _ _⟩
theorem PInv.step9 (h:PInv leaf inner A ps) (hm:ps[i]?=some m) (hx:m.nx=9):Kept leaf inner A ps i m:=by
 have hmm:=List.mem_of_getElem? hm
 have he:=h.each m hmm
 obtain ⟨q1,q2,q3⟩:=each_pre he (by omega) (by omega)
 unfold PEach at he
 rw [hx] at he
 obtain ⟨_,_,_,hb,hh,hd⟩:=he
 obtain ⟨s,hs,ho⟩:=h.slot hm (holds_fresh (m:=m) (by omega) (by omega))
 rw [opNd_some hs] at hd
 have e:stepP leaf inner A m=no (A.put m.fresh ⟨s.word,withHd m.right s.nd⟩) {m with nx:=10}:=by
  unfold stepP;rw [hx];simp only [setBody_held hs ho,onP,if_true]
 have en:withHd m.right s.nd=m.right:=hd_body hd
 unfold Kept
 rw [e,en]
 refine h.sets hm (holds_fresh (by omega) (by omega)) hs ho (hh.2.1.2.mono (by decide)) (λ ix hix=>?_) (λ _=>⟨by unfold Pm.pure;omega,rfl,hh.2.2.2⟩) rfl ?_
 ·exact subs_two (m':={m with nx:=10}) hix ⟨(by show 8<=10;decide),(by show 10<=10;decide)⟩ rfl rfl (holds_id (by omega) (by omega)) (holds_fresh (by omega) (by omega))
 ·unfold PEach
  exact ⟨λ _ _=>q1,q2,λ _ _=>q3,hb.frame (get_put_ne (get_pos hs) (λ e=>hh.2.2.2 e.symm)),hh,opNd_some (put_get hs _)⟩
theorem PInv.step11 (h:PInv leaf inner A ps) (hm:ps[i]?=some m) (hx:m.nx=11):Kept leaf inner A ps i m:=by
 have hmm:=List.mem_of_getElem? hm
 have he:=h.each m hmm
 obtain ⟨q1,q2,q3⟩:=each_pre he (by omega) (by omega)
 unfold PEach at he
 rw [hx] at he
 obtain ⟨_,_,_,hb,hh⟩:=he
 obtain ⟨s,hs,ho⟩:=h.slot hm (holds_id (m:=m) (by omega) (by omega))
 have e:stepP leaf inner A m=no (A.put m.id ⟨s.word,withHd s.nd m.left⟩) {m with nx:=12}:=by
  unfold stepP;rw [hx];simp only [setHead_held hs ho,onP,if_true]
 unfold Kept
 rw [e]
 refine h.sets hm (holds_id (by omega) (by omega)) hs ho (few_hd (few_in h.few hs) (hh.1.2.mono (by decide))) (λ ix hix=>?_) (λ hp=>absurd hp (not_pure (.inr (.inr (by show 12<=12;decide))))) rfl ?_
 ·exact subs_one (m':={m with nx:=12}) hix (.inr ⟨(by show 11<=12;decide),(by show 12<=13;decide)⟩) rfl (holds_id (by omega) (by omega))
 ·unfold PEach
  exact ⟨λ _ _=>q1,q2,λ _ _=>q3,hh,by
   show HdEq (opNd _ m.id) m.left
   rw [opNd_some (put_get hs _)];exact hd_head _ _⟩
theorem PInv.step12 (h:PInv leaf inner A ps) (hm:ps[i]?=some m) (hx:m.nx=12):Kept leaf inner A ps i m:=by
 have hmm:=List.mem_of_getElem? hm
 have he:=h.each m hmm
 obtain ⟨q1,q2,q3⟩:=each_pre he (by omega) (by omega)
 unfold PEach at he
 rw [hx] at he
 obtain ⟨_,_,_,hh,hd⟩:=he
 obtain ⟨s,hs,ho⟩:=h.slot hm (holds_id (m:=m) (by omega) (by omega))
 rw [opNd_some hs] at hd
 have e:stepP leaf inner A m=no (A.put m.id ⟨s.word,withHd m.left s.nd⟩) {m with nx:=13}:=by
  unfold stepP;rw [hx];simp only [setBody_held hs ho,onP,if_true]
 have en:withHd m.left s.nd=m.left:=hd_body hd
 unfold Kept
 rw [e,en]
 refine h.sets hm (holds_id (by omega) (by omega)) hs ho (hh.1.2.mono (by decide)) (λ ix hix=>?_) (λ hp=>absurd hp (not_pure (.inr (.inr (by show 12<=13;decide))))) rfl ?_
 ·exact subs_one (m':={m with nx:=13}) hix (.inr ⟨(by show 11<=13;decide),(by show 13<=13;decide)⟩) rfl (holds_id (by omega) (by omega))
 ·unfold PEach
  exact ⟨λ _ _=>q1,q2,λ _ _=>q3,hh,opNd_some (put_get hs _)⟩
theorem PInv.step16 (h:PInv leaf inner A ps) (hm:ps[i]?=some m) (hx:m.nx=16):Kept leaf inner A ps i m:=by
 have hmm:=List.mem_of_getElem? hm
 have he:=h.each m hmm
 obtain ⟨q1,q2,q3⟩:=each_pre he (by omega) (by omega)
 unfold PEach at he
 rw [hx] at he
 obtain ⟨_,_,_,hl⟩:=he
 obtain ⟨s,hs,ho⟩:=h.slot hm (holds_root (m:=m) (by omega) (by omega))
 have e:stepP leaf inner A m=no (A.put m.root ⟨s.word,withHd s.nd (rootNd m)⟩) {m with nx:=17}:=by
  unfold stepP;rw [hx];simp only [setHead_held hs ho,onP,if_true]
 unfold Kept
 rw [e]
 refine h.sets hm (holds_root (by omega) (by omega)) hs ho (few_hd (few_in h.few hs) ((few_root q1).mono (by decide))) (λ ix hix=>?_) (λ hp=>absurd hp (not_pure (.inr (.inr (by show 12<=17;decide))))) rfl ?_
 ·exact subs_rt (m':={m with nx:=17}) hix ⟨(by show 16<=17;decide),(by show 17<=18;decide)⟩ rfl (holds_root (by omega) (by omega))
 ·unfold PEach
  exact ⟨λ _ _=>q1,q2,λ _ _=>q3,hl,by
   show HdEq (opNd _ m.root) (rootNd m)
   rw [opNd_some (put_get hs _)];exact hd_head _ _⟩
theorem PInv.step17 (h:PInv leaf inner A ps) (hm:ps[i]?=some m) (hx:m.nx=17):Kept leaf inner A ps i m:=by
 have hmm:=List.mem_of_getElem? hm
 have he:=h.each m hmm
 obtain ⟨q1,q2,q3⟩:=each_pre he (by omega) (by omega)
 unfold PEach at he
 rw [hx] at he
 obtain ⟨_,_,_,hl,hd⟩:=he
 obtain ⟨s,hs,ho⟩:=h.slot hm (holds_root (m:=m) (by omega) (by omega))
 rw [opNd_some hs] at hd
 have e:stepP leaf inner A m=no (A.put m.root ⟨s.word,withHd (rootNd m) s.nd⟩) {m with nx:=18}:=by
  unfold stepP;rw [hx];simp only [setBody_held hs ho,onP,if_true]
 have en:withHd (rootNd m) s.nd=rootNd m:=hd_body hd
 unfold Kept
 rw [e,en]
 refine h.sets hm (holds_root (by omega) (by omega)) hs ho ((few_root q1).mono (by decide)) (λ ix hix=>?_) (λ hp=>absurd hp (not_pure (.inr (.inr (by show 12<=18;decide))))) rfl ?_
 ·exact subs_rt (m':={m with nx:=18}) hix ⟨(by show 16<=18;decide),(by show 18<=18;decide)⟩ rfl (holds_root (by omega) (by omega))
 ·unfold PEach
  exact ⟨λ _ _=>q1,q2,λ _ _=>q3,hl,opNd_some (put_get hs _)⟩
theorem back_true {x:Nat} (h:x+2 < 18446744073709551616):back x true=x+1:=by unfold back;rw [if_pos rfl];omega
theorem word_inP {ix:Int} {s:Sl} (h:∀ s ∈ A.sl,s.word+2 < 18446744073709551616) (hs:A.get ix=some s):s.word+2 < 18446744073709551616:=by
 obtain ⟨_,_,hi,_⟩:=get_some hs
 exact h s (List.mem_of_getElem? hi)
theorem ends_each (q2:0<=m.level) (e:Int):PEach leaf inner A (m.ends e):=by
 unfold PEach
 exact ⟨λ _ h20=>absurd rfl h20,q2,λ _ h20=>absurd rfl h20,trivial⟩
theorem ends_no (m:Pm) (e:Int):(m.ends e).holds=[]:=holds_no (.inr (.inr (.inr (by show 19<=20;decide))))
theorem ends_pure (m:Pm) (e:Int):¬(m.ends e).pure:=not_pure (.inr (.inr (by show 12<=20;decide)))
theorem PInv.step4 (h:PInv leaf inner A ps) (hm:ps[i]?=some m) (hx:m.nx=4) (hb:∀ s ∈ A.sl,s.word+2 < 18446744073709551616):Kept leaf inner A ps i m:=by
 have hmm:=List.mem_of_getElem? hm
 have he:=h.each m hmm
 obtain ⟨q1,q2,q3⟩:=each_pre he (by omega) (by omega)
 unfold PEach at he
 rw [hx] at he
 obtain ⟨_,_,_,hn,hr,hf⟩:=he
 obtain ⟨s,hs,ho⟩:=h.slot hm (holds_id (m:=m) (by omega) (by omega))
 rw [opNd_some hs] at hn
 have e:stepP leaf inner A m=((true,decide (m.level=0)),A.put m.id ⟨s.word+1,s.nd⟩,m.ends 0):=by
  unfold stepP;rw [hx];simp only [givesP];rw [hx]
  simp only [decide_true,unlock_held hs ho,ne_eq,not_true_eq_false,if_false]
  rw [if_neg (by omega),back_true (word_inP hb hs)]
 unfold Kept
 rw [e]
 exact h.frees hm (holds_id (by omega) (by omega)) hs ho (by rw [hn];exact hr) (by rw [hn];exact hf) (λ ix hix=>by rw [ends_no] at hix;cases hix) (λ hp=>absurd hp (ends_pure m 0)) (ends_each q2 0) (λ d hd=>h.desc m hmm d hd)
theorem PInv.step57 (h:PInv leaf inner A ps) (hm:ps[i]?=some m) (hx:m.nx=5\/m.nx=7):Kept leaf inner A ps i m:=by
 have hmm:=List.mem_of_getElem? hm
 have he:=h.each m hmm
 obtain ⟨q1,q2,q3⟩:=each_pre he (by omega) (by omega)
 have hb:PBase A m:=by
  unfold PEach at he
  rcases hx with hx|hx<;>rw [hx] at he<;>exact he.2.2.2
 obtain ⟨s,hs,ho⟩:=h.slot hm (holds_id (m:=m) (by omega) (by omega))
 obtain ⟨b,e0,e⟩:∃ b e0,stepP leaf inner A m=(b,A.put m.id ⟨s.word-1,s.nd⟩,m.ends e0):=by
  have hg:stepP leaf inner A m=givesP A m:=by unfold stepP;rcases hx with hx|hx<;>rw [hx]<;>rfl
  rw [hg]
  unfold givesP
  have h4:decide (m.nx=4)=false:=decide_eq_false (by omega)
  rw [h4,unlock_held hs ho]
  simp only [ne_eq,not_true_eq_false,if_false]
  have hbk:back s.word false=s.word-1:=rfl
  rw [hbk]
  split<;>exact ⟨_,_,rfl⟩
 unfold Kept
 rw [e]
 exact h.back_ hm hx hs hb (ends_no m e0) (ends_pure m e0) rfl (ends_each q2 e0)
theorem PInv.step10 (h:PInv leaf inner A ps) (hm:ps[i]?=some m) (hx:m.nx=10) (hb:∀ s ∈ A.sl,s.word+2 < 18446744073709551616):Kept leaf inner A ps i m:=by
 have hmm:=List.mem_of_getElem? hm
 have he:=h.each m hmm
 obtain ⟨q1,q2,q3⟩:=each_pre he (by omega) (by omega)
 unfold PEach at he
 rw [hx] at he
 obtain ⟨_,_,_,hbs,hh,hn⟩:=he
 obtain ⟨s,hs,ho⟩:=h.slot hm (holds_fresh (m:=m) (by omega) (by omega))
 rw [opNd_some hs] at hn
 have e:stepP leaf inner A m=no (A.put m.fresh ⟨s.word+1,s.nd⟩) {m with nx:=11}:=by
  unfold stepP;rw [hx]
  simp only [unlock_held hs ho,onP,if_true]
  rw [back_true (word_inP hb hs)]
 unfold Kept
 rw [e]
 refine h.frees hm (holds_fresh (by omega) (by omega)) hs ho (by rw [hn];exact hh.2.1.1) (by rw [hn];exact hh.2.1.2) (λ ix hix=>?_) (λ _=>⟨rfl,by unfold Pm.pure;omega⟩) ?_ (λ d hd=>h.desc m hmm d hd)
 ·have hix':ix ∈ ({m with nx:=11}:Pm).holds:=hix
  rw [holds_one (m:={m with nx:=11}) (.inr ⟨(by show 11<=11;decide),(by show 11<=13;decide)⟩)] at hix'
  simp only [List.mem_cons,List.not_mem_nil,or_false] at hix'
  rw [hix']
  exact ⟨λ e=>hh.2.2.2 e.symm,holds_id (by omega) (by omega)⟩
 ·unfold PEach
  exact ⟨λ _ _=>q1,q2,λ _ _=>q3,hbs.frame (get_put_ne (get_pos hs) (λ e=>hh.2.2.2 e.symm)),hh⟩
theorem PInv.step13 (h:PInv leaf inner A ps) (hm:ps[i]?=some m) (hx:m.nx=13) (hb:∀ s ∈ A.sl,s.word+2 < 18446744073709551616):Kept leaf inner A ps i m:=by
 have hmm:=List.mem_of_getElem? hm
 have he:=h.each m hmm
 obtain ⟨q1,q2,q3⟩:=each_pre he (by omega) (by omega)
 unfold PEach at he
 rw [hx] at he
 obtain ⟨_,_,_,hh,hn⟩:=he
 obtain ⟨s,hs,ho⟩:=h.slot hm (holds_id (m:=m) (by omega) (by omega))
 rw [opNd_some hs] at hn
 obtain ⟨m',hm'⟩:∃ m':Pm,({m with side:=m.id,half:=m.fresh,sep:=m.btw,level:=m.level+1}:Pm).goes=m':=⟨_,rfl⟩
 have e:stepP leaf inner A m=((false,decide (m.level=0)),A.put m.id ⟨s.word+1,s.nd⟩,m'):=by
  unfold stepP;rw [hx]
  simp only [unlock_held hs ho,ne_eq,not_true_eq_false,if_false]
  rw [back_true (word_inP hb hs),<-hm']
  rfl
 have hnx:m'.nx=1:=by rw [<-hm'];rfl
 have hno:m'.holds=[]:=holds_no (.inl (by omega))
 unfold Kept
 rw [e]
 refine h.frees hm (holds_id (by omega) (by omega)) hs ho (by rw [hn];exact hh.1.1) (by rw [hn];exact hh.1.2) (λ ix hix=>?_) (λ hp=>absurd hp (not_pure (.inl (by show m'.nx<=2;omega)))) ?_ (λ d hd=>?_)
 ·have hix':ix ∈ m'.holds:=hix
  rw [hno] at hix';cases hix'
 ·show PEach leaf inner _ m'
  rw [<-hm']
  unfold PEach
  exact ⟨λ _ _=>hh.2.2.1,by show 0<=m.level+1;omega,λ _ _=>⟨q3.1,q3.2.1,_,rfl⟩,_,rfl,by unfold Mc.new;simp,rfl,rfl⟩
 ·have hd':m'.D=some d:=hd
  rw [<-hm'] at hd'
  unfold Pm.goes at hd'
  injection hd' with hd'
  rw [<-hd']
  exact DOk.new
theorem PInv.step18 (h:PInv leaf inner A ps) (hm:ps[i]?=some m) (hx:m.nx=18) (hb:∀ s ∈ A.sl,s.word+2 < 18446744073709551616):Kept leaf inner A ps i m:=by
 have hmm:=List.mem_of_getElem? hm
 have he:=h.each m hmm
 obtain ⟨q1,q2,q3⟩:=each_pre he (by omega) (by omega)
 unfold PEach at he
 rw [hx] at he
 obtain ⟨_,_,_,hl,hn⟩:=he
 obtain ⟨s,hs,ho⟩:=h.slot hm (holds_root (m:=m) (by omega) (by omega))
 rw [opNd_some hs] at hn
 have e:stepP leaf inner A m=no (A.put m.root ⟨s.word+1,s.nd⟩) {m with nx:=19}:=by
  unfold stepP;rw [hx]
  simp only [unlock_held hs ho,onP,if_true]
  rw [back_true (word_inP hb hs)]
 unfold Kept
 rw [e]
 refine h.frees hm (holds_root (by omega) (by omega)) hs ho (by rw [hn];exact right_root hl) (by rw [hn];exact (few_root q1).mono (by decide)) (λ ix hix=>?_) (λ hp=>absurd hp (not_pure (.inr (.inr (by show 12<=19;decide))))) ?_ (λ d hd=>h.desc m hmm d hd)
 ·have hix':ix ∈ ({m with nx:=19}:Pm).holds:=hix
  rw [holds_no (m:={m with nx:=19}) (.inr (.inr (.inr (by show 19<=19;decide))))] at hix';cases hix'
 ·unfold PEach
  exact ⟨λ _ _=>q1,q2,λ _ _=>q3,hl⟩
end
section
variable {A A':Ar} {ps:List Pm} {m m':Pm} {leaf inner:Int} {i:Nat}
theorem PInv.ends' (h:PInv leaf inner A ps) (hm:ps[i]?=some m) (hsl:A'.sl=A.sl) (hD:m'.D=m.D) (q2:0<=m'.level) (e:Int):PInv leaf inner A' (ps.set i (m'.ends e)):=by
 have hmm:=List.mem_of_getElem? hm
 exact h.still hm hsl (λ ix hix=>by rw [ends_no] at hix;cases hix) (λ hp=>absurd hp (ends_pure m' e)) (ends_each q2 e) (λ d hd=>h.desc m hmm d (by rw [<-hD];exact hd))
theorem PInv.goes' (h:PInv leaf inner A ps) (hm:ps[i]?=some m) (hsl:A'.sl=A.sl) (q1:m.sep.length<=64) (q2:0<=m.level) (q3:m.key.length<=64) (q4:m.val.length<=256):PInv leaf inner A' (ps.set i m.goes):=by
 refine h.still hm hsl (λ ix hix=>?_) (λ hp=>absurd hp (not_pure (.inl (by show 1<=2;decide)))) ?_ (λ d hd=>?_)
 ·rw [holds_no (m:=m.goes) (.inl (by show 1<=2;decide))] at hix;cases hix
 ·unfold PEach
  exact ⟨λ _ _=>q1,q2,λ _ _=>⟨q3,q4,_,rfl⟩,_,rfl,by unfold Mc.new;simp,rfl,rfl⟩
 ·unfold Pm.goes at hd
  injection hd with hd
  rw [<-hd]
  exact DOk.new
theorem PInv.step0 (h:PInv leaf inner A ps) (hm:ps[i]?=some m) (hx:m.nx=0):Kept leaf inner A ps i m:=by
 have he:=h.each m (List.mem_of_getElem? hm)
 unfold PEach at he
 have e:stepP leaf inner A m=((true,true),A,m.ends 3):=by unfold stepP;rw [hx];rfl
 unfold Kept
 rw [e]
 exact h.ends' hm rfl rfl he.2.1 3
theorem PInv.step14 (h:PInv leaf inner A ps) (hm:ps[i]?=some m) (hx:m.nx=14):Kept leaf inner A ps i m:=by
 have hmm:=List.mem_of_getElem? hm
 have he:=h.each m hmm
 obtain ⟨q1,q2,q3⟩:=each_pre he (by omega) (by omega)
 unfold PEach at he
 rw [hx] at he
 obtain ⟨_,_,_,hl⟩:=he
 have e:stepP leaf inner A m=if A.root≠m.side then ((true,false),A,m.ends 0) else no A {m with nx:=15}:=by unfold stepP;rw [hx];rfl
 unfold Kept
 rw [e]
 split
 ·exact h.ends' hm rfl rfl q2 0
 ·refine h.still hm rfl (λ ix hix=>?_) (λ hp=>absurd hp (not_pure (.inr (.inr (by show 12<=15;decide))))) ?_ (λ d hd=>h.desc m hmm d hd)
  ·have hix':ix ∈ ({m with nx:=15}:Pm).holds:=hix
   rw [holds_no (m:={m with nx:=15}) (.inr (.inr (.inl rfl)))] at hix';cases hix'
  ·unfold PEach
   exact ⟨λ _ _=>q1,q2,λ _ _=>q3,hl⟩
theorem grow_sl (A:Ar) (o t:Int):(opGrow A o t).2.2.sl=A.sl:=by
 unfold opGrow
 split
 ·rfl
 ·split<;>rfl
theorem PInv.step19 (h:PInv leaf inner A ps) (hm:ps[i]?=some m) (hx:m.nx=19):Kept leaf inner A ps i m:=by
 have hmm:=List.mem_of_getElem? hm
 have he:=h.each m hmm
 obtain ⟨q1,q2,q3⟩:=each_pre he (by omega) (by omega)
 have e:stepP leaf inner A m=if (opGrow A m.side m.root).1=true\/(opGrow A m.side m.root).2.1≠0 then ((true,false),(opGrow A m.side m.root).2.2,m.ends (opGrow A m.side m.root).2.1) else no (opGrow A m.side m.root).2.2 m.goes:=by unfold stepP;rw [hx];rfl
 unfold Kept
 rw [e]
 split
 ·exact h.ends' hm (grow_sl _ _ _) rfl q2 _
 ·exact h.goes' hm (grow_sl _ _ _) q1 q2 q3.1 q3.2.1
theorem PInv.step1 (h:PInv leaf inner A ps) (hm:ps[i]?=some m) (hx:m.nx=1):Kept leaf inner A ps i m:=by
 have hmm:=List.mem_of_getElem? hm
 have he:=h.each m hmm
 obtain ⟨q1,q2,q3⟩:=each_pre he (by omega) (by omega)
 unfold PEach at he
 rw [hx] at he
 obtain ⟨_,_,_,d,hd,hdn,hdl,hdk⟩:=he
 have hok:=(h.desc m hmm d hd).step h.few
 have hlv:(stepM A d).level=m.level:=by rw [stepM_level,hdl]
 have hky:(stepM A d).key=m.sep:=by rw [stepM_key,hdk]
 have e:stepP leaf inner A m=downP A m:=by unfold stepP;rw [hx];rfl
 unfold Kept
 rw [e]
 unfold downP
 rw [hd]
 simp only
 generalize stepM A d=d' at *
 by_cases hdone:d'.nx=.done
 ·rw [if_pos hdone]
  by_cases hid:(0:Int) < d'.outId
  ·rw [if_pos hid]
   have ht:d'.there=true:=by
    unfold Mc.outId at hid
    cases hdt:d'.there with
    | true=>rfl
    | false=>rw [hdt] at hid;simp at hid
   refine h.still hm rfl (λ ix hix=>?_) (λ hp=>absurd hp (not_pure (.inl (by show 2<=2;decide)))) ?_ (λ d2 hd2=>?_)
   ·exact absurd hix (by show ¬ix ∈ Pm.holds _;rw [holds_no (.inl (by show 2<=2;decide))];simp)
   ·unfold PEach
    exact ⟨λ _ _=>q1,q2,λ _ _=>⟨q3.1,q3.2.1,_,rfl⟩,d',rfl,hdone,ht,hlv,by show d'.outId=d'.id;unfold Mc.outId;rw [ht];rfl,by show d'.outWord=d'.word;unfold Mc.outWord;rw [ht];rfl,by show d'.outNd=d'.nd;unfold Mc.outNd;rw [ht];rfl⟩
   ·have hd3:some d'=some d2:=hd2
    injection hd3 with hd3
    rw [<-hd3];exact hok
  ·rw [if_neg hid]
   by_cases hl:(0:Int) < m.level
   ·rw [if_pos hl]
    refine h.still hm rfl (λ ix hix=>?_) (λ hp=>absurd hp (not_pure (.inr (.inr (by show 12<=14;decide))))) ?_ (λ d2 hd2=>?_)
    ·exact absurd hix (by show ¬ix ∈ Pm.holds _;rw [holds_no (.inr (.inl rfl))];simp)
    ·unfold PEach
     exact ⟨λ _ _=>q1,q2,λ _ _=>⟨q3.1,q3.2.1,_,rfl⟩,hl⟩
    ·have hd3:some d'=some d2:=hd2
     injection hd3 with hd3
     rw [<-hd3];exact hok
   ·rw [if_neg hl]
    refine h.still hm rfl (λ ix hix=>?_) (λ hp=>absurd hp (ends_pure _ _)) (ends_each (by exact q2) 101) (λ d2 hd2=>?_)
    ·exact absurd hix (by show ¬ix ∈ Pm.holds _;rw [ends_no];simp)
    ·have hd3:some d'=some d2:=hd2
     injection hd3 with hd3
     rw [<-hd3];exact hok
 ·rw [if_neg hdone]
  refine h.still hm rfl (λ ix hix=>?_) (λ hp=>absurd hp (not_pure (.inl (by show m.nx<=2;omega)))) ?_ (λ d2 hd2=>?_)
  ·exact absurd hix (by show ¬ix ∈ Pm.holds _;rw [holds_no (.inl (by show m.nx<=2;omega))];simp)
  ·show PEach leaf inner A {m with D:=some d'}
   unfold PEach
   refine ⟨λ _ _=>q1,q2,λ _ _=>⟨q3.1,q3.2.1,_,rfl⟩,?_⟩
   show match m.nx with|_=>_
   rw [hx]
   exact ⟨d',rfl,hdone,hlv,hky⟩
  ·have hd3:some d'=some d2:=hd2
   injection hd3 with hd3
   rw [<-hd3];exact hok
end
end Go.Proofs.Ytjcgphhpaenjkaa

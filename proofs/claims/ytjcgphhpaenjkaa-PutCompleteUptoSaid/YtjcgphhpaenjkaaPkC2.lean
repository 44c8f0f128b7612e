import Derived.Test.YtjcgphhpaenjkaaPkC1
set_option linter.unusedVariables false
namespace Go.Proofs.Ytjcgphhpaenjkaa
open Go.RowKit
section
variable {a0 a1 a2 a3 a4:Int} {A A' V V':Ar} {ps:List Pm} {m m':Pm} {lv:Int} {ls:List Ch} {es es':List Ent} {i j:Nat} {id kid:Int} {n:Nd} {s t:Sl} {d c:Ch} {lw key:List UInt8}
theorem DInv.topPend (h:DInv a0 a1 a2 a3 a4 A V ps lv ls es) (hm:m ∈ ps) (hl:m.live) (h0:0 < m.level) (hr:A.root=m.side):m.level=lv+1/\∃ r,ls[0]?=some ((m.side,[])::r)/\(m.half,m.sep) ∈ r/\m.side≠m.half:=by
 have hp:=(h.each m hm).pend hl h0
 obtain ⟨j,c,g1,g2,g3,lw,g4⟩:=hp.half
 obtain ⟨c0,hc0⟩:∃ c0,ls[0]?=some c0:=⟨_,List.getElem?_eq_getElem (by have:=h.tree.ti.len;have:=h.tree.lv0;omega)⟩
 obtain ⟨r,e⟩:=(h.tree.ti.top c0 hc0).head_
 have hroot:V.root=m.side:=h.vof.root.symm.trans hr
 rw [hroot] at e
 have hmem:(m.side,[]) ∈ c0:=by rw [e];exact List.mem_cons_self
 obtain ⟨e1,e2⟩:=nodup_in h.tree.met.1 g1 g4 hc0 hmem
 subst e1
 rw [hc0] at g1;cases g1
 have hne:m.side≠m.half:=λ e3=>by
  obtain ⟨_,e4⟩:=nodup_in (ix:=m.side) h.tree.met.1 hc0 hmem hc0 (lw':=m.sep) (by rw [e3];exact g3)
  have:=hp.sep.1
  rw [e4] at this
  simp at this
 refine ⟨by omega,r,by rw [hc0,e],?_,hne⟩
 rw [e] at g3
 rcases List.mem_cons.1 g3 with e3|h1
 ·exact absurd (congrArg Prod.fst e3).symm hne
 ·exact h1
theorem DInv.step19 (h:DInv a0 a1 a2 a3 a4 A V ps lv ls es) (hm:ps[i]?=some m) (hx:m.nx=19) (hk:Kept a1 a2 A ps i m) (h2:3<=a2) (h00:0 < m.level) (hlv:A.root=m.side->lv+1<=32):∃ V' lv' ls',DInv a0 a1 a2 a3 a4 (stepP a1 a2 A m).2.1 V' (ps.set i (stepP a1 a2 A m).2.2) lv' ls' es/\∀ x ∈ ids ls,x ∈ ids ls':=by
 have hk':PInv a1 a2 (stepP a1 a2 A m).2.1 (ps.set i (stepP a1 a2 A m).2.2):=hk
 have hmm:=List.mem_of_getElem? hm
 have hE:=h.each m hmm
 have hl:m.live:=⟨by omega,by omega⟩
 obtain ⟨f1,f2,f3⟩:=hE.own m.root (by rw [own_root (by omega) (by omega)];exact List.mem_singleton.2 rfl)
 obtain ⟨s,hs⟩:=get_in (A:=A) f2 (by rw [<-h.vof.len];exact f3)
 obtain ⟨t,ht⟩:=get_in f2 f3
 have htn:t.nd=rootNd m:=by rw [<-hE.rootNd hx];unfold opNd;rw [ht]
 by_cases hr:A.root=m.side
 ·have hgr:opGrow A m.side m.root=(true,0,{A with root:=m.root}):=by unfold opGrow;rw [hs];simp only;rw [if_pos hr]
  rw [stepP_19 hx,hgr] at hk' ⊢
  rw [if_pos (.inl rfl)] at hk' ⊢
  obtain ⟨e1,r,hc0,hin,hne⟩:=h.topPend hmm hl h00 hr
  have hp:=hE.pend hl h00
  have hget:∀ x,({V with root:=m.root}:Ar).get x=V.get x:=λ x=>get_sl rfl
  have hnd:∀ x,opNd ({V with root:=m.root}:Ar) x=opNd V x:=λ x=>by unfold opNd;rw [hget]
  have hroot:V.root=m.side:=h.vof.root.symm.trans hr
  have hrm:=h.room
  have hvl:=h.vof.len
  have hms:=h.tree.met.2 _ hp.ids.2
  have hmh:=h.tree.met.2 _ hp.ids.1
  have hmay:May (rootNd m) a0 a1 a2:=by
   refine ⟨⟨by show 0<=m.level;omega,by show m.level<=32;have:=hlv hr;omega⟩,⟨Int.le_refl _,by show (0:Int)<=a0;omega⟩,⟨λ _=>rfl,λ _=>rfl⟩,Nat.zero_le _,λ q a b ha hb=>?_,λ k hk=>?_,λ e=>by have e2:m.level=0:=e;omega,λ _=>⟨?_,λ k hk=>?_,rfl,rfl,by show (2:Int)<=a2;omega⟩⟩
   ·have hb':([m.sep]:List (List UInt8))[q+1]?=some b:=hb
    simp at hb'
   ·rw [List.mem_singleton.1 (show k ∈ [m.sep] from hk)]
    exact ⟨hp.sep,rfl⟩
   ·show [m.side,m.half].Nodup
    simp [hne]
   ·rcases List.mem_cons.1 (show k ∈ [m.side,m.half] from hk) with e|hk
    ·rw [e];exact ⟨hms.1,by omega⟩
    ·rw [List.mem_singleton.1 hk];exact ⟨hmh.1,by omega⟩
  have hti:=h.tree.ti.grow h.tree.lv0 ht (by rw [htn];exact e1) (by rw [htn];rfl) ((h.tree.may _).2 (by rw [htn];exact hmay)) (by rw [htn,hroot];rfl) (λ c hc=>by
   rw [hc0] at hc;cases hc
   rw [htn]
   unfold nodeKids
   rw [List.all_eq_true]
   intro q hq
   have hq2:q < 2:=by simpa [rootNd] using hq
   unfold kidOk
   rw [List.any_eq_true]
   match q,hq2 with
   | 0,_=>exact ⟨(m.side,[]),List.mem_cons_self,by simp [rootNd,wantLow]⟩
   | 1,_=>exact ⟨(m.half,m.sep),List.mem_cons_of_mem _ hin,by simp [rootNd,wantLow]⟩)
  have hT:Tv ({V with root:=m.root}:Ar) (chkM a0 a1 a2 a3 a4) a0 a1 a2 (lv+1) ([(m.root,[])]::ls):=by
   refine ⟨?_,by have:=h.tree.lv0;omega,h.tree.even,⟨?_,λ x hx'=>?_⟩,h.tree.may,λ q c hq hc=>?_⟩
   ·exact (hti.far (V':=({V with root:=m.root}:Ar)) (λ e _=>by rw [hget]))
   ·exact List.nodup_cons.2 ⟨f1,h.tree.met.1⟩
   ·rcases List.mem_cons.1 (show x ∈ m.root::ids ls from hx') with e|hx'
    ·rw [e];exact ⟨f2,f3⟩
    ·exact h.tree.met.2 x hx'
   ·obtain ⟨q',rfl⟩:∃ q',q=q'+1:=⟨q-1,by omega⟩
    rw [List.getElem?_cons_succ] at hc
    rcases Nat.eq_zero_or_pos q' with rfl|hp'
    ·rw [hc0] at hc;cases hc
     have:=List.length_pos_of_mem hin
     simp only [List.length_cons];omega
    ·exact h.tree.two q' c hp' hc
  refine ⟨{V with root:=m.root},lv+1,[(m.root,[])]::ls,?_,λ x hx=>List.mem_cons_of_mem _ hx⟩
  refine h.turn hm hk' (h.vof.turn hm rfl h.vof.len (λ ix hq=>absurd hq (nogrip_of (.inr (by show 14<=20;decide)) ix)) (λ q x ix _ _ _=>hnd ix) (λ ix _ hq'=>?_)) hT (DEach.through rfl) (λ q c hc=>⟨q+1,c,by rw [List.getElem?_cons_succ];exact hc,by push_cast;omega,λ _ h=>h⟩) (λ x hx'=>?_) (Nat.le_refl _) (λ q x _ _ y _=>hnd y) (λ q x hqi hqx l1 l2 e he hin'=>?_) (noown (.inr (.inr (.inr (by show 20<=20;decide))))) (λ hl'=>absurd rfl hl'.2) h.room (λ c hc=>?_)
  ·rw [hnd,show opNd ({A with root:=m.root}:Ar) ix=opNd A ix from opNd_same (get_sl rfl)]
   refine h.vof.free ix (λ y hy=>?_)
   obtain ⟨r',hr'⟩:=mem_at hy
   by_cases e2:r'=i
   ·subst e2;rw [hm] at hr';cases hr';exact nogrip_of (by omega) ix
   ·exact hq' r' y e2 hr'
  ·rcases List.mem_cons.1 (show x ∈ m.root::ids ls from hx') with e|hx'
   ·exact .inr (by rw [own_root (by omega) (by omega),e];exact List.mem_singleton.2 rfl)
   ·exact .inl hx'
  ·have hpx:=(h.each x (List.mem_of_getElem? hqx)).pend l1 l2
   rw [hnd] at hin'
   rcases List.mem_cons.1 (show e ∈ (m.root,[])::ls.flatten from he) with e3|he
   ·rw [e3] at hin'
    rw [show opNd V (m.root,([]:List UInt8)).1=rootNd m from hE.rootNd hx] at hin'
    rcases List.mem_cons.1 (show x.half ∈ [m.side,m.half] from hin') with e4|e4
    ·obtain ⟨jx,cx,x1,_,x3,_⟩:=hpx.half
     obtain ⟨_,e5⟩:=nodup_in (ix:=m.side) h.tree.met.1 hc0 List.mem_cons_self x1 (by rw [<-e4];exact x3)
     have:=hpx.sep.1
     rw [e5] at this
     simp at this
    ·exact (h.apart i q m x (Ne.symm hqi) hm hqx).2 hl h00 l1 l2 (List.mem_singleton.1 e4).symm
   ·exact hpx.kid e he hin'
  ·have hlv0:=h.tree.lv0
   rw [show (lv+1).toNat=lv.toNat+1 by omega,List.getElem?_cons_succ] at hc
   rw [entsCh_same (V:=V) (λ e _=>hnd e.1)]
   exact h.ents c hc
 ·have hgr:opGrow A m.side m.root=(false,0,A):=by unfold opGrow;rw [hs];simp only;rw [if_neg hr]
  rw [stepP_19 hx,hgr] at hk' ⊢
  rw [if_neg (λ e=>by rcases e with e|e;cases e;exact e rfl)] at hk' ⊢
  exact ⟨V,lv,ls,h.goes hm (by omega) hl hk',λ _ h=>h⟩
end
def Sh (A:Ar) (m:Pm) (r:Ps):Prop:=(r.2.2.nx<=20/\(r.2.2.level=m.level\/r.2.2.level=m.level+1))/\(∀ d',r.2.2.D=some d'->m.D=some d'\/(∃ d,m.D=some d/\d'=stepM A d)\/∃ k l,d'=Mc.new k l)/\(r.1.2=true->r.2.2.out.2=0->m.level=0/\m.nx≠20/\(r.2.2.nx=20\/r.2.2.level=m.level+1))/\(m.nx=20->r.2.2=m)
section
variable {A A':Ar} {m m':Pm} {leaf inner:Int}
theorem sh_no (h1:m'.nx<=20) (h2:m'.level=m.level) (h3:m'.D=m.D) (hx:m.nx≠20):Sh A m (no A' m'):=⟨⟨h1,.inl h2⟩,λ d' h=>.inl (by rw [<-h3];exact h),(λ h=>by cases h),λ h=>absurd h hx⟩
theorem sh_goes (h2:m'.level=m.level) (hx:m.nx≠20):Sh A m (no A' m'.goes):=⟨⟨(by show 1<=20;decide),.inl h2⟩,λ d' h=>.inr (.inr ⟨_,_,(Option.some.inj h).symm⟩),(λ h=>by cases h),λ h=>absurd h hx⟩
theorem sh_ends (h2:m'.level=m.level) (h3:m'.D=m.D) (hx:m.nx≠20) {took:Bool} {e:Int} (ht:took=true->e=0->m.level=0):Sh A m ((true,took),A',m'.ends e):=⟨⟨(by show 20<=20;decide),.inl h2⟩,λ d' h=>.inl (by rw [<-h3];exact h),λ h ho=>⟨ht h (by have h0:(m'.ends e).out.2=e:=rfl;rw [h0] at ho;exact ho),hx,.inl rfl⟩,λ h=>absurd h hx⟩
theorem sh_on {e:Int} {n:Nat} (hn:n<=20) (hx:m.nx≠20):Sh A m (onP A' m e n):=by
 unfold onP
 split
 ·exact sh_no hn rfl rfl hx
 ·exact sh_ends rfl rfl hx (λ h=>by cases h)
theorem sh_gives (hx:m.nx≠20):Sh A m (givesP A m):=by
 unfold givesP
 simp only
 split
 ·exact sh_ends rfl rfl hx (λ h=>by cases h)
 ·split
  ·rename_i h;exact sh_ends rfl rfl hx (λ _ _=>h.2)
  ·exact sh_ends rfl rfl hx (λ h _=>by simpa using h)
theorem sh_slot (hx:m.nx≠20):Sh A m (slotP A m):=by
 unfold slotP
 simp only
 split
 ·exact sh_ends rfl rfl hx (λ h=>by cases h)
 ·split
  ·exact sh_no (by simp only;omega) rfl rfl hx
  ·split
   ·exact sh_no (by simp only;omega) rfl rfl hx
   ·exact sh_no (by simp only;omega) rfl rfl hx
theorem sh_lock (hx:m.nx≠20):Sh A m (lockP leaf inner A m):=by
 unfold lockP
 simp only
 split
 ·exact sh_ends rfl rfl hx (λ h=>by cases h)
 ·split
  ·exact sh_goes rfl hx
  ·split
   ·refine sh_no ?_ rfl rfl hx
    show (if _ then 6 else 3)<=20
    split<;>decide
   ·split
    ·exact sh_no (by simp only;omega) rfl rfl hx
    ·refine sh_no ?_ rfl rfl hx
     show (if _ then 6 else 3)<=20
     split<;>decide
theorem sh_down (hx:m.nx≠20) (hn:m.nx<=20):Sh A m (downP A m):=by
 unfold downP
 split
 ·exact sh_no hn rfl rfl hx
 ·rename_i d hd
  have hD:∀ d',some (stepM A d)=some d'->m.D=some d'\/(∃ d,m.D=some d/\d'=stepM A d)\/∃ k l,d'=Mc.new k l:=λ d' h=>.inr (.inl ⟨d,hd,(Option.some.inj h).symm⟩)
  split
  ·simp only
   split
   ·exact ⟨⟨(by show 2<=20;decide),.inl rfl⟩,hD,(λ h=>by cases h),λ h=>absurd h hx⟩
   ·split
    ·exact ⟨⟨(by show 14<=20;decide),.inl rfl⟩,hD,(λ h=>by cases h),λ h=>absurd h hx⟩
    ·exact ⟨⟨(by show 20<=20;decide),.inl rfl⟩,hD,(λ h=>by cases h),λ h=>absurd h hx⟩
  ·exact ⟨⟨hn,.inl rfl⟩,hD,(λ h=>by cases h),λ h=>absurd h hx⟩
theorem stepP_sh (hn:m.nx<=20):Sh A m (stepP leaf inner A m):=by
 by_cases hx:m.nx=20
 ·rw [stepP_through hx]
  exact ⟨⟨hn,.inl rfl⟩,λ d' h=>.inl h,(λ h=>by cases h),λ _=>rfl⟩
 ·unfold stepP
  split
  any_goals first|exact sh_down hx hn|exact sh_lock hx|exact sh_gives hx|exact sh_slot hx|exact sh_on (by decide) hx
  ·exact sh_ends rfl rfl hx (λ _ h=>by cases h)
  ·simp only
   split
   ·exact sh_ends rfl rfl hx (λ h=>by cases h)
   ·exact ⟨⟨(by show 1<=20;decide),.inr rfl⟩,λ d' h=>.inr (.inr ⟨_,_,(Option.some.inj h).symm⟩),λ h _=>⟨by simpa using h,hx,.inr rfl⟩,λ h=>absurd h hx⟩
  ·split
   ·exact sh_ends rfl rfl hx (λ h=>by cases h)
   ·exact sh_no (by simp only;omega) rfl rfl hx
  ·simp only
   split
   ·exact sh_ends rfl rfl hx (λ h=>by cases h)
   ·exact sh_goes rfl hx
  ·exact ⟨⟨hn,.inl rfl⟩,λ d' h=>.inl h,(λ h=>by cases h),λ _=>rfl⟩
end
section
variable {a0 a1 a2 a3 a4:Int} {A A' V V':Ar} {ps:List Pm} {m m':Pm} {lv:Int} {ls:List Ch} {es es':List Ent} {i j:Nat} {n:Nat} {key val:List UInt8}
def eff (a1 a2:Int) (A:Ar) (m:Pm):Prop:=(stepP a1 a2 A m).1.2=true/\(stepP a1 a2 A m).2.2.out.2=0
def Told (a1 a2:Int) (A:Ar) (m:Pm) (es es':List Ent):Prop:=(eff a1 a2 A m->Put1 m.key m.val es es')/\(¬eff a1 a2 A m->es'=es)
theorem Told.none (h:(stepP a1 a2 A m).1.2=false\/(stepP a1 a2 A m).2.2.out.2≠0):Told a1 a2 A m es es:=by
 refine ⟨λ he=>?_,λ _=>rfl⟩
 rcases h with h|h
 ·rw [he.1] at h;cases h
 ·exact absurd he.2 h
theorem no_took (h:m.nx=1\/m.nx=2\/m.nx=3\/m.nx=6\/(8<=m.nx/\m.nx<=12)\/(14<=m.nx/\m.nx<=20)):(stepP a1 a2 A m).1.2=false:=by
 have hon:∀ (A:Ar) (m:Pm) (e:Int) (k:Nat),(onP A m e k).1.2=false:=λ A m e k=>by unfold onP;split<;>rfl
 unfold stepP
 split
 any_goals (first|exact hon _ _ _ _|omega)
 ·unfold downP
  split
  ·rfl
  ·split
   ·simp only
    repeat' split
    all_goals rfl
   ·rfl
 ·unfold lockP
  simp only
  repeat' split
  all_goals rfl
 ·unfold slotP
  simp only
  repeat' split
  all_goals rfl
 ·split<;>rfl
 ·unfold slotP
  simp only
  repeat' split
  all_goals rfl
 ·simp only
  split<;>rfl
 ·rfl
theorem DInv.step (h:DInv a0 a1 a2 a3 a4 A V ps lv ls es) (hm:ps[i]?=some m) (hn:m.nx<=20) (h5:m.nx=5->0 < m.level) (h1:2<=a1) (h1':a1<=6) (h2:3<=a2) (h2':a2<=6) (hb:∀ s ∈ A.sl,s.word+2 < 18446744073709551616) (hlv:m.nx=19->A.root=m.side->lv+1<=32):∃ V' lv' ls' es',DInv a0 a1 a2 a3 a4 (stepP a1 a2 A m).2.1 V' (ps.set i (stepP a1 a2 A m).2.2) lv' ls' es'/\(∀ x ∈ ids ls,x ∈ ids ls')/\Told a1 a2 A m es es':=by
 have hk:=h.inv.step hm h1 h1' h2 h2' hb
 have hmm:=List.mem_of_getElem? hm
 have still:Same a0 a1 a2 a3 a4 A ps lv ls es i m->((stepP a1 a2 A m).1.2=false\/(stepP a1 a2 A m).2.2.out.2≠0)->∃ V' lv' ls' es',DInv a0 a1 a2 a3 a4 (stepP a1 a2 A m).2.1 V' (ps.set i (stepP a1 a2 A m).2.2) lv' ls' es'/\(∀ x ∈ ids ls,x ∈ ids ls')/\Told a1 a2 A m es es':=λ ⟨V',hV⟩ ht=>⟨V',lv,ls,es,hV,λ _ h=>h,Told.none ht⟩
 obtain ⟨k,hk0⟩:∃ k,m.nx=k:=⟨_,rfl⟩
 rw [hk0] at hn
 have hodd:∀ c,3<=m.nx->m.nx<=13->(opUnlock A m.id c).1=0:=λ c g1 g2=>by
  obtain ⟨s,hs,ho⟩:=h.inv.slot hm (holds_id g1 g2)
  obtain ⟨q,_,hq,_⟩:=get_some hs
  rw [unlock_odd hs ho (hb s (List.mem_of_getElem? hq))]
 match k,hk0,hn with
 | 0,e,_=>exact still (h.step0 hm e hk) (.inr (by rw [stepP_0 e];show (3:Int)≠0;decide))
 | 1,e,_=>exact still ⟨V,h.step1 hm e hk⟩ (.inl (no_took (by omega)))
 | 2,e,_=>exact still (h.step2 hm e hk) (.inl (no_took (by omega)))
 | 3,e,_=>exact still (h.step3 hm (.inl e) hk) (.inl (no_took (by omega)))
 | 4,e,_=>
  obtain ⟨V',es',g1,g2,g3⟩:=h.step4 hm e hk hb
  refine ⟨V',lv,ls,es',g1,λ _ h=>h,?_⟩
  have hs:=stepP_4 (leaf:=a1) (inner:=a2) e (hodd true (by omega) (by omega))
  have h0:=((h.each m hmm).key ⟨by omega,by omega⟩).2.2.1
  have heff:eff a1 a2 A m ↔ m.level=0:=by
   unfold eff;rw [hs]
   exact ⟨λ q=>by simpa using q.1,λ q=>⟨by simpa using q,rfl⟩⟩
  exact ⟨λ q=>g2 (heff.1 q),λ q=>g3 (by have:¬m.level=0:=λ q2=>q (heff.2 q2);omega)⟩
 | 5,e,_=>
  refine still (h.step57 hm (.inl e) hk hb) (.inl ?_)
  rw [stepP_5 e (hodd false (by omega) (by omega))]
  have:=h5 e
  show decide (m.level=0)=false
  rw [decide_eq_false_iff_not];omega
 | 6,e,_=>exact still (h.step6 hm e hk) (.inl (no_took (by omega)))
 | 7,e,_=>
  refine still (h.step57 hm (.inr e) hk hb) ?_
  rw [stepP_7 e (hodd false (by omega) (by omega))]
  by_cases c:m.level=0
  ·rw [if_pos c];exact .inr (by show (2:Int)≠0;decide)
  ·rw [if_neg c];exact .inl rfl
 | 8,e,_=>exact still (h.step8 hm (.inl e) hk) (.inl (no_took (by omega)))
 | 9,e,_=>exact still (h.step8 hm (.inr e) hk) (.inl (no_took (by omega)))
 | 10,e,_=>exact still (h.step10 hm e hk hb) (.inl (no_took (by omega)))
 | 11,e,_=>exact still (h.step3 hm (.inr (.inl e)) hk) (.inl (no_took (by omega)))
 | 12,e,_=>exact still (h.step3 hm (.inr (.inr e)) hk) (.inl (no_took (by omega)))
 | 13,e,_=>
  obtain ⟨V',ls',es',g1,g2,g3,g4⟩:=h.step13 hm e hk hb h1 h2
  refine ⟨V',lv,ls',es',g1,g4,?_⟩
  have hs:=stepP_13 (leaf:=a1) (inner:=a2) e (hodd true (by omega) (by omega))
  have h0:=((h.each m hmm).key ⟨by omega,by omega⟩).2.2.1
  have heff:eff a1 a2 A m ↔ m.level=0:=by
   unfold eff;rw [hs]
   exact ⟨λ q=>by simpa using q.1,λ q=>⟨by simpa using q,rfl⟩⟩
  exact ⟨λ q=>g2 (heff.1 q),λ q=>g3 (by have:¬m.level=0:=λ q2=>q (heff.2 q2);omega)⟩
 | 14,e,_=>exact still (h.step14 hm e hk) (.inl (no_took (by omega)))
 | 15,e,_=>exact still (h.step15 hm e hk) (.inl (no_took (by omega)))
 | 16,e,_=>exact still (h.step16 hm (.inl e) hk) (.inl (no_took (by omega)))
 | 17,e,_=>exact still (h.step16 hm (.inr e) hk) (.inl (no_took (by omega)))
 | 18,e,_=>exact still (h.step18 hm e hk hb) (.inl (no_took (by omega)))
 | 19,e,_=>
  have h3:0 < m.level:=by
   have:=(h.inv.each m hmm).2.2.2
   rw [e] at this;exact this
  obtain ⟨V',lv',ls',g1,g2⟩:=h.step19 hm e hk h2 h3 (hlv e)
  exact ⟨V',lv',ls',es,g1,g2,Told.none (.inl (no_took (by omega)))⟩
 | 20,e,_=>exact still (h.step20 hm e hk) (.inl (no_took (by omega)))
 | k+21,_,hn=>omega
def Five (r:Ps):Prop:=r.2.2.nx=5->0 < r.2.2.level
theorem five_no {b:Bool × Bool} (h:m.nx≠5):Five (b,A,m):=λ e=>absurd e h
theorem five_on {e:Int} {k:Nat} (hk:k≠5):Five (onP A m e k):=by
 unfold onP
 split
 ·exact five_no hk
 ·exact five_no (m:=m.ends e) (by show (20:Nat)≠5;decide)
theorem five_ends {b:Bool × Bool} {e:Int}:Five (b,A,m.ends e):=five_no (m:=m.ends e) (by show (20:Nat)≠5;decide)
theorem five_down (hx:m.nx=1):Five (downP A m):=by
 unfold downP
 split
 ·exact five_no (by omega)
 ·split
  ·simp only
   split
   ·exact five_no (by show (2:Nat)≠5;decide)
   ·split
    ·exact five_no (by show (14:Nat)≠5;decide)
    ·exact five_ends
  ·exact five_no (by show m.nx≠5;omega)
theorem five_lock (h0:0<=m.level):Five (lockP a1 a2 A m):=by
 have h36:∀ b:Bool,(if b=true then 6 else 3)≠5:=by intro b;cases b<;>decide
 unfold lockP
 simp only
 split
 ·exact five_ends
 ·split
  ·exact five_no (m:=m.goes) (by show (1:Nat)≠5;decide)
  ·split
   ·exact five_no (h36 _)
   ·rename_i hl
    split
    ·exact λ _=>by show 0 < m.level;omega
    ·exact five_no (h36 _)
theorem five_gives:Five (givesP A m):=by
 unfold givesP
 simp only
 split
 ·exact five_ends
 ·split
  ·exact five_ends
  ·exact five_ends
theorem five_slot:Five (slotP A m):=by
 unfold slotP
 simp only
 split
 ·exact five_ends
 ·split
  ·exact five_no (by show (16:Nat)≠5;decide)
  ·split
   ·exact five_no (by show (7:Nat)≠5;decide)
   ·exact five_no (by show (8:Nat)≠5;decide)
theorem five_13:Five (if (opUnlock A m.id true).1≠0 then ((true,false),(opUnlock A m.id true).2,m.ends (opUnlock A m.id true).1) else ((false,decide (m.level=0)),(opUnlock A m.id true).2,({m with side:=m.id,half:=m.fresh,sep:=m.btw,level:=m.level+1}:Pm).goes)):=by
 split
 ·exact five_ends
 ·exact five_no (by show (1:Nat)≠5;decide)
theorem five_14:Five (if A.root≠m.side then ((true,false),A,m.ends 0) else no A {m with nx:=15}):=by
 split
 ·exact five_ends
 ·exact five_no (by show (15:Nat)≠5;decide)
theorem five_19:Five (if (opGrow A m.side m.root).1=true\/(opGrow A m.side m.root).2.1≠0 then ((true,false),(opGrow A m.side m.root).2.2,m.ends (opGrow A m.side m.root).2.1) else no (opGrow A m.side m.root).2.2 m.goes):=by
 split
 ·exact five_ends
 ·exact five_no (by show (1:Nat)≠5;decide)
theorem stepP_five (h0:0<=m.level) (h5:m.nx=5->0 < m.level):Five (stepP a1 a2 A m):=by
 unfold stepP
 split
 any_goals first|exact five_on (by decide)|exact five_ends|exact five_gives|exact five_slot|exact five_lock h0|(exact five_down (by assumption))|exact five_13|exact five_14|exact five_19
 exact h5
theorem DInv.new (h:DInv a0 a1 a2 a3 a4 A V ps lv ls es):DInv a0 a1 a2 a3 a4 A V (ps++[Pm.new key val]) lv ls es:=by
 have hm':∀ x,x ∈ ps++[Pm.new key val]->x ∈ ps\/x=Pm.new key val:=λ x hx=>by simpa using hx
 have hnx:(Pm.new key val).nx<=1/\(Pm.new key val).level=0:=by
  unfold Pm.new
  split
  ·exact ⟨Nat.le_refl _,rfl⟩
  ·exact ⟨Nat.zero_le _,rfl⟩
 have hown:(Pm.new key val).own=[]:=own_no (by omega)
 have hE:DEach a1 a2 V lv ls (Pm.new key val):=by
  unfold Pm.new
  split
  ·rename_i hf
   exact ⟨λ _=>⟨hf.1,hf.2,Int.le_refl _,λ _=>rfl⟩,λ _ h0=>absurd h0 (by show ¬(0:Int) < 0;decide),λ _=>⟨_,rfl,DesOk.new _ (Int.le_refl _),rfl,rfl⟩,λ h1=>absurd h1 (by show ¬2<=1;decide),λ h1=>absurd h1 (by show ¬((1:Nat)=3\/(1:Nat)=4\/(6<=1/\1<=13));decide),λ h1=>absurd h1 (by show ¬8<=1;decide),noown (.inl (by show 1<=7;decide)),λ h1=>absurd h1 (by show ¬11<=1;decide),λ h1=>absurd h1 (by show ¬(1:Nat)=19;decide)⟩
  ·exact ⟨λ hl=>absurd rfl hl.1,λ hl=>absurd rfl hl.1,λ h1=>absurd h1 (by show ¬(0:Nat)=1;decide),λ h1=>absurd h1 (by show ¬2<=0;decide),λ h1=>absurd h1 (by show ¬((0:Nat)=3\/(0:Nat)=4\/(6<=0/\0<=13));decide),λ h1=>absurd h1 (by show ¬8<=0;decide),noown (.inl (by show 0<=7;decide)),λ h1=>absurd h1 (by show ¬11<=0;decide),λ h1=>absurd h1 (by show ¬(0:Nat)=19;decide)⟩
 refine ⟨h.inv.new,⟨h.vof.root,h.vof.len,λ x hx ix hg=>?_,λ ix hg=>h.vof.free ix (λ x hx=>hg x (List.mem_append_left _ hx))⟩,h.tree,λ x hx=>?_,λ i j x y hij hi hj=>?_,h.room,h.ents⟩
 ·rcases hm' x hx with hx|rfl
  ·exact h.vof.grip x hx ix hg
  ·have:=hg.1;omega
 ·rcases hm' x hx with hx|rfl
  ·exact h.each x hx
  ·exact hE
 ·have hcase:∀ {q:Nat} {z:Pm},(ps++[Pm.new key val])[q]?=some z->(ps[q]?=some z)\/(q=ps.length/\z=Pm.new key val):=λ {q z} hq=>by
   by_cases hlt:q < ps.length
   ·rw [List.getElem?_append_left hlt] at hq;exact .inl hq
   ·rw [List.getElem?_append_right (by omega)] at hq
    cases hz:q-ps.length with
    | zero=>rw [hz] at hq;exact .inr ⟨by omega,(Option.some.inj hq).symm⟩
    | succ r=>rw [hz] at hq;simp at hq
  rcases hcase hi with hi|⟨e1,e2⟩
  ·rcases hcase hj with hj|⟨e3,e4⟩
   ·exact h.apart i j x y hij hi hj
   ·rw [e4]
    exact ⟨λ z _ hz=>(by rw [hown] at hz;cases hz),λ _ _ _ h0=>by rw [hnx.2] at h0;exact absurd h0 (by decide)⟩
  ·rw [e2]
   exact ⟨λ z hz=>(by rw [hown] at hz;cases hz),λ _ h0=>by rw [hnx.2] at h0;exact absurd h0 (by decide)⟩
theorem DInv.start (hc:confOk a0 a1 a2 a3 a4=true) (h1:(n:Int)=a0):DInv a0 a1 a2 a3 a4 (ar0 n) (ar0 n) [] 0 [[(1,[])]] []:=by
 have hc0:1<=a0/\2<=a1:=by
  unfold confOk at hc
  simp only [Bool.and_eq_true,decide_eq_true_eq] at hc
  omega
 have hmz:May Nd.zero a0 a1 a2:=⟨⟨Int.le_refl _,by decide⟩,⟨Int.le_refl _,by show (0:Int)<=a0;omega⟩,⟨λ _=>rfl,λ _=>rfl⟩,Nat.zero_le _,λ j a b ha=>(by simp [Nd.zero] at ha),λ k hk=>(by cases hk),λ _=>⟨rfl,by show (0:Int)<=a1;omega,rfl,λ v hv=>(by cases hv)⟩,λ h=>absurd rfl h⟩
 have hev:∀ s ∈ (ar0 n).sl,s.word % 2=0:=λ s hs=>by rw [List.mem_singleton.1 (show s ∈ [(⟨0,Nd.zero⟩:Sl)] from hs)];rfl
 have hget:(ar0 n).get 1=some ⟨0,Nd.zero⟩:=rfl
 refine ⟨PInv.start n,⟨rfl,rfl,λ m hm=>(by cases hm),λ _ _=>rfl⟩,⟨⟨rfl,λ c hc'=>?_,λ j c d hj hd=>?_⟩,Int.le_refl _,hev,⟨by simp,λ x hx=>?_⟩,λ n=>may_iff hc,λ j c hj hc'=>?_⟩,λ m hm=>(by cases hm),λ i j m m' _ hi=>(by simp at hi),⟨h1,by show 1<=n;omega⟩,λ c hc'=>?_⟩
 ·cases hc'
  exact .last hget rfl ((may_iff hc).2 hmz) rfl rfl
 ·simp at hd
 ·have:x=1:=by simpa using hx
  rw [this];exact ⟨Int.le_refl _,by show (1:Int)<=1;decide⟩
 ·obtain ⟨q,rfl⟩:∃ q,j=q+1:=⟨j-1,by omega⟩
  simp at hc'
 ·cases hc';rfl
theorem DInv.quietly (h:DInv a0 a1 a2 a3 a4 A V ps lv ls es) (he:∀ s ∈ A.sl,s.word % 2=0):TreeOk A a0 a1 a2 (chkM a0 a1 a2 a3 a4) lv ls/\mapOf A=es:=by
 have hall:=h.vof.all h.inv he
 have hT:Tv A (chkM a0 a1 a2 a3 a4) a0 a1 a2 lv ls:=by
  refine h.tree.far h.vof.root he (Nat.le_of_eq h.vof.len) (λ e he'=>?_)
  have hx:e.1 ∈ ids ls:=List.mem_map.2 ⟨e,he',rfl⟩
  obtain ⟨t,ht⟩:=get_in (h.tree.met.2 _ hx).1 (h.tree.met.2 _ hx).2
  obtain ⟨s,hs⟩:=h.slot hx
  have:=hall e.1
  unfold opNd at this
  rw [ht,hs] at this
  rw [ht,hs]
  exact congrArg some this.symm
 refine ⟨hT.ok,?_⟩
 obtain ⟨c,g1,_,g3⟩:=map_of hT.ok
 rw [g3,<-h.ents c g1]
 exact entsCh_same (λ e _=>(hall e.1).symm)
end
theorem Try.inf_entry:(Try.prog.info? 36).map (λ i=>(i.zero,i.size,i.bytes))=some (some (.agg #[.slice none 0 0,.slice none 0 0]),2,48):=by kernel_rfl
structure En where
 kv:Value
 vv:Value
 k:List UInt8
 v:List UInt8
def En.e (x:En):Ent:=(x.k,x.v)
def enCells (l:List En):List Value:=l.flatMap (λ x=>[x.kv,x.vv])
theorem enCells_snoc (l:List En) (x:En):enCells (l++[x])=enCells l++[x.kv,x.vv]:=by unfold enCells;rw [List.flatMap_append];rfl
def stepE (x:En) (o:List En × Bool) (e:En):List En × Bool:=
 if cmp e.k x.k≠0 then ((if 0<=cmp e.k x.k/\o.2=false then (o.1++[x],true) else o).1++[e],(if 0<=cmp e.k x.k/\o.2=false then (o.1++[x],true) else o).2) else (if 0<=cmp e.k x.k/\o.2=false then (o.1++[x],true) else o)
def setL (x:En) (l:List En):List En × Bool:=l.foldl (stepE x) ([],false)
def setE (x:En) (l:List En):List En:=if (setL x l).2=false then (setL x l).1++[x] else (setL x l).1
theorem setL_succ {x e:En} {l:List En} {j:Nat} (h:l[j]?=some e):setL x (l.take (j+1))=stepE x (setL x (l.take j)) e:=by
 unfold setL
 rw [List.take_add_one,h]
 simp
theorem stepE_len (x e:En) (o:List En × Bool):(stepE x o e).1.length+(if (stepE x o e).2=true then 0 else 1)<=o.1.length+(if o.2=true then 0 else 1)+1:=by
 obtain ⟨l,b⟩:=o
 unfold stepE
 cases b<;>(repeat' split)<;>simp_all<;>omega
theorem setL_len (x:En):∀ (l:List En) (j:Nat),j<=l.length->(setL x (l.take j)).1.length+(if (setL x (l.take j)).2=true then 0 else 1)<=j+1
 | l,0,_=>by simp [setL]
 | l,j+1,h=>by
  obtain ⟨e,he⟩:∃ e,l[j]?=some e:=⟨_,List.getElem?_eq_getElem (by omega)⟩
  rw [setL_succ he]
  have h1:=stepE_len x e (setL x (l.take j))
  have h2:=setL_len x l j (by omega)
  omega
theorem setE_len (x:En) (l:List En):(setE x l).length<=l.length+1:=by
 have h:=setL_len x l l.length (Nat.le_refl _)
 rw [List.take_length] at h
 unfold setE
 split
 ·rename_i hb;rw [hb] at h;simp at h ⊢;omega
 ·split at h<;>omega
section
variable {w:World} {S Sl:Nat->Prop} {lv kv vv:Value} {key val:List UInt8} {es:List En}
end
end Go.Proofs.Ytjcgphhpaenjkaa

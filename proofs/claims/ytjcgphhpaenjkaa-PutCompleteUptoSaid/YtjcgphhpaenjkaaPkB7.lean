import Derived.Test.YtjcgphhpaenjkaaPkB6
set_option linter.unusedVariables false
namespace Go.Proofs.Ytjcgphhpaenjkaa
open Go.RowKit
def EntOk (V:Ar) (lv:Int) (ls:List Ch) (es:List Ent):Prop:=∀ c,ls[lv.toNat]?=some c->entsCh V c=es
structure DInv (a0 a1 a2 a3 a4:Int) (A V:Ar) (ps:List Pm) (lv:Int) (ls:List Ch) (es:List Ent):Prop where
 inv:PInv a1 a2 A ps
 vof:VOf A ps V
 tree:Tv V (chkM a0 a1 a2 a3 a4) a0 a1 a2 lv ls
 each:∀ m ∈ ps,DEach a1 a2 V lv ls m
 apart:∀ (i j:Nat) (m m':Pm),i≠j->ps[i]?=some m->ps[j]?=some m'->(∀ x ∈ m.own,x ∉ m'.own)/\(m.live->0 < m.level->m'.live->0 < m'.level->m.half≠m'.half)
 room:(A.nodes:Int)=a0/\A.sl.length<=A.nodes
 ents:EntOk V lv ls es
section
variable {a0 a1 a2 a3 a4:Int} {A A' V V':Ar} {ps:List Pm} {m m':Pm} {lv lv':Int} {ls ls':List Ch} {es es':List Ent} {i:Nat} {ix:Int} {n:Nd} {chk:Nd->Int}
theorem mem_ids {x:Int}:x ∈ ids ls ↔ ∃ (j:Nat) (c:Ch) (lw:List UInt8),ls[j]?=some c/\(x,lw) ∈ c:=by
 constructor
 ·intro h
  obtain ⟨⟨y,lw⟩,h1,rfl⟩:=List.mem_map.1 h
  obtain ⟨c,hc,h2⟩:=List.mem_flatten.1 h1
  obtain ⟨j,hj⟩:=mem_at hc
  exact ⟨j,c,lw,hj,h2⟩
 ·rintro ⟨j,c,lw,hj,h⟩
  exact List.mem_map.2 ⟨(x,lw),List.mem_flatten.2 ⟨c,List.mem_of_getElem? hj,h⟩,rfl⟩
theorem InL.ids {L id:Int} {k:List UInt8} (h:InL lv ls L id k):id ∈ Proofs.Ytjcgphhpaenjkaa.ids ls:=by
 obtain ⟨j,c,lw,h1,_,h3,_⟩:=h
 exact mem_ids.2 ⟨j,c,lw,h1,h3⟩
theorem Pend.ids (h:Pend V lv ls m):m.half ∈ Proofs.Ytjcgphhpaenjkaa.ids ls/\m.side ∈ Proofs.Ytjcgphhpaenjkaa.ids ls:=by
 obtain ⟨j,c,h1,_,h3,lw,h4⟩:=h.half
 exact ⟨mem_ids.2 ⟨j,c,_,h1,h3⟩,mem_ids.2 ⟨j,c,_,h1,h4⟩⟩
theorem TrI.far {root:Int} (h:TrI V chk lv root ls) (hf:∀ e ∈ ls.flatten,(V'.get e.1).map Sl.nd=(V.get e.1).map Sl.nd):TrI V' chk lv root ls:=by
 have hin:∀ {j:Nat} {c:Ch} {e:Int × List UInt8},ls[j]?=some c->e ∈ c->e ∈ ls.flatten:=λ hj he=>List.mem_flatten.2 ⟨_,List.mem_of_getElem? hj,he⟩
 refine ⟨h.len,λ c hc=>(h.top c hc).far (λ e he=>hf e (hin hc he)),λ j c d hc hd=>?_⟩
 obtain ⟨g1,g2⟩:=h.chn j c d hc hd
 have hk:firstKid V' c=firstKid V c:=by
  cases c with
  | nil=>rfl
  | cons e r=>show (opNd V' e.1).kids.getD 0 0=_;rw [opNd_far (hf e (hin hc List.mem_cons_self))];rfl
 rw [hk]
 exact ⟨g1.far (λ e he=>hf e (hin hd he)),λ e he=>by rw [opNd_far (hf e (hin hc he))];exact g2 e he⟩
theorem Tv.far {a0 a1 a2:Int} (h:Tv V chk a0 a1 a2 lv ls) (hroot:V'.root=V.root) (hev:∀ s ∈ V'.sl,s.word % 2=0) (hlen:V.sl.length<=V'.sl.length) (hf:∀ e ∈ ls.flatten,(V'.get e.1).map Sl.nd=(V.get e.1).map Sl.nd):Tv V' chk a0 a1 a2 lv ls:=
 ⟨by rw [hroot];exact h.ti.far hf,h.lv0,hev,⟨h.met.1,λ x hx=>⟨(h.met.2 x hx).1,by have:=(h.met.2 x hx).2;omega⟩⟩,h.may,h.two⟩
theorem Tv.ok {a0 a1 a2:Int} (h:Tv V chk a0 a1 a2 lv ls):TreeOk V a0 a1 a2 chk lv ls:=by
 refine ⟨?_,h.lv0,h.even,h.ti.trs ls lv V.root none h.lv0 (λ c _ u hu=>by cases hu),h.met,λ n=>(h.may n).1⟩
 have hlen:=h.ti.len
 have hl0:=h.lv0
 obtain ⟨c,hc⟩:∃ c,ls[0]?=some c:=⟨_,List.getElem?_eq_getElem (by omega)⟩
 obtain ⟨s,_,_,k1,k2,_⟩:=(h.ti.top c hc).at_
 exact ⟨s,k1,k2⟩
theorem entsCh_same {c:Ch} (h:∀ e ∈ c,opNd V' e.1=opNd V e.1):entsCh V' c=entsCh V c:=by
 unfold entsCh
 induction c with
 | nil=>rfl
 | cons e c ih=>
  simp only [List.flatMap_cons]
  rw [h e List.mem_cons_self,ih (λ e he=>h e (List.mem_cons_of_mem _ he))]
theorem DInv.turn (h:DInv a0 a1 a2 a3 a4 A V ps lv ls es) (hm:ps[i]?=some m) (hinv:PInv a1 a2 A' (ps.set i m')) (hvof:VOf A' (ps.set i m') V') (htree:Tv V' (chkM a0 a1 a2 a3 a4) a0 a1 a2 lv' ls') (hme:DEach a1 a2 V' lv' ls' m') (hext:Ext lv ls lv' ls')
  (hids:∀ x ∈ ids ls',x ∈ ids ls\/x ∈ m.own) (hlen:V.sl.length<=V'.sl.length) (hnd:∀ (j:Nat) x,j≠i->ps[j]?=some x->∀ y ∈ x.own,opNd V' y=opNd V y)
  (hkid:∀ (j:Nat) x,j≠i->ps[j]?=some x->x.live->0 < x.level->∀ e ∈ ls'.flatten,x.half ∉ (opNd V' e.1).kids)
  (hown:∀ x ∈ m'.own,x ∈ m.own\/(V.sl.length:Int) < x) (hhalf:m'.live->0 < m'.level->(m.live/\0 < m.level/\m'.half=m.half)\/m'.half ∉ ids ls)
  (hroom:(A'.nodes:Int)=a0/\A'.sl.length<=A'.nodes) (hents:EntOk V' lv' ls' es'):DInv a0 a1 a2 a3 a4 A' V' (ps.set i m') lv' ls' es':=by
 have hoth:∀ (j:Nat) x,j≠i->ps[j]?=some x->DEach a1 a2 V' lv' ls' x:=λ j x hne hj=>by
  have hx:=h.each x (List.mem_of_getElem? hj)
  refine hx.ext hext hlen (λ y hy=>⟨λ hin=>?_,λ _=>hnd j x hne hj y hy⟩) (hkid j x hne hj)
  rcases hids y hin with h1|h1
  ·exact (hx.own y hy).1 h1
  ·exact (h.apart i j m x (Ne.symm hne) hm hj).1 y h1 hy
 have hap:∀ (j:Nat) x,j≠i->ps[j]?=some x->(∀ y ∈ m'.own,y ∉ x.own)/\(m'.live->0 < m'.level->x.live->0 < x.level->m'.half≠x.half):=λ j x hne hj=>by
  have hx:=h.each x (List.mem_of_getElem? hj)
  obtain ⟨p1,p2⟩:=h.apart i j m x (Ne.symm hne) hm hj
  refine ⟨λ y hy hy'=>?_,λ q1 q2 q3 q4 e=>?_⟩
  ·rcases hown y hy with h1|h1
   ·exact p1 y h1 hy'
   ·have:=(hx.own y hy').2.2;omega
  ·rcases hhalf q1 q2 with ⟨r1,r2,r3⟩|h1
   ·exact p2 r1 r2 q3 q4 (r3.symm.trans e)
   ·exact h1 (e▸(hx.pend q3 q4).ids.1)
 refine ⟨hinv,hvof,htree,λ x hx=>?_,λ j k x y hjk hj hk=>?_,hroom,hents⟩
 ·obtain ⟨j,hj⟩:=mem_at hx
  rcases set_at hj hm with ⟨_,rfl⟩|⟨hne,hj⟩
  ·exact hme
  ·exact hoth j x hne hj
 ·rcases set_at hj hm with ⟨e1,e2⟩|⟨hj1,hj2⟩
  ·rcases set_at hk hm with ⟨e3,e4⟩|⟨hk1,hk2⟩
   ·exact absurd (e1.trans e3.symm) hjk
   ·rw [e2];exact hap k y hk1 hk2
  ·rcases set_at hk hm with ⟨e3,e4⟩|⟨hk1,hk2⟩
   ·obtain ⟨p1,p2⟩:=hap j x hj1 hj2
    rw [e4]
    exact ⟨λ z hz hz'=>p1 z hz' hz,λ q1 q2 q3 q4 e=>p2 q3 q4 q1 q2 e.symm⟩
   ·exact h.apart j k x y hjk hj2 hk2
theorem DInv.side (h:DInv a0 a1 a2 a3 a4 A V ps lv ls es) (hm:ps[i]?=some m) (hinv:PInv a1 a2 A' (ps.set i m')) (hvof:VOf A' (ps.set i m') V') (hroot:V'.root=V.root) (hev:∀ s ∈ V'.sl,s.word % 2=0) (hlen:V.sl.length<=V'.sl.length) (hf:∀ x:Int,x<=(V.sl.length:Int)->x ∉ m.own->V'.get x=V.get x)
  (hme:DEach a1 a2 V' lv ls m') (hown:∀ x ∈ m'.own,x ∈ m.own\/(V.sl.length:Int) < x) (hhalf:m'.live->0 < m'.level->m.live/\0 < m.level/\m'.half=m.half) (hroom:(A'.nodes:Int)=a0/\A'.sl.length<=A'.nodes):DInv a0 a1 a2 a3 a4 A' V' (ps.set i m') lv ls es:=by
 have hmm:=h.each m (List.mem_of_getElem? hm)
 have hin:∀ e ∈ ls.flatten,V'.get e.1=V.get e.1:=λ e he=>by
  have hx:e.1 ∈ ids ls:=List.mem_map.2 ⟨e,he,rfl⟩
  exact hf e.1 (h.tree.met.2 _ hx).2 (λ ho=>(hmm.own _ ho).1 hx)
 have hnd:∀ e ∈ ls.flatten,opNd V' e.1=opNd V e.1:=λ e he=>by unfold opNd;rw [hin e he]
 refine h.turn hm hinv hvof (h.tree.far hroot hev hlen (λ e he=>by rw [hin e he])) hme Ext.refl (λ x hx=>.inl hx) hlen (λ j x hne hj y hy=>?_) (λ j x hne hj q1 q2 e he=>?_) hown (λ q1 q2=>.inl (hhalf q1 q2)) hroom (λ c hc=>?_)
 ·have hx:=h.each x (List.mem_of_getElem? hj)
  unfold opNd
  rw [hf y (hx.own y hy).2.2 (λ ho=>(h.apart i j m x (Ne.symm hne) hm hj).1 y ho hy)]
 ·rw [hnd e he]
  exact ((h.each x (List.mem_of_getElem? hj)).pend q1 q2).kid e he
 ·rw [entsCh_same (λ e he=>hnd e (List.mem_flatten.2 ⟨c,List.mem_of_getElem? hc,he⟩))]
  exact h.ents c hc
end
structure POk (A:Ar) (m:Pm):Prop where
 low:∀ d,m.D=some d->d.low
 lev:0<=m.level/\m.level < 9223372036854775807
 des:m.nx=1->∃ d,m.D=some d
 way:m.nx=2\/m.nx=6->∃ d,m.D=some d
 key:m.nx≠0->m.nx≠20->m.sep.length<=64/\m.key.length<=64/\m.val.length<=256
 lock:m.nx=2->(opLock A m.id m.word).2.1=0/\((opLock A m.id m.word).1=true->right m.old=true/\Few 6 m.old/\m.old.lvl=m.level)
 body:m.nx=3->(opSetBody A m.id m.nw).1=0/\Few 7 m.nw
 gives:m.nx=4\/m.nx=5\/m.nx=7->(opUnlock A m.id (decide (m.nx=4))).1=0
 slot:m.nx=6->right m.nw=true/\Few 7 m.nw
 s8:m.nx=8->(opSetHead A m.fresh m.right).1=0/\Few 7 m.right
 s9:m.nx=9->(opSetBody A m.fresh m.right).1=0/\Few 7 m.right
 s10:m.nx=10->(opUnlock A m.fresh true).1=0
 s11:m.nx=11->(opSetHead A m.id m.left).1=0/\Few 7 m.left
 s12:m.nx=12->(opSetBody A m.id m.left).1=0/\Few 7 m.left
 s13:m.nx=13->(opUnlock A m.id true).1=0/\m.btw.length<=64
 s16:m.nx=16->(opSetHead A m.root (rootNd m)).1=0
 s17:m.nx=17->(opSetBody A m.root (rootNd m)).1=0
 s18:m.nx=18->(opUnlock A m.root true).1=0
section
variable {A:Ar} {ps:List Pm} {m:Pm} {i:Nat} {leaf inner:Int} {ix:Int} {s:Sl}
theorem odd_unlock {c:Bool} (hs:A.get ix=some s) (ho:s.word % 2=1):(opUnlock A ix c).1=0:=by unfold opUnlock;rw [hs];simp only;rw [if_neg (by omega)]
theorem odd_head {n:Nd} (hs:A.get ix=some s) (ho:s.word % 2=1):(opSetHead A ix n).1=0:=by unfold opSetHead;rw [hs];simp only;rw [if_neg (by omega)]
theorem odd_body {n:Nd} (hs:A.get ix=some s) (ho:s.word % 2=1):(opSetBody A ix n).1=0:=by unfold opSetBody;rw [hs];simp only;rw [if_neg (by omega)]
theorem PInv.ok (h:PInv leaf inner A ps) (hm:m ∈ ps) (hlow:∀ d,m.D=some d->d.low) (hl:m.level < 9223372036854775807):POk A m:=by
 have he:=h.each m hm
 have hl0:0<=m.level:=he.2.1
 have hk:=λ h1 h2=>(he.2.2.1 h1 h2)
 have hs64:=he.1
 have hid:=λ (h1:3<=m.nx) (h2:m.nx<=13)=>h.held m hm m.id (holds_id h1 h2)
 have hfr:=λ (h1:8<=m.nx) (h2:m.nx<=10)=>h.held m hm m.fresh (holds_fresh h1 h2)
 have hrt:=λ (h1:16<=m.nx) (h2:m.nx<=18)=>h.held m hm m.root (holds_root h1 h2)
 have hc:=he.2.2.2
 refine ⟨hlow,⟨hl0,hl⟩,λ hx=>?_,λ hx=>?_,λ h1 h2=>⟨hs64 h1 h2,(hk h1 h2).1,(hk h1 h2).2.1⟩,λ hx=>?_,λ hx=>?_,λ hx=>?_,λ hx=>?_,λ hx=>?_,λ hx=>?_,λ hx=>?_,λ hx=>?_,λ hx=>?_,λ hx=>?_,λ hx=>?_,λ hx=>?_,λ hx=>?_⟩
 ·exact (hk (by omega) (by omega)).2.2
 ·exact (hk (by omega) (by omega)).2.2
 ·rw [hx] at hc
  obtain ⟨d,hd,hdn,hdt,hdl,e1,e2,e3⟩:=hc
  have hok:=h.desc m hm d hd
  obtain ⟨s,hs,hle,hev⟩:=hok.here (.inr (.inr (.inr ⟨hdn,hdt⟩)))
  rw [<-e1] at hs
  rw [<-e2] at hle hev
  rw [opLock_some hs]
  by_cases hw:s.word=m.word
  ·rw [if_pos ⟨hw,hev⟩]
   refine ⟨rfl,λ _=>?_⟩
   have hold:m.old=s.nd:=by
    have:=hok.all (.inr ⟨hdn,hdt⟩) ⟨s,by rw [<-e1];exact hs,.inl (by rw [<-e2];exact hw)⟩
    rw [e3,this,<-e1,opNd_some hs]
   obtain ⟨hr,hf6⟩:=h.free m.id s hs (by rw [hw];exact hev)
   exact ⟨by rw [hold];exact hr,by rw [hold];exact hf6,by rw [e3,hok.lvl hdt,hdl]⟩
  ·rw [if_neg (λ h=>hw h.1)]
   exact ⟨rfl,λ h=>by cases h⟩
 ·obtain ⟨s,hs,ho⟩:=hid (by omega) (by omega)
  rw [hx] at hc
  exact ⟨odd_body hs ho,hc.2.2.1.mono (by decide)⟩
 ·obtain ⟨s,hs,ho⟩:=hid (by omega) (by omega)
  exact odd_unlock hs ho
 ·rw [hx] at hc
  exact ⟨hc.2.1,hc.2.2.1⟩
 ·obtain ⟨s,hs,ho⟩:=hfr (by omega) (by omega)
  rw [hx] at hc
  exact ⟨odd_head hs ho,hc.2.2.1.2.mono (by decide)⟩
 ·obtain ⟨s,hs,ho⟩:=hfr (by omega) (by omega)
  rw [hx] at hc
  exact ⟨odd_body hs ho,hc.2.1.2.1.2.mono (by decide)⟩
 ·obtain ⟨s,hs,ho⟩:=hfr (by omega) (by omega)
  exact odd_unlock hs ho
 ·obtain ⟨s,hs,ho⟩:=hid (by omega) (by omega)
  rw [hx] at hc
  exact ⟨odd_head hs ho,hc.2.1.2.mono (by decide)⟩
 ·obtain ⟨s,hs,ho⟩:=hid (by omega) (by omega)
  rw [hx] at hc
  exact ⟨odd_body hs ho,hc.1.1.2.mono (by decide)⟩
 ·obtain ⟨s,hs,ho⟩:=hid (by omega) (by omega)
  rw [hx] at hc
  exact ⟨odd_unlock hs ho,hc.1.2.2.1⟩
 ·obtain ⟨s,hs,ho⟩:=hrt (by omega) (by omega)
  exact odd_head hs ho
 ·obtain ⟨s,hs,ho⟩:=hrt (by omega) (by omega)
  exact odd_body hs ho
 ·obtain ⟨s,hs,ho⟩:=hrt (by omega) (by omega)
  exact odd_unlock hs ho
end
section
variable {leaf inner:Int} {A:Ar} {m:Pm} {d:Mc}
theorem stepP_0 (hx:m.nx=0):stepP leaf inner A m=((true,true),A,m.ends 3):=by unfold stepP;simp only [hx]
theorem stepP_1a (hx:m.nx=1) (hd:m.D=some d) (hn:¬(stepM A d).nx=.done):stepP leaf inner A m=((false,false),A,{m with D:=some (stepM A d)}):=by
 have e:stepP leaf inner A m=downP A m:=by unfold stepP;simp only [hx]
 rw [e];unfold downP;rw [hd];simp only;rw [if_neg hn];rfl
theorem stepP_1 (hx:m.nx=1) (hd:m.D=some d) (hn:(stepM A d).nx=.done):stepP leaf inner A m =
  if (0:Int) < (stepM A d).outId then ((false,false),A,{m with D:=some (stepM A d),id:=(stepM A d).outId,word:=(stepM A d).outWord,old:=(stepM A d).outNd,nx:=2})
  else if (0:Int) < m.level then ((false,false),A,{m with D:=some (stepM A d),id:=(stepM A d).outId,word:=(stepM A d).outWord,old:=(stepM A d).outNd,nx:=14})
  else ((true,false),A,({m with D:=some (stepM A d),id:=(stepM A d).outId,word:=(stepM A d).outWord,old:=(stepM A d).outNd}:Pm).ends 101):=by
 have e:stepP leaf inner A m=downP A m:=by unfold stepP;simp only [hx]
 rw [e];unfold downP;rw [hd];simp only;rw [if_pos hn];rfl
theorem stepP_2 (hx:m.nx=2) (h:(opLock A m.id m.word).2.1=0):stepP leaf inner A m =
  if (opLock A m.id m.word).1=false then ((false,false),(opLock A m.id m.word).2.2,m.goes)
  else if m.level=0 then ((false,false),(opLock A m.id m.word).2.2,{m with there:=has m.old.keys m.sep,nw:=newP m,nx:=if over (newP m) leaf inner then 6 else 3})
  else if has m.old.keys m.sep then ((false,false),(opLock A m.id m.word).2.2,{m with nx:=5})
  else ((false,false),(opLock A m.id m.word).2.2,{m with nw:=newP m,nx:=if over (newP m) leaf inner then 6 else 3}):=by
 have e:stepP leaf inner A m=lockP leaf inner A m:=by unfold stepP;simp only [hx]
 rw [e];unfold lockP;simp only [h,ne_eq,not_true_eq_false,if_false];rfl
theorem stepP_6 (hx:m.nx=6):stepP leaf inner A m =
  if (opAlloc A).2.1≠0 then ((false,false),(opAlloc A).2.2,{m with nx:=7})
  else ((false,false),(opAlloc A).2.2,{m with fresh:=(opAlloc A).1,left:=spL m.nw (opAlloc A).1,right:=spR m.nw,btw:=spK m.nw,nx:=8}):=by
 have e:stepP leaf inner A m=slotP A m:=by unfold stepP;simp only [hx]
 rw [e];unfold slotP;simp only [hx];rw [if_neg (λ h=>absurd h.1 (by decide)),if_neg (by decide)];rfl
theorem stepP_15 (hx:m.nx=15):stepP leaf inner A m =
  if (opAlloc A).2.1≠0 then ((true,false),(opAlloc A).2.2,m.ends 0)
  else ((false,false),(opAlloc A).2.2,{m with root:=(opAlloc A).1,nx:=16}):=by
 have e:stepP leaf inner A m=slotP A m:=by unfold stepP;simp only [hx]
 rw [e];unfold slotP;simp only [hx,true_and,if_true]
 by_cases h:(opAlloc A).2.1=0
 ·rw [if_neg (λ hh=>hh h),if_neg (λ hh=>hh h)];rfl
 ·rw [if_pos h,if_pos h]
theorem stepP_4 (hx:m.nx=4) (h:(opUnlock A m.id true).1=0):stepP leaf inner A m=((true,decide (m.level=0)),(opUnlock A m.id true).2,m.ends 0):=by
 have e:stepP leaf inner A m=givesP A m:=by unfold stepP;simp only [hx]
 rw [e];unfold givesP;simp only [hx,decide_true,h,ne_eq,not_true_eq_false,if_false];rw [if_neg (by omega)]
theorem stepP_5 (hx:m.nx=5) (h:(opUnlock A m.id false).1=0):stepP leaf inner A m=((true,decide (m.level=0)),(opUnlock A m.id false).2,m.ends 0):=by
 have e:stepP leaf inner A m=givesP A m:=by unfold stepP;simp only [hx]
 have h5:decide ((5:Nat)=4)=false:=rfl
 rw [e];unfold givesP;simp only [hx,h5,h,ne_eq,not_true_eq_false,if_false];rw [if_neg (by omega)]
theorem stepP_7 (hx:m.nx=7) (h:(opUnlock A m.id false).1=0):stepP leaf inner A m=if m.level=0 then ((true,true),(opUnlock A m.id false).2,m.ends 2) else ((true,false),(opUnlock A m.id false).2,m.ends 0):=by
 have e:stepP leaf inner A m=givesP A m:=by unfold stepP;simp only [hx]
 have h5:decide ((7:Nat)=4)=false:=rfl
 rw [e];unfold givesP;simp only [hx,h5,h,ne_eq,not_true_eq_false,if_false,true_and]
 by_cases hl:m.level=0
 ·rw [if_pos hl,if_pos hl]
 ·rw [if_neg hl,if_neg hl,decide_eq_false hl]
theorem stepP_13 (hx:m.nx=13) (h:(opUnlock A m.id true).1=0):stepP leaf inner A m=((false,decide (m.level=0)),(opUnlock A m.id true).2,({m with side:=m.id,half:=m.fresh,sep:=m.btw,level:=m.level+1}:Pm).goes):=by
 unfold stepP;simp only [hx,h,ne_eq,not_true_eq_false,if_false]
theorem stepP_14 (hx:m.nx=14):stepP leaf inner A m=if A.root≠m.side then ((true,false),A,m.ends 0) else ((false,false),A,{m with nx:=15}):=by
 unfold stepP;simp only [hx];rfl
theorem stepP_19 (hx:m.nx=19):stepP leaf inner A m=if (opGrow A m.side m.root).1=true\/(opGrow A m.side m.root).2.1≠0 then ((true,false),(opGrow A m.side m.root).2.2,m.ends (opGrow A m.side m.root).2.1) else ((false,false),(opGrow A m.side m.root).2.2,m.goes):=by
 unfold stepP;simp only [hx];rfl
theorem stepP_3 (hx:m.nx=3) (h:(opSetBody A m.id m.nw).1=0):stepP leaf inner A m=((false,false),(opSetBody A m.id m.nw).2,{m with nx:=4}):=by
 unfold stepP;simp only [hx,onP,h,if_true];rfl
theorem stepP_8 (hx:m.nx=8) (h:(opSetHead A m.fresh m.right).1=0):stepP leaf inner A m=((false,false),(opSetHead A m.fresh m.right).2,{m with nx:=9}):=by
 unfold stepP;simp only [hx,onP,h,if_true];rfl
theorem stepP_9 (hx:m.nx=9) (h:(opSetBody A m.fresh m.right).1=0):stepP leaf inner A m=((false,false),(opSetBody A m.fresh m.right).2,{m with nx:=10}):=by
 unfold stepP;simp only [hx,onP,h,if_true];rfl
theorem stepP_10 (hx:m.nx=10) (h:(opUnlock A m.fresh true).1=0):stepP leaf inner A m=((false,false),(opUnlock A m.fresh true).2,{m with nx:=11}):=by
 unfold stepP;simp only [hx,onP,h,if_true];rfl
theorem stepP_11 (hx:m.nx=11) (h:(opSetHead A m.id m.left).1=0):stepP leaf inner A m=((false,false),(opSetHead A m.id m.left).2,{m with nx:=12}):=by
 unfold stepP;simp only [hx,onP,h,if_true];rfl
theorem stepP_12 (hx:m.nx=12) (h:(opSetBody A m.id m.left).1=0):stepP leaf inner A m=((false,false),(opSetBody A m.id m.left).2,{m with nx:=13}):=by
 unfold stepP;simp only [hx,onP,h,if_true];rfl
theorem stepP_16 (hx:m.nx=16) (h:(opSetHead A m.root (rootNd m)).1=0):stepP leaf inner A m=((false,false),(opSetHead A m.root (rootNd m)).2,{m with nx:=17}):=by
 unfold stepP;simp only [hx,onP,h,if_true];rfl
theorem stepP_17 (hx:m.nx=17) (h:(opSetBody A m.root (rootNd m)).1=0):stepP leaf inner A m=((false,false),(opSetBody A m.root (rootNd m)).2,{m with nx:=18}):=by
 unfold stepP;simp only [hx,onP,h,if_true];rfl
theorem stepP_18 (hx:m.nx=18) (h:(opUnlock A m.root true).1=0):stepP leaf inner A m=((false,false),(opUnlock A m.root true).2,{m with nx:=19}):=by
 unfold stepP;simp only [hx,onP,h,if_true];rfl
end
section
variable {a0 a1 a2 a3 a4 leaf inner:Int} {A A' V V':Ar} {ps:List Pm} {m m':Pm} {lv lv':Int} {ls ls':List Ch} {es es':List Ent} {i:Nat} {ix:Int} {n:Nd} {d:Mc}
theorem DInv.quiet (h:DInv a0 a1 a2 a3 a4 A V ps lv ls es) (hm:ps[i]?=some m) (hinv:PInv a1 a2 A' (ps.set i m')) (hroot:A'.root=A.root) (hlen:A'.sl.length=A.sl.length) (hnodes:A'.nodes=A.nodes)
  (hg:∀ ix,m'.grips ix->opNd V ix=m'.old) (hnd:∀ ix,¬m.grips ix->¬m'.grips ix->opNd A' ix=opNd A ix) (hrel:∀ ix,m.grips ix->¬m'.grips ix->opNd A' ix=opNd V ix)
  (hme:DEach a1 a2 V lv ls m') (hown:∀ x ∈ m'.own,x ∈ m.own) (hhalf:m'.live->0 < m'.level->m.live/\0 < m.level/\m'.half=m.half):DInv a0 a1 a2 a3 a4 A' V (ps.set i m') lv ls es:=by
 refine h.side hm hinv (h.vof.turn hm (hroot.trans h.vof.root) (h.vof.len.trans hlen.symm) hg (λ _ _ _ _ _ _=>rfl) (λ ix h1 h2=>?_)) rfl h.tree.even (Nat.le_refl _) (λ _ _ _=>rfl) hme (λ x hx=>.inl (hown x hx)) hhalf ⟨by rw [hnodes];exact h.room.1,by rw [hlen,hnodes];exact h.room.2⟩
 by_cases hq:m.grips ix
 ·exact (hrel ix hq h1).symm
 ·rw [hnd ix hq h1]
  refine h.vof.free ix (λ x hx=>?_)
  obtain ⟨j,hj⟩:=mem_at hx
  by_cases e:j=i
  ·subst e;rw [hm] at hj;cases hj;exact hq
  ·exact h2 j x e hj
theorem noown {P:Int->Prop} (h:m.nx<=7\/m.nx=14\/m.nx=15\/20<=m.nx):∀ x ∈ m.own,P x:=λ x hx=>by rw [own_no h] at hx;cases hx
theorem DEach.through (hx:m.nx=20):DEach leaf inner V lv ls m:=
 ⟨λ h=>absurd hx h.2,λ h=>absurd hx h.2,λ h=>by omega,λ _ h=>by omega,λ h=>by omega,λ _ h=>by omega,noown (by omega),λ _ h=>by omega,λ h=>by omega⟩
theorem nogrip_of (h:m.nx<=2\/14<=m.nx):∀ ix,¬m.grips ix:=λ ix hg=>by have:=hg.1;omega
theorem DInv.ends (h:DInv a0 a1 a2 a3 a4 A V ps lv ls es) (hm:ps[i]?=some m) (hx:m.nx<=2\/14<=m.nx) (hm':m'.nx=20) (hinv:PInv a1 a2 A (ps.set i m')):DInv a0 a1 a2 a3 a4 A V (ps.set i m') lv ls es:=
 h.quiet hm hinv rfl rfl rfl (λ ix hg=>absurd hg (nogrip_of (by omega) ix)) (λ _ _ _=>rfl) (λ ix hg=>absurd hg (nogrip_of hx ix)) (DEach.through hm') (noown (by omega)) (λ hl=>absurd hm' hl.2)
theorem DEach.goes (h:DEach leaf inner V lv ls m) (hl:m.live):DEach leaf inner V lv ls m.goes:=by
 obtain ⟨k1,k2,k3,k4⟩:=h.key hl
 have hlive:m.goes.live:=⟨by show (1:Nat)≠0;decide,by show (1:Nat)≠20;decide⟩
 refine ⟨λ _=>⟨k1,k2,k3,k4⟩,λ _ h0=>?_,λ _=>⟨_,rfl,DesOk.new _ k3,rfl,rfl⟩,λ h1=>by have h2:2<=1:=h1;omega,λ h1=>by have h2:(1:Nat)=3\/(1:Nat)=4\/(6<=1/\1<=13):=h1;omega,λ h1=>by have h2:8<=1:=h1;omega,λ x hx=>?_,λ h1=>by have h2:11<=1:=h1;omega,λ h1=>by have h2:(1:Nat)=19:=h1;omega⟩
 ·obtain ⟨p1,p2,p3⟩:=h.pend hl h0
  exact ⟨p1,p2,p3⟩
 ·rw [own_no (m:=m.goes) (.inl (by show 1<=7;decide))] at hx;cases hx
theorem DInv.goes (h:DInv a0 a1 a2 a3 a4 A V ps lv ls es) (hm:ps[i]?=some m) (hx:m.nx<=2\/14<=m.nx) (hl:m.live) (hinv:PInv a1 a2 A (ps.set i m.goes)):DInv a0 a1 a2 a3 a4 A V (ps.set i m.goes) lv ls es:=
 h.quiet hm hinv rfl rfl rfl (λ ix hg=>absurd hg (nogrip_of (.inl (by show 1<=2;decide)) ix)) (λ _ _ _=>rfl) (λ ix hg=>absurd hg (nogrip_of hx ix)) ((h.each m (List.mem_of_getElem? hm)).goes hl) (noown (.inl (by show 1<=7;decide))) (λ _ h0=>⟨hl,h0,rfl⟩)
theorem DInv.cur (h:DInv a0 a1 a2 a3 a4 A V ps lv ls es) (hm:m ∈ ps) (hD:m.D=some d) (hx:d.nx=.valid\/(d.nx=.done/\d.there=true)) {s:Sl} (hs:A.get d.id=some s) (hw:s.word=d.word):d.nd=s.nd/\opNd V d.id=s.nd:=by
 have hd:=h.inv.desc m hm d hD
 obtain ⟨_,_,_,he⟩:=hd.here (by unfold Mc.read;rcases hx with hx|hx;exact .inr (.inr (.inl hx));exact .inr (.inr (.inr hx)))
 have hA:opNd A d.id=s.nd:=by unfold opNd;rw [hs]
 exact ⟨(hd.all hx ⟨s,hs,.inl hw⟩).trans hA,(h.vof.free _ (h.inv.nogrip hs (by omega))).trans hA⟩
theorem DInv.desStep (h:DInv a0 a1 a2 a3 a4 A V ps lv ls es) (hm:m ∈ ps) (hD:m.D=some d) (hd:DesOk lv ls d):DesOk lv ls (stepM A d):=by
 refine hd.step h.tree h.vof.root (λ hx he hw=>?_) (h.inv.desc m hm d hD).th
 cases hs:A.get d.id with
 | none=>unfold opErr at he;rw [hs] at he;cases he
 | some s=>
  have h1:=h.cur hm hD (.inl hx) hs (by unfold opWord at hw;rw [hs] at hw;exact hw)
  exact h1.1.trans h1.2.symm
theorem DInv.step1 (h:DInv a0 a1 a2 a3 a4 A V ps lv ls es) (hm:ps[i]?=some m) (hx:m.nx=1) (hk:Kept a1 a2 A ps i m):DInv a0 a1 a2 a3 a4 (stepP a1 a2 A m).2.1 V (ps.set i (stepP a1 a2 A m).2.2) lv ls es:=by
 have hmm:=List.mem_of_getElem? hm
 have hE:=h.each m hmm
 obtain ⟨d,hD,hd,hdk,hdl⟩:=hE.des hx
 have hl:m.live:=⟨by omega,by omega⟩
 obtain ⟨k1,k2,k3,k4⟩:=hE.key hl
 have hd':=h.desStep hmm hD hd
 have hk':PInv a1 a2 (stepP a1 a2 A m).2.1 (ps.set i (stepP a1 a2 A m).2.2):=hk
 have hsame:∀ (m':Pm),m'.nx<=2\/14<=m'.nx->∀ ix,¬m'.grips ix:=λ m' h=>nogrip_of h
 by_cases hn:(stepM A d).nx=.done
 ·rw [stepP_1 hx hD hn] at hk' ⊢
  by_cases c1:(0:Int) < (stepM A d).outId
  ·rw [if_pos c1] at hk' ⊢
   have ht:(stepM A d).there=true:=by
    cases ht:(stepM A d).there with
    | true=>rfl
    | false=>unfold Mc.outId at c1;rw [ht] at c1;simp at c1
   obtain ⟨q1,q2⟩:=hd'.2.2 hn ht
   rw [stepM_level,stepM_key,hdl,hdk] at q1
   rw [stepM_key,hdk] at q2
   refine h.quiet hm hk' rfl rfl rfl (λ ix hg=>absurd hg (hsame _ (.inl (Nat.le_refl _)) ix)) (λ _ _ _=>rfl) (λ ix hg=>absurd hg (nogrip_of (by omega) ix)) ?_ (noown (.inl (by show 2<=7;decide))) (λ _ h0=>⟨hl,h0,rfl⟩)
   refine ⟨λ _=>⟨k1,k2,k3,k4⟩,λ _ h0=>?_,λ h1=>by have h2:(2:Nat)=1:=h1;omega,λ _ _=>⟨?_,?_⟩,λ h1=>by have h2:(2:Nat)=3\/(2:Nat)=4\/(6<=2/\2<=13):=h1;omega,λ h1=>by have h2:8<=2:=h1;omega,noown (.inl (by show 2<=7;decide)),λ h1=>by have h2:11<=2:=h1;omega,λ h1=>by have h2:(2:Nat)=19:=h1;omega⟩
   ·obtain ⟨p1,p2,p3⟩:=hE.pend hl h0
    exact ⟨p1,p2,p3⟩
   ·show InL lv ls m.level (stepM A d).outId m.sep
    unfold Mc.outId;rw [ht];exact q1
   ·show beyond (stepM A d).outNd.high m.sep=false
    unfold Mc.outNd;rw [ht];exact q2
  ·rw [if_neg c1] at hk' ⊢
   by_cases c2:(0:Int) < m.level
   ·rw [if_pos c2] at hk' ⊢
    refine h.quiet hm hk' rfl rfl rfl (λ ix hg=>absurd hg (hsame _ (.inr (Nat.le_refl _)) ix)) (λ _ _ _=>rfl) (λ ix hg=>absurd hg (nogrip_of (by omega) ix)) ?_ (noown (.inr (.inl rfl))) (λ _ h0=>⟨hl,h0,rfl⟩)
    refine ⟨λ _=>⟨k1,k2,k3,k4⟩,λ _ h0=>?_,λ h1=>by have h2:(14:Nat)=1:=h1;omega,λ _ h1=>by have h2:14<=13:=h1;omega,λ h1=>by have h2:(14:Nat)=3\/(14:Nat)=4\/(6<=14/\14<=13):=h1;omega,λ _ h1=>by have h2:14<=13:=h1;omega,noown (.inr (.inl rfl)),λ _ h1=>by have h2:14<=13:=h1;omega,λ h1=>by have h2:(14:Nat)=19:=h1;omega⟩
    obtain ⟨p1,p2,p3⟩:=hE.pend hl h0
    exact ⟨p1,p2,p3⟩
   ·rw [if_neg c2] at hk' ⊢
    exact h.ends hm (by omega) rfl hk'
 ·rw [stepP_1a hx hD hn] at hk' ⊢
  refine h.quiet hm hk' rfl rfl rfl (λ ix hg=>absurd hg (hsame _ (.inl (by show m.nx<=2;omega)) ix)) (λ _ _ _=>rfl) (λ ix hg=>absurd hg (nogrip_of (by omega) ix)) ?_ (noown (.inl (by show m.nx<=7;omega))) (λ _ h0=>⟨hl,h0,rfl⟩)
  refine ⟨λ _=>⟨k1,k2,k3,k4⟩,λ _ h0=>?_,λ _=>⟨_,rfl,hd',(stepM_key A d).trans hdk,(stepM_level A d).trans hdl⟩,λ h1=>by have h2:2<=m.nx:=h1;omega,λ h1=>by have h2:m.nx=3\/m.nx=4\/(6<=m.nx/\m.nx<=13):=h1;omega,λ h1=>by have h2:8<=m.nx:=h1;omega,noown (.inl (by show m.nx<=7;omega)),λ h1=>by have h2:11<=m.nx:=h1;omega,λ h1=>by have h2:m.nx=19:=h1;omega⟩
  obtain ⟨p1,p2,p3⟩:=hE.pend hl h0
  exact ⟨p1,p2,p3⟩
end
end Go.Proofs.Ytjcgphhpaenjkaa

import Derived.Test.YtjcgphhpaenjkaaPkE4
set_option maxHeartbeats 64000000
set_option linter.unusedVariables false
namespace Go.Proofs.Ytjcgphhpaenjkaa
open Go.RowKit
def bs (m:Pm):Nat:=if m.level=0 then 1 else 2
def Kq (A:Ar) (m:Pm):Prop:=match m.nx with
 | 0|4|18|19|20=>sumS Kd A.sl+1=A.sl.length
 | 5|7=>False
 | 8|9=>sumS Kd A.sl+bs m+1=A.sl.length
 | 10|11|12=>sumS Kd A.sl+bs m+1=A.sl.length+m.right.kids.length
 | 13=>sumS Kd A.sl+2=A.sl.length
 | 16|17=>sumS Kd A.sl+3=A.sl.length
 | _=>sumS Kd A.sl+bs m=A.sl.length
def Lz (j:Nat) (m:Pm):Nat:=j+1+(if 0 < m.level\/(8<=m.nx/\m.nx<=13)\/m.nx=20 then 1 else 0)+(if (m.nx=8/\0 < m.level)\/m.nx=16 then 1 else 0)
structure Cn (j:Nat) (A:Ar) (m:Pm):Prop where
 kids:Kq A m
 lvs:sumS Lf A.sl<=Lz j m
 root:(opNd A A.root).right=0\/(0 < m.level/\m.side=A.root/\m.nx≠20)\/(12<=m.nx/\m.nx<=13/\m.id=A.root)
 f8:m.nx=8->opNd A m.fresh=Nd.zero
 f9:m.nx=9->(opNd A m.fresh).kids=[]
 r16:m.nx=16->opNd A m.root=Nd.zero
 r17:m.nx=17->(opNd A m.root).kids=[]
 o12:m.nx=12->(opNd A m.id).kids=m.old.kids
section
variable {a0 a1 a2 a3 a4:Int} {A A' V:Ar} {ps:List Pm} {m m':Pm} {lv:Int} {ls:List Ch} {es:List Ent} {j:Nat} {n:Nd} {x:Int}
theorem Cn.of (h1:Kq A m) (h2:sumS Lf A.sl<=Lz j m) (h3:(opNd A A.root).right=0\/(0 < m.level/\m.side=A.root/\m.nx≠20)\/(12<=m.nx/\m.nx<=13/\m.id=A.root)) (h:m.nx≠8/\m.nx≠9/\m.nx≠16/\m.nx≠17/\m.nx≠12):Cn j A m:=
 ⟨h1,h2,h3,λ e=>absurd e h.1,λ e=>absurd e h.2.1,λ e=>absurd e h.2.2.1,λ e=>absurd e h.2.2.2.1,λ e=>absurd e h.2.2.2.2⟩
theorem spl_kids (hk:n.lvl=0->n.kids=[]):(spL n x).kids.length+(spR n).kids.length=n.kids.length:=by
 unfold spL spR
 by_cases hb:spBad n
 ·rw [if_pos hb,if_pos hb];simp [Nd.zero]
 ·rw [if_neg hb,if_neg hb]
  by_cases hl:n.lvl=0
  ·rw [if_pos hl,if_pos hl];simp [hk hl]
  ·rw [if_neg hl,if_neg hl]
   simp only [List.length_take,List.length_drop];omega
theorem jnd_kids_ {k:List UInt8} {kid:Int} (h:has n.keys k=false):(jnd n k kid).kids.length=n.kids.length+1:=by
 unfold jnd
 rw [h]
 simp only [Bool.false_eq_true,if_false,ins,List.length_append,List.length_take,List.length_cons,List.length_drop]
 omega
theorem eq_of {a b c d:Nat} (h:a+c=b+d) (e:d=c):a=b:=by omega
theorem lf_le (n:Nd):Lf n<=1:=by unfold Lf;split<;>omega
theorem lf_same {n':Nd} (h:n'.lvl=n.lvl):Lf n'=Lf n:=by unfold Lf;rw [h]
theorem ln1:j+1<=Lz j m:=by unfold Lz;omega
theorem ln2 (h:0 < m.level\/(8<=m.nx/\m.nx<=13)\/m.nx=20):j+2<=Lz j m:=by unfold Lz;rw [if_pos h];omega
theorem ln3 (h:(8<=m.nx/\m.nx<=13)\/0 < m.level) (h2:(m.nx=8/\0 < m.level)\/m.nx=16):j+3<=Lz j m:=by unfold Lz;rw [if_pos (by rcases h with h|h;exact .inr (.inl h);exact .inl h),if_pos h2];omega
theorem nx_far (h:m.nx<=7\/m.nx=20):m.nx≠8/\m.nx≠9/\m.nx≠16/\m.nx≠17/\m.nx≠12:=by omega
theorem Cn.step (h:Cn j A m) (hD:DInv a0 a1 a2 a3 a4 A V ps lv ls es) (hm:m ∈ ps) (ok:POk A m) (hn:m.nx<=20) (h1:2<=a1) (h2:3<=a2) (hroom:m.nx=6\/m.nx=15->A.sl.length < A.nodes)
  (hlock:m.nx=2->A.get m.id=some ⟨m.word,m.old⟩/\m.word % 2=0/\(0 < m.level->has m.old.keys m.sep=false)) (htop:m.nx=14\/m.nx=19->A.root=m.side) (h00:m.nx=0->m.level=0):Cn j (stepP a1 a2 A m).2.1 (stepP a1 a2 A m).2.2:=by
 obtain ⟨hK,hL,hR,g8,g9,g16,g17,g12⟩:=h
 have hl0:=ok.lev.1
 have hE:=hD.each m hm
 have hP:=(hD.inv.each m hm).2.2.2
 have hlen:=hD.vof.len
 have hlive:m.nx≠0->m.nx≠20->m.live:=λ q1 q2=>⟨q1,q2⟩
 have hrootin:A.root ∈ ids ls:=by
  obtain ⟨c0,hc0⟩:∃ c0,ls[0]?=some c0:=⟨_,List.getElem?_eq_getElem (by have:=hD.tree.ti.len;have:=hD.tree.lv0;omega)⟩
  obtain ⟨r,e⟩:=(hD.tree.ti.top c0 hc0).head_
  rw [hD.vof.root]
  exact mem_ids.2 ⟨0,c0,[],hc0,by rw [e];exact List.mem_cons_self⟩
 have hslot:∀ ix ∈ m.holds,∃ s,A.get ix=some s/\s.word % 2=1:=λ ix hi=>hD.inv.held m hm ix hi
 have hnew:3<=m.nx->m.nx<=13->May (newP m) a0 (a1+1) (a2+1)/\(newP m).lvl=m.level:=λ q1 q2=>by
  obtain ⟨jj,c,lw,hg⟩:=hD.grip hm q1 q2
  obtain ⟨w1,w2,_⟩:=hD.newMay hm q1 q2 (hE.at_ (by omega) q2).2 hg
  exact ⟨w1,w2.trans hg.olvl⟩
 have hold:3<=m.nx->m.nx<=13->m.old.lvl=m.level:=λ q1 q2=>by
  obtain ⟨jj,c,lw,hg⟩:=hD.grip hm q1 q2
  exact hg.olvl
 have hbs:bs m=1/\m.level=0\/bs m=2/\0 < m.level:=by unfold bs;split<;>omega
 have hnk:m.nx=3\/m.nx=4\/(6<=m.nx/\m.nx<=13)->m.nw.kids.length+1=m.old.kids.length+bs m:=λ q=>by
  obtain ⟨e1,e2,_⟩:=hE.nw q
  rw [e1]
  unfold newP
  rcases hbs with ⟨b1,b2⟩|⟨b1,b2⟩
  ·rw [if_pos b2,b1,wth_hd.2.2.2]
  ·rw [if_neg (by omega),b1,jnd_kids_ (e2 b2)]
 have hhl:8<=m.nx->m.nx<=13->m.left.lvl=m.level/\m.right.lvl=m.level/\m.left.kids.length+m.right.kids.length=m.nw.kids.length:=λ q1 q2=>by
  obtain ⟨e1,e2,_,e4⟩:=hE.nw (.inr (.inr ⟨by omega,q2⟩))
  obtain ⟨e5,e6,_⟩:=hE.halves q1 q2
  obtain ⟨w1,w2⟩:=hnew (by omega) q2
  rw [<-e1] at w1 w2
  have H:=halves_ok (lw:=[]) w1 (e4 (by omega) (by omega)) h1 h2 (x:=m.fresh) (by
   obtain ⟨jj,c,lw,hg⟩:=hD.grip hm (by omega) q2
   have hfr:m.fresh ∈ m.own\/m.nx≠8:=.inl (by rw [own_fresh q1 q2];exact List.mem_singleton.2 rfl)
   obtain ⟨_,f2,f3⟩:=hE.own m.fresh (by rw [own_fresh q1 q2];exact List.mem_singleton.2 rfl)
   have:=hD.room
   omega) rfl
  rw [e5,e6]
  exact ⟨H.headL.1.trans w2,H.headR.1.trans w2,spl_kids (λ hz=>(w1.leaf hz).2.2.1)⟩
 have hfid:8<=m.nx->m.nx<=13->m.fresh≠A.root:=λ q1 q2 e=>(hE.own m.fresh (by rw [own_fresh q1 q2];exact List.mem_singleton.2 rfl)).1 (e▸hrootin)
 have hrid:16<=m.nx->m.nx<=19->m.root≠A.root:=λ q1 q2 e=>(hE.own m.root (by rw [own_root q1 q2];exact List.mem_singleton.2 rfl)).1 (e▸hrootin)
 have hnoside:2<=m.nx->m.nx<=13->0 < m.level->m.side≠A.root:=λ q1 q2 q3 e=>by
  obtain ⟨e1,_⟩:=hD.topPend hm ⟨by omega,by omega⟩ q3 e.symm
  obtain ⟨⟨jj,c,lw,k1,k2,_⟩,_⟩:=hE.at_ q1 q2
  omega
 have hL3:sumS Lf A.sl<=j+3:=by unfold Lz at hL;split at hL<;>split at hL<;>omega
 have hL2:¬((m.nx=8/\0 < m.level)\/m.nx=16)->sumS Lf A.sl<=j+2:=λ q=>by unfold Lz at hL;rw [if_neg q] at hL;split at hL<;>omega
 have hL1:¬(0 < m.level\/(8<=m.nx/\m.nx<=13)\/m.nx=20)->¬m.nx=16->sumS Lf A.sl<=j+1:=λ q q2=>by unfold Lz at hL;rw [if_neg q,if_neg (by omega)] at hL;omega
 have hLs:m.nx<=7\/m.nx=14->∀ m':Pm,m'.level=m.level\/m'.nx=20->sumS Lf A.sl<=Lz j m':=λ q m' q2=>by
  rcases Int.lt_or_le 0 m.level with q3|q3
  ·have:=hL2 (by omega)
   refine Nat.le_trans this ?_
   rcases q2 with q2|q2
   ·exact ln2 (.inl (by omega))
   ·exact ln2 (.inr (.inr q2))
  ·have:=hL1 (by omega) (by omega)
   exact Nat.le_trans this ln1
 have hLh:∀ m':Pm,(8<=m'.nx/\m'.nx<=13)\/0 < m'.level\/m'.nx=20->∀ N,N<=j+2->N<=Lz j m':=λ m' q N q2=>Nat.le_trans q2 (ln2 (by rcases q with q|q|q<;>simp [q]))
 obtain ⟨k,hk⟩:∃ k,m.nx=k:=⟨_,rfl⟩
 have hk20:k<=20:=hk▸hn
 unfold Kq at hK
 rw [hk] at hK hP
 clear hL
 match k,hk,hk20,hK,hP with
 | 0,hk,_,hK,_=>
  rw [stepP_0 hk]
  refine .of hK (hLs (by omega) _ (.inr rfl)) ?_ (nx_far (.inr rfl))
  rcases hR with hR|hR|⟨q,_⟩
  ·exact .inl hR
  ·have:=h00 hk;have:=hR.1;omega
  ·omega
 | 1,hk,_,hK,hP=>
  obtain ⟨d,hd,_⟩:=hP
  have hR':(opNd A A.root).right=0\/(0 < m.level/\m.side=A.root):=by
   rcases hR with hR|hR|⟨q,_⟩
   ·exact .inl hR
   ·exact .inr ⟨hR.1,hR.2.1⟩
   ·omega
  have hRR:∀ k:Nat,k≠20->(opNd A A.root).right=0\/(0 < m.level/\m.side=A.root/\k≠20):=λ k hk=>hR'.imp id (λ q=>⟨q.1,q.2,hk⟩)
  by_cases hdn:(stepM A d).nx=.done
  ·rw [stepP_1 hk hd hdn]
   split
   ·exact .of hK (hLs (by omega) _ (.inl rfl)) ((hRR 2 (by decide)).imp_right .inl) (nx_far (.inl (by show 2<=7;decide)))
   ·split
    ·exact .of hK (hLs (by omega) _ (.inl rfl)) ((hRR 14 (by decide)).imp_right .inl) ⟨by show (14:Nat)≠8;decide,by show (14:Nat)≠9;decide,by show (14:Nat)≠16;decide,by show (14:Nat)≠17;decide,by show (14:Nat)≠12;decide⟩
    ·refine .of ?_ (hLs (by omega) _ (.inr rfl)) (.inl (hR'.elim id (λ q=>by have:=q.1;omega))) (nx_far (.inr rfl))
     show sumS Kd A.sl+1=A.sl.length
     rcases hbs with ⟨b1,_⟩|⟨_,b2⟩
     ·rw [b1] at hK;exact hK
     ·omega
  ·rw [stepP_1a hk hd hdn]
   refine .of ?_ (hLs (by omega) _ (.inl rfl)) ((hRR m.nx (by omega)).imp_right .inl) (nx_far (.inl (by show m.nx<=7;omega)))
   unfold Kq
   show (match m.nx with|0|4|18|19|20=>_|5|7=>_|8|9=>_|10|11|12=>_|13=>_|16|17=>_|_=>_)
   rw [hk];exact hK
 | 2,hk,_,hK,_=>
  obtain ⟨q1,q2,q3⟩:=hlock hk
  have e0:(opLock A m.id m.word).1=true/\(opLock A m.id m.word).2.1=0:=by rw [opLock_some q1,if_pos ⟨rfl,q2⟩];exact ⟨rfl,rfl⟩
  obtain ⟨s1,s2,s3,_,s5⟩:=sum_lock (f:=Kd) (A:=A) (x:=m.id) (wd:=m.word)
  obtain ⟨t1,_⟩:=sum_lock (f:=Lf) (A:=A) (x:=m.id) (wd:=m.word)
  have hR':(opNd (opLock A m.id m.word).2.2 (opLock A m.id m.word).2.2.root).right=0:=by
   rw [s5,s3]
   rcases hR with hR|hR|⟨q,_⟩
   ·exact hR
   ·exact absurd hR.2.1 (hnoside (by omega) (by omega) hR.1)
   ·omega
  have h36:∀ b:Bool,(if b=true then 6 else 3)=6\/(if b=true then 6 else 3)=3:=λ b=>by cases b<;>simp
  rw [stepP_2 hk e0.2,if_neg (by rw [e0.1];decide)]
  split
  ·rename_i hl
   refine .of ?_ (by show sumS Lf (opLock A m.id m.word).2.2.sl<=_;rw [t1];exact hLs (by omega) _ (.inl rfl)) (.inl hR') (nx_far (.inl (by show (if over (newP m) a1 a2=true then 6 else 3)<=7;have:=h36 (over (newP m) a1 a2);omega)))
   show Kq (opLock A m.id m.word).2.2 _
   unfold Kq
   rcases h36 (over (newP m) a1 a2) with e|e
   all_goals simp only [e];rw [s1,s2];exact hK
  ·rename_i hl
   rw [if_neg (by rw [q3 (by omega)];decide)]
   refine .of ?_ (by show sumS Lf (opLock A m.id m.word).2.2.sl<=_;rw [t1];exact hLs (by omega) _ (.inl rfl)) (.inl hR') (nx_far (.inl (by show (if over (newP m) a1 a2=true then 6 else 3)<=7;have:=h36 (over (newP m) a1 a2);omega)))
   show Kq (opLock A m.id m.word).2.2 _
   unfold Kq
   rcases h36 (over (newP m) a1 a2) with e|e
   all_goals simp only [e];rw [s1,s2];exact hK
 | 3,hk,_,hK,hP=>
  obtain ⟨⟨⟨s,hs,_,hso⟩,_,_⟩,_⟩:=hP
  obtain ⟨s',hs',ho⟩:=hslot m.id (holds_id (by omega) (by omega))
  rw [hs] at hs';cases hs'
  obtain ⟨s1,s2,s3,_,s5,s6⟩:=sum_body (f:=Kd) (n:=m.nw) hs ho
  obtain ⟨t1,_⟩:=sum_body (f:=Lf) (n:=m.nw) hs ho
  rw [stepP_3 hk (ok.body hk).1]
  refine .of ?_ ?_ ?_ (nx_far (.inl (by show 4<=7;decide)))
  ·show sumS Kd (opSetBody A m.id m.nw).2.sl+1=(opSetBody A m.id m.nw).2.sl.length
   have:=hnk (.inl hk)
   have hK:sumS Kd A.sl+bs m=A.sl.length:=hK
   have e1:Kd s.nd=m.old.kids.length:=by unfold Kd;rw [hso]
   have e2:Kd (withHd m.nw s.nd)=m.nw.kids.length:=rfl
   rw [s2];omega
  ·show sumS Lf (opSetBody A m.id m.nw).2.sl<=_
   have e:Lf (withHd m.nw s.nd)=Lf s.nd:=lf_same rfl
   have e2:sumS Lf (opSetBody A m.id m.nw).2.sl=sumS Lf A.sl:=eq_of t1 e
   rw [e2]
   refine hLs ?_ _ ?_
   ·omega
   ·exact .inl rfl
  ·show (opNd (opSetBody A m.id m.nw).2 (opSetBody A m.id m.nw).2.root).right=0\/_
   rw [s3]
   refine .inl ?_
   rcases hR with hR|hR|⟨q,_⟩
   ·by_cases e:A.root=m.id
    ·rw [e,s5];rw [e] at hR;unfold opNd at hR;rw [hs] at hR;exact hR
    ·rw [s6 _ e];exact hR
   ·exact absurd hR.2.1 (hnoside (by omega) (by omega) hR.1)
   ·omega
 | 4,hk,_,hK,_=>
  obtain ⟨s,hs,ho⟩:=hslot m.id (holds_id (by omega) (by omega))
  obtain ⟨s1,s2,s3,_,s5⟩:=sum_unlock (f:=Kd) (A:=A) (x:=m.id) (c:=true)
  obtain ⟨t1,_⟩:=sum_unlock (f:=Lf) (A:=A) (x:=m.id) (c:=true)
  rw [stepP_4 hk (odd_unlock hs ho)]
  refine .of ?_ (by show sumS Lf (opUnlock A m.id true).2.sl<=_;rw [t1];exact hLs (by omega) _ (.inr rfl)) ?_ (nx_far (.inr rfl))
  ·show sumS Kd (opUnlock A m.id true).2.sl+1=(opUnlock A m.id true).2.sl.length
   rw [s1,s2];exact hK
  ·show (opNd (opUnlock A m.id true).2 (opUnlock A m.id true).2.root).right=0\/_
   rw [s5,s3]
   rcases hR with hR|hR|⟨q,_⟩
   ·exact .inl hR
   ·exact absurd hR.2.1 (hnoside (by omega) (by omega) hR.1)
   ·omega
 | 5,_,_,hK,_=>exact hK.elim
 | 7,_,_,hK,_=>exact hK.elim
 | 6,hk,_,hK,_=>
  obtain ⟨s0,s1,s2,s3,s4,_,s6,s7⟩:=sum_alloc (f:=Kd) (A:=A) (by have:=hroom (.inl hk);omega)
  obtain ⟨_,_,t2,_⟩:=sum_alloc (f:=Lf) (A:=A) (by have:=hroom (.inl hk);omega)
  rw [stepP_6 hk,if_neg (by rw [s1];decide)]
  refine ⟨?_,?_,?_,λ _=>?_,λ e=>absurd e (by show (8:Nat)≠9;decide),λ e=>absurd e (by show (8:Nat)≠16;decide),λ e=>absurd e (by show (8:Nat)≠17;decide),λ e=>absurd e (by show (8:Nat)≠12;decide)⟩
  ·show sumS Kd (opAlloc A).2.2.sl+bs m+1=(opAlloc A).2.2.sl.length
   rw [s2,s3,show Kd Nd.zero=0 from rfl]
   have hK:sumS Kd A.sl+bs m=A.sl.length:=hK
   omega
  ·show sumS Lf (opAlloc A).2.2.sl<=_
   rw [t2,show Lf Nd.zero=1 from rfl]
   rcases Int.lt_or_le 0 m.level with q|q
   ·have:=hL2 (by omega)
    exact Nat.le_trans (show _<=j+3 by omega) (ln3 (.inl ⟨by show 8<=8;decide,by show 8<=13;decide⟩) (.inl ⟨rfl,q⟩))
   ·have:=hL1 (by omega) (by omega)
    exact hLh _ (.inl ⟨by show 8<=8;decide,by show 8<=13;decide⟩) _ (by omega)
  ·show (opNd (opAlloc A).2.2 (opAlloc A).2.2.root).right=0\/_
   rw [s4,s7 _ (by have:=(hD.tree.met.2 _ hrootin).2;omega)]
   rcases hR with hR|hR|⟨q,_⟩
   ·exact .inl hR
   ·exact absurd hR.2.1 (hnoside (by omega) (by omega) hR.1)
   ·omega
  ·show opNd (opAlloc A).2.2 (opAlloc A).1=Nd.zero
   rw [s0];exact s6
 | 8,hk,_,hK,_=>
  obtain ⟨s,hs,ho⟩:=hslot m.fresh (holds_fresh (by omega) (by omega))
  have hz:s.nd=Nd.zero:=by have:=g8 hk;unfold opNd at this;rw [hs] at this;exact this
  obtain ⟨s1,s2,s3,_,s5,s6⟩:=sum_head (f:=Kd) (n:=m.right) hs ho
  obtain ⟨t1,_⟩:=sum_head (f:=Lf) (n:=m.right) hs ho
  obtain ⟨_,hrl,_⟩:=hhl (by omega) (by omega)
  rw [stepP_8 hk (ok.s8 hk).1]
  refine ⟨?_,?_,?_,λ e=>absurd e (by show (9:Nat)≠8;decide),λ _=>?_,λ e=>absurd e (by show (9:Nat)≠16;decide),λ e=>absurd e (by show (9:Nat)≠17;decide),λ e=>absurd e (by show (9:Nat)≠12;decide)⟩
  ·show sumS Kd (opSetHead A m.fresh m.right).2.sl+bs m+1=(opSetHead A m.fresh m.right).2.sl.length
   have e:Kd (withHd s.nd m.right)=Kd s.nd:=rfl
   have hK:sumS Kd A.sl+bs m+1=A.sl.length:=hK
   rw [s2];omega
  ·show sumS Lf (opSetHead A m.fresh m.right).2.sl<=_
   have e1:Lf s.nd=1:=by rw [hz];rfl
   refine hLh _ (.inl ⟨by show 8<=9;decide,by show 9<=13;decide⟩) _ ?_
   rcases Int.lt_or_le 0 m.level with q|q
   ·have e2:Lf (withHd s.nd m.right)=0:=by unfold Lf;rw [if_neg (by show ¬m.right.lvl=0;omega)]
    omega
   ·have:=hL2 (by omega)
    have:=lf_le (withHd s.nd m.right)
    omega
  ·show (opNd (opSetHead A m.fresh m.right).2 (opSetHead A m.fresh m.right).2.root).right=0\/_
   rw [s3,s6 _ (Ne.symm (hfid (by omega) (by omega)))]
   rcases hR with hR|hR|⟨q,_⟩
   ·exact .inl hR
   ·exact absurd hR.2.1 (hnoside (by omega) (by omega) hR.1)
   ·omega
  ·show (opNd (opSetHead A m.fresh m.right).2 m.fresh).kids=[]
   rw [s5,hz];rfl
 | 9,hk,_,hK,_=>
  obtain ⟨s,hs,ho⟩:=hslot m.fresh (holds_fresh (by omega) (by omega))
  have hz:s.nd.kids=[]:=by have:=g9 hk;unfold opNd at this;rw [hs] at this;exact this
  obtain ⟨s1,s2,s3,_,s5,s6⟩:=sum_body (f:=Kd) (n:=m.right) hs ho
  obtain ⟨t1,_⟩:=sum_body (f:=Lf) (n:=m.right) hs ho
  rw [stepP_9 hk (ok.s9 hk).1]
  refine .of ?_ ?_ ?_ ⟨by show (10:Nat)≠8;decide,by show (10:Nat)≠9;decide,by show (10:Nat)≠16;decide,by show (10:Nat)≠17;decide,by show (10:Nat)≠12;decide⟩
  ·show sumS Kd (opSetBody A m.fresh m.right).2.sl+bs m+1=(opSetBody A m.fresh m.right).2.sl.length+m.right.kids.length
   have hK:sumS Kd A.sl+bs m+1=A.sl.length:=hK
   have e1:Kd s.nd=0:=by unfold Kd;rw [hz];rfl
   have e2:Kd (withHd m.right s.nd)=m.right.kids.length:=rfl
   rw [s2];omega
  ·show sumS Lf (opSetBody A m.fresh m.right).2.sl<=_
   have e:Lf (withHd m.right s.nd)=Lf s.nd:=lf_same rfl
   have:=hL2 (by omega)
   exact hLh _ (.inl ⟨by show 8<=10;decide,by show 10<=13;decide⟩) _ (by omega)
  ·show (opNd (opSetBody A m.fresh m.right).2 (opSetBody A m.fresh m.right).2.root).right=0\/_
   rw [s3,s6 _ (Ne.symm (hfid (by omega) (by omega)))]
   rcases hR with hR|hR|⟨q,_⟩
   ·exact .inl hR
   ·exact absurd hR.2.1 (hnoside (by omega) (by omega) hR.1)
   ·omega
 | 10,hk,_,hK,_=>
  obtain ⟨s1,s2,s3,_,s5⟩:=sum_unlock (f:=Kd) (A:=A) (x:=m.fresh) (c:=true)
  obtain ⟨t1,_⟩:=sum_unlock (f:=Lf) (A:=A) (x:=m.fresh) (c:=true)
  rw [stepP_10 hk (ok.s10 hk)]
  refine .of ?_ ?_ ?_ ⟨by show (11:Nat)≠8;decide,by show (11:Nat)≠9;decide,by show (11:Nat)≠16;decide,by show (11:Nat)≠17;decide,by show (11:Nat)≠12;decide⟩
  ·show sumS Kd (opUnlock A m.fresh true).2.sl+bs m+1=(opUnlock A m.fresh true).2.sl.length+m.right.kids.length
   rw [s1,s2];exact hK
  ·show sumS Lf (opUnlock A m.fresh true).2.sl<=_
   rw [t1]
   exact hLh _ (.inl ⟨by show 8<=11;decide,by show 11<=13;decide⟩) _ (hL2 (by omega))
  ·show (opNd (opUnlock A m.fresh true).2 (opUnlock A m.fresh true).2.root).right=0\/_
   rw [s5,s3]
   rcases hR with hR|hR|⟨q,_⟩
   ·exact .inl hR
   ·exact absurd hR.2.1 (hnoside (by omega) (by omega) hR.1)
   ·omega
 | 11,hk,_,hK,hP=>
  obtain ⟨⟨⟨s,hs,_,hso⟩,_,_⟩,_⟩:=hP
  obtain ⟨s',hs',ho⟩:=hslot m.id (holds_id (by omega) (by omega))
  rw [hs] at hs';cases hs'
  obtain ⟨s1,s2,s3,_,s5,s6⟩:=sum_head (f:=Kd) (n:=m.left) hs ho
  obtain ⟨t1,_⟩:=sum_head (f:=Lf) (n:=m.left) hs ho
  obtain ⟨hll,_,_⟩:=hhl (by omega) (by omega)
  rw [stepP_11 hk (ok.s11 hk).1]
  refine ⟨?_,?_,?_,λ e=>absurd e (by show (12:Nat)≠8;decide),λ e=>absurd e (by show (12:Nat)≠9;decide),λ e=>absurd e (by show (12:Nat)≠16;decide),λ e=>absurd e (by show (12:Nat)≠17;decide),λ _=>?_⟩
  ·show sumS Kd (opSetHead A m.id m.left).2.sl+bs m+1=(opSetHead A m.id m.left).2.sl.length+m.right.kids.length
   have hK:sumS Kd A.sl+bs m+1=A.sl.length+m.right.kids.length:=hK
   have e:Kd (withHd s.nd m.left)=Kd s.nd:=rfl
   rw [s2];omega
  ·show sumS Lf (opSetHead A m.id m.left).2.sl<=_
   have e:Lf (withHd s.nd m.left)=Lf s.nd:=lf_same (by show m.left.lvl=s.nd.lvl;rw [hll,hso,hold (by omega) (by omega)])
   have:=hL2 (by omega)
   exact hLh _ (.inl ⟨by show 8<=12;decide,by show 12<=13;decide⟩) _ (by omega)
  ·show (opNd (opSetHead A m.id m.left).2 (opSetHead A m.id m.left).2.root).right=0\/_\/(_/\_/\m.id=(opSetHead A m.id m.left).2.root)
   rw [s3]
   by_cases e:A.root=m.id
   ·exact .inr (.inr ⟨by show 12<=12;decide,by show 12<=13;decide,e.symm⟩)
   ·rw [s6 _ e]
    rcases hR with hR|hR|⟨q,_⟩
    ·exact .inl hR
    ·exact absurd hR.2.1 (hnoside (by omega) (by omega) hR.1)
    ·omega
  ·show (opNd (opSetHead A m.id m.left).2 m.id).kids=m.old.kids
   rw [s5,hso];rfl
 | 12,hk,_,hK,_=>
  obtain ⟨s,hs,ho⟩:=hslot m.id (holds_id (by omega) (by omega))
  have hz:s.nd.kids=m.old.kids:=by have:=g12 hk;unfold opNd at this;rw [hs] at this;exact this
  obtain ⟨s1,s2,s3,_,s5,s6⟩:=sum_body (f:=Kd) (n:=m.left) hs ho
  obtain ⟨t1,_⟩:=sum_body (f:=Lf) (n:=m.left) hs ho
  obtain ⟨_,_,hkk⟩:=hhl (by omega) (by omega)
  rw [stepP_12 hk (ok.s12 hk).1]
  refine .of ?_ ?_ ?_ ⟨by show (13:Nat)≠8;decide,by show (13:Nat)≠9;decide,by show (13:Nat)≠16;decide,by show (13:Nat)≠17;decide,by show (13:Nat)≠12;decide⟩
  ·show sumS Kd (opSetBody A m.id m.left).2.sl+2=(opSetBody A m.id m.left).2.sl.length
   have hK:sumS Kd A.sl+bs m+1=A.sl.length+m.right.kids.length:=hK
   have:=hnk (.inr (.inr ⟨by omega,by omega⟩))
   have e1:Kd s.nd=m.old.kids.length:=by unfold Kd;rw [hz]
   have e2:Kd (withHd m.left s.nd)=m.left.kids.length:=rfl
   rw [s2];omega
  ·show sumS Lf (opSetBody A m.id m.left).2.sl<=_
   have e:Lf (withHd m.left s.nd)=Lf s.nd:=lf_same rfl
   have:=hL2 (by omega)
   exact hLh _ (.inl ⟨by show 8<=13;decide,by show 13<=13;decide⟩) _ (by omega)
  ·show (opNd (opSetBody A m.id m.left).2 (opSetBody A m.id m.left).2.root).right=0\/_\/(_/\_/\m.id=(opSetBody A m.id m.left).2.root)
   rw [s3]
   by_cases e:A.root=m.id
   ·exact .inr (.inr ⟨by show 12<=13;decide,by show 13<=13;decide,e.symm⟩)
   ·rw [s6 _ e]
    rcases hR with hR|hR|⟨_,_,q⟩
    ·exact .inl hR
    ·exact absurd hR.2.1 (hnoside (by omega) (by omega) hR.1)
    ·exact absurd q.symm e
 | 13,hk,_,hK,_=>
  obtain ⟨s1,s2,s3,_,s5⟩:=sum_unlock (f:=Kd) (A:=A) (x:=m.id) (c:=true)
  obtain ⟨t1,_⟩:=sum_unlock (f:=Lf) (A:=A) (x:=m.id) (c:=true)
  rw [stepP_13 hk (ok.s13 hk).1]
  refine .of ?_ ?_ ?_ (nx_far (.inl (by show 1<=7;decide)))
  ·show sumS Kd (opUnlock A m.id true).2.sl+bs _=(opUnlock A m.id true).2.sl.length
   rw [s1,s2]
   have hK:sumS Kd A.sl+2=A.sl.length:=hK
   unfold bs
   rw [if_neg (by show ¬m.level+1=0;omega)]
   exact hK
  ·show sumS Lf (opUnlock A m.id true).2.sl<=_
   rw [t1]
   exact hLh _ (.inr (.inl (by show 0 < m.level+1;omega))) _ (hL2 (by omega))
  ·show (opNd (opUnlock A m.id true).2 (opUnlock A m.id true).2.root).right=0\/(0 < m.level+1/\m.id=(opUnlock A m.id true).2.root/\(1:Nat)≠20)\/_
   rw [s5,s3]
   rcases hR with hR|hR|⟨_,_,q⟩
   ·exact .inl hR
   ·exact absurd hR.2.1 (hnoside (by omega) (by omega) hR.1)
   ·exact .inr (.inl ⟨by omega,q,by decide⟩)
 | 14,hk,_,hK,hP=>
  have hP:0 < m.level:=hP
  rw [stepP_14 hk,if_neg (λ q=>q (htop (.inl hk)))]
  exact .of hK (hLs (by omega) _ (.inl rfl)) (.inr (.inl ⟨hP,(htop (.inl hk)).symm,by show (15:Nat)≠20;decide⟩)) ⟨by show (15:Nat)≠8;decide,by show (15:Nat)≠9;decide,by show (15:Nat)≠16;decide,by show (15:Nat)≠17;decide,by show (15:Nat)≠12;decide⟩
 | 15,hk,_,hK,hP=>
  have hP:0 < m.level:=hP
  obtain ⟨s0,s1,s2,s3,s4,_,s6,s7⟩:=sum_alloc (f:=Kd) (A:=A) (by have:=hroom (.inr hk);omega)
  obtain ⟨_,_,t2,_⟩:=sum_alloc (f:=Lf) (A:=A) (by have:=hroom (.inr hk);omega)
  rw [stepP_15 hk,if_neg (by rw [s1];decide)]
  refine ⟨?_,?_,?_,λ e=>absurd e (by show (16:Nat)≠8;decide),λ e=>absurd e (by show (16:Nat)≠9;decide),λ _=>?_,λ e=>absurd e (by show (16:Nat)≠17;decide),λ e=>absurd e (by show (16:Nat)≠12;decide)⟩
  ·show sumS Kd (opAlloc A).2.2.sl+3=(opAlloc A).2.2.sl.length
   rw [s2,s3,show Kd Nd.zero=0 from rfl]
   have hK:sumS Kd A.sl+bs m=A.sl.length:=hK
   omega
  ·show sumS Lf (opAlloc A).2.2.sl<=_
   rw [t2,show Lf Nd.zero=1 from rfl]
   have:=hL2 (by omega)
   exact Nat.le_trans (show _<=j+3 by omega) (ln3 (.inr hP) (.inr rfl))
  ·show (opNd (opAlloc A).2.2 (opAlloc A).2.2.root).right=0\/(0 < m.level/\m.side=(opAlloc A).2.2.root/\(16:Nat)≠20)\/_
   rw [s4,s7 _ (by have:=(hD.tree.met.2 _ hrootin).2;omega)]
   rcases hR with hR|hR|⟨q,q2,_⟩
   ·exact .inl hR
   ·exact .inr (.inl ⟨hR.1,hR.2.1,by decide⟩)
   ·omega
  ·show opNd (opAlloc A).2.2 (opAlloc A).1=Nd.zero
   rw [s0];exact s6
 | 16,hk,_,hK,hP=>
  have hP:0 < m.level:=hP
  obtain ⟨s,hs,ho⟩:=hslot m.root (holds_root (by omega) (by omega))
  have hz:s.nd=Nd.zero:=by have:=g16 hk;unfold opNd at this;rw [hs] at this;exact this
  obtain ⟨s1,s2,s3,_,s5,s6⟩:=sum_head (f:=Kd) (n:=rootNd m) hs ho
  obtain ⟨t1,_⟩:=sum_head (f:=Lf) (n:=rootNd m) hs ho
  rw [stepP_16 hk (ok.s16 hk)]
  refine ⟨?_,?_,?_,λ e=>absurd e (by show (17:Nat)≠8;decide),λ e=>absurd e (by show (17:Nat)≠9;decide),λ e=>absurd e (by show (17:Nat)≠16;decide),λ _=>?_,λ e=>absurd e (by show (17:Nat)≠12;decide)⟩
  ·show sumS Kd (opSetHead A m.root (rootNd m)).2.sl+3=(opSetHead A m.root (rootNd m)).2.sl.length
   have e:Kd (withHd s.nd (rootNd m))=Kd s.nd:=rfl
   have hK:sumS Kd A.sl+3=A.sl.length:=hK
   rw [s2];omega
  ·show sumS Lf (opSetHead A m.root (rootNd m)).2.sl<=_
   have e1:Lf s.nd=1:=by rw [hz];rfl
   have e2:Lf (withHd s.nd (rootNd m))=0:=by unfold Lf;rw [if_neg (by show ¬m.level=0;omega)]
   refine hLh _ ?_ _ ?_
   ·exact .inr (.inl hP)
   ·omega
  ·show (opNd (opSetHead A m.root (rootNd m)).2 (opSetHead A m.root (rootNd m)).2.root).right=0\/(0 < m.level/\m.side=(opSetHead A m.root (rootNd m)).2.root/\(17:Nat)≠20)\/_
   rw [s3,s6 _ (Ne.symm (hrid (by omega) (by omega)))]
   rcases hR with hR|hR|⟨q,q2,_⟩
   ·exact .inl hR
   ·exact .inr (.inl ⟨hR.1,hR.2.1,by decide⟩)
   ·omega
  ·show (opNd (opSetHead A m.root (rootNd m)).2 m.root).kids=[]
   rw [s5,hz];rfl
 | 17,hk,_,hK,hP=>
  have hP:0 < m.level:=hP.1
  obtain ⟨s,hs,ho⟩:=hslot m.root (holds_root (by omega) (by omega))
  have hz:s.nd.kids=[]:=by have:=g17 hk;unfold opNd at this;rw [hs] at this;exact this
  obtain ⟨s1,s2,s3,_,s5,s6⟩:=sum_body (f:=Kd) (n:=rootNd m) hs ho
  obtain ⟨t1,_⟩:=sum_body (f:=Lf) (n:=rootNd m) hs ho
  rw [stepP_17 hk (ok.s17 hk)]
  refine .of ?_ ?_ ?_ ⟨by show (18:Nat)≠8;decide,by show (18:Nat)≠9;decide,by show (18:Nat)≠16;decide,by show (18:Nat)≠17;decide,by show (18:Nat)≠12;decide⟩
  ·show sumS Kd (opSetBody A m.root (rootNd m)).2.sl+1=(opSetBody A m.root (rootNd m)).2.sl.length
   have hK:sumS Kd A.sl+3=A.sl.length:=hK
   have e1:Kd s.nd=0:=by unfold Kd;rw [hz];rfl
   have e2:Kd (withHd (rootNd m) s.nd)=2:=rfl
   rw [s2];omega
  ·show sumS Lf (opSetBody A m.root (rootNd m)).2.sl<=_
   have e:Lf (withHd (rootNd m) s.nd)=Lf s.nd:=lf_same rfl
   have:=hL2 (by omega)
   refine hLh _ ?_ _ ?_
   ·exact .inr (.inl hP)
   ·omega
  ·show (opNd (opSetBody A m.root (rootNd m)).2 (opSetBody A m.root (rootNd m)).2.root).right=0\/(0 < m.level/\m.side=(opSetBody A m.root (rootNd m)).2.root/\(18:Nat)≠20)\/_
   rw [s3,s6 _ (Ne.symm (hrid (by omega) (by omega)))]
   rcases hR with hR|hR|⟨q,q2,_⟩
   ·exact .inl hR
   ·exact .inr (.inl ⟨hR.1,hR.2.1,by decide⟩)
   ·omega
 | 18,hk,_,hK,hP=>
  have hP:0 < m.level:=hP.1
  obtain ⟨s1,s2,s3,_,s5⟩:=sum_unlock (f:=Kd) (A:=A) (x:=m.root) (c:=true)
  obtain ⟨t1,_⟩:=sum_unlock (f:=Lf) (A:=A) (x:=m.root) (c:=true)
  rw [stepP_18 hk (ok.s18 hk)]
  refine .of ?_ ?_ ?_ ⟨by show (19:Nat)≠8;decide,by show (19:Nat)≠9;decide,by show (19:Nat)≠16;decide,by show (19:Nat)≠17;decide,by show (19:Nat)≠12;decide⟩
  ·show sumS Kd (opUnlock A m.root true).2.sl+1=(opUnlock A m.root true).2.sl.length
   rw [s1,s2];exact hK
  ·show sumS Lf (opUnlock A m.root true).2.sl<=_
   rw [t1]
   refine hLh _ ?_ _ ?_
   ·exact .inr (.inl hP)
   ·exact (hL2 (by omega))
  ·show (opNd (opUnlock A m.root true).2 (opUnlock A m.root true).2.root).right=0\/(0 < m.level/\m.side=(opUnlock A m.root true).2.root/\(19:Nat)≠20)\/_
   rw [s5,s3]
   rcases hR with hR|hR|⟨q,q2,_⟩
   ·exact .inl hR
   ·exact .inr (.inl ⟨hR.1,hR.2.1,by decide⟩)
   ·omega
 | 19,hk,_,hK,_=>
  obtain ⟨f1,f2,f3⟩:=hE.own m.root (by rw [own_root (by omega) (by omega)];exact List.mem_singleton.2 rfl)
  obtain ⟨s,hs⟩:=get_in (A:=A) f2 (by rw [<-hlen];exact f3)
  have hsn:s.nd=rootNd m:=by
   have e1:=hE.rootNd hk
   have e2:=hD.vof.free m.root (λ y hy hg=>f1 (by
    obtain ⟨hg1,hg2⟩:=hg
    obtain ⟨jj,c,lw,hgr⟩:=hD.grip hy hg1.1 hg1.2
    rw [<-hg2];exact mem_ids.2 ⟨jj,c,lw,hgr.at_,hgr.mem⟩))
   rw [e1] at e2
   unfold opNd at e2;rw [hs] at e2;exact e2.symm
  have hgr:opGrow A m.side m.root=(true,0,{A with root:=m.root}):=by unfold opGrow;rw [hs];simp only;rw [if_pos (htop (.inr hk))]
  rw [stepP_19 hk,hgr,if_pos (.inl rfl)]
  refine .of hK (hLh _ (.inr (.inr rfl)) _ (hL2 (by omega))) (.inl ?_) (nx_far (.inr rfl))
  show (opNd ({A with root:=m.root}:Ar) m.root).right=0
  rw [show opNd ({A with root:=m.root}:Ar) m.root=opNd A m.root from opNd_same (get_sl rfl)]
  unfold opNd;rw [hs];show s.nd.right=0;rw [hsn];rfl
 | 20,hk,_,hK,_=>
  rw [stepP_through hk]
  refine .of ?_ (hLh _ (.inr (.inr hk)) _ (hL2 (by omega))) ?_ (nx_far (.inr hk))
  ·unfold Kq;rw [hk];exact hK
  ·rcases hR with hR|hR|⟨q,q2,_⟩
   ·exact .inl hR
   ·exact .inr (.inl hR)
   ·omega
 | q+21,_,h,_,_=>exact absurd h (by omega)
end
end Go.Proofs.Ytjcgphhpaenjkaa

import Derived.Test.YtjcgphhpaenjkaaPkA7
set_option linter.unusedVariables false
namespace Go.Proofs.Ytjcgphhpaenjkaa
open Go.RowKit
/-! ### order -/
theorem cmp_swap_:∀ (a b:List UInt8),cmp b a=-cmp a b
 | [],[]=>rfl
 | [],_::_=>rfl
 | _::_,[]=>rfl
 | x::a,y::b=>by
  rw [cmp_cons,cmp_cons]
  by_cases h1:x < y
  ·rw [if_pos h1,if_neg (λ h=>absurd (UInt8.lt_trans h1 h) (UInt8.lt_irrefl x)),if_pos h1];rfl
  ·by_cases h2:y < x
   ·rw [if_pos h2,if_neg h1,if_pos h2]
   ·rw [if_neg h2,if_neg h1,if_neg h1,if_neg h2]
    exact cmp_swap_ a b
theorem rise_tail_ {x:List UInt8} {l:List (List UInt8)} (h:Rise (x::l)):Rise l:=λ j a b ha hb=>h (j+1) a b (by simpa using ha) (by simpa using hb)
theorem cmp_le_lt {a b c:List UInt8} (h1:cmp a b<=0) (h2:cmp b c < 0):cmp a c < 0:=by
 rcases Int.lt_or_eq_of_le h1 with h|h
 ·exact cmp_lt_trans _ _ _ h h2
 ·rw [cmp_zero _ _ h];exact h2
theorem cmp_lt_le {a b c:List UInt8} (h1:cmp a b < 0) (h2:cmp b c<=0):cmp a c < 0:=by
 rcases Int.lt_or_eq_of_le h2 with h|h
 ·exact cmp_lt_trans _ _ _ h1 h
 ·rw [<-cmp_zero _ _ h];exact h1
theorem cmp_le_le {a b c:List UInt8} (h1:cmp a b<=0) (h2:cmp b c<=0):cmp a c<=0:=by
 rcases Int.lt_or_eq_of_le h2 with h|h
 ·exact Int.le_of_lt (cmp_le_lt h1 h)
 ·rw [<-cmp_zero _ _ h];exact h1
theorem upto_iff {key:List UInt8}:∀ {l:List (List UInt8)},Rise l->∀ (j:Nat) (x:List UInt8),l[j]?=some x->(cmp x key<=0 ↔ j < upto l key)
 | [],_,j,x,hx=>by simp at hx
 | y::l,h,j,x,hx=>by
  have hl:upto (y::l) key=upto l key+if cmp y key<=0 then 1 else 0:=by unfold upto;rw [List.countP_cons];simp
  by_cases hy:cmp y key<=0
  ·rw [hl,if_pos hy]
   cases j with
   | zero=>simp at hx;subst hx;exact ⟨λ _=>by omega,λ _=>hy⟩
   | succ j=>
    have:=upto_iff (key:=key) (rise_tail_ h) j x (by simpa using hx)
    rw [this];omega
  ·have hz:upto l key=0:=by
    unfold upto
    rw [List.countP_eq_zero]
    intro z hz
    obtain ⟨i,hi⟩:=List.mem_iff_getElem?.1 hz
    have h1:=rise_lt' h (i:=0) (j:=i+1) (by omega) (a:=y) (b:=z) rfl (by simpa using hi)
    simp only [decide_eq_true_eq]
    intro h2
    exact hy (Int.le_of_lt (cmp_lt_le h1 h2))
   rw [hl,if_neg hy,hz]
   constructor
   ·intro h1
    exfalso
    cases j with
    | zero=>simp at hx;subst hx;exact hy h1
    | succ j=>exact hy (Int.le_of_lt (cmp_lt_le (rise_lt' h (i:=0) (j:=j+1) (by omega) rfl hx) h1))
   ·intro h1;omega
/-! ### the tree that Levels has seen -/
inductive Chn (A:Ar) (chk:Nd->Int) (level:Int):Int->List UInt8->Ch->Prop
 | last {id:Int} {low:List UInt8} {s:Sl}:A.get id=some s->s.nd.lvl=level->chk s.nd=0->lowBad low s.nd=false->s.nd.right=0->Chn A chk level id low [(id,low)]
 | more {id:Int} {low:List UInt8} {s:Sl} {r:Ch}:A.get id=some s->s.nd.lvl=level->chk s.nd=0->lowBad low s.nd=false->s.nd.right≠0->Chn A chk level s.nd.right s.nd.high r->Chn A chk level id low ((id,low)::r)
def UpOk (A:Ar) (up:Option Ch) (c:Ch):Prop:=∀ u,up=some u->∀ e ∈ u,nodeKids c e.2 (opNd A e.1)=true
inductive Trs (A:Ar) (chk:Nd->Int):Int->Int->Option Ch->List Ch->Prop
 | base {first:Int} {up:Option Ch} {c:Ch}:Chn A chk 0 first [] c->UpOk A up c->Trs A chk 0 first up [c]
 | step {level first:Int} {up:Option Ch} {c:Ch} {ts:List Ch}:level≠0->Chn A chk level first [] c->UpOk A up c->Trs A chk (level-1) (firstKid A c) (some c) ts->Trs A chk level first up (c::ts)
section
variable {A:Ar} {chk:Nd->Int} {level id first:Int} {low key:List UInt8} {met:List Int} {acc c l:Ch} {s:Sl} {up:Option Ch} {ts:List Ch}
theorem Chn.at_ (h:Chn A chk level id low c):∃ s r,c=(id,low)::r/\A.get id=some s/\s.nd.lvl=level/\chk s.nd=0/\lowBad low s.nd=false/\(s.nd.right=0/\r=[]\/s.nd.right≠0/\Chn A chk level s.nd.right s.nd.high r):=by
 cases h with
 | last h1 h2 h3 h4 h5=>exact ⟨_,_,rfl,h1,h2,h3,h4,.inl ⟨h5,rfl⟩⟩
 | more h1 h2 h3 h4 h5 h6=>exact ⟨_,_,rfl,h1,h2,h3,h4,.inr ⟨h5,h6⟩⟩
theorem Chn.mem (h:Chn A chk level first low c):∀ {e:Int × List UInt8},e ∈ c->∃ c',Chn A chk level e.1 e.2 c'/\c'.length<=c.length/\∀ x ∈ c',x ∈ c:=by
 induction h with
 | last h1 h2 h3 h4 h5=>
  intro e he
  simp at he;subst he
  exact ⟨_,.last h1 h2 h3 h4 h5,Nat.le_refl _,λ x hx=>hx⟩
 | more h1 h2 h3 h4 h5 h6 ih=>
  intro e he
  rcases List.mem_cons.1 he with he|he
  ·subst he
   exact ⟨_,.more h1 h2 h3 h4 h5 h6,Nat.le_refl _,λ x hx=>hx⟩
  ·obtain ⟨c',g1,g2,g3⟩:=ih he
   exact ⟨c',g1,by simp;omega,λ x hx=>List.mem_cons_of_mem _ (g3 x hx)⟩
theorem chainM_chn:∀ (f:Nat) (id:Int) (low:List UInt8) (met:List Int) (acc:Ch),MetA A met->A.sl.length < f+met.length->(chainM A chk level f id low met acc).2.2.sound=true->
  ∃ r,(chainM A chk level f id low met acc).1=acc++r/\(chainM A chk level f id low met acc).2.1=met++r.map Prod.fst/\Chn A chk level id low r/\MetA A (met++r.map Prod.fst)
 | 0,_,_,met,_,h1,h2,_=>by have:=h1.len;omega
 | f+1,id,low,met,acc,h1,h2,h3=>by
  unfold chainM at h3 ⊢
  split
  ·rename_i hs
   rw [hs] at h3;cases h3
  rename_i s hs
  rw [hs] at h3
  simp only at h3
  split
  ·rename_i hm
   rw [if_pos hm] at h3;cases h3
  rename_i hm
  rw [if_neg hm] at h3
  split
  ·rename_i hm
   rw [if_pos hm] at h3;cases h3
  rename_i hlv
  rw [if_neg hlv] at h3
  split
  ·rename_i hm
   rw [if_pos hm] at h3;cases h3
  rename_i hck
  rw [if_neg hck] at h3
  split
  ·rename_i hm
   rw [if_pos hm] at h3;cases h3
  rename_i hlb
  rw [if_neg hlb] at h3
  have h4:MetA A (met++[id]):=h1.snoc hs (by simpa using hm)
  have hlv':s.nd.lvl=level:=by simpa using hlv
  have hck':chk s.nd=0:=by simpa using hck
  have hlb':lowBad low s.nd=false:=by simpa using hlb
  split
  ·rename_i hr
   exact ⟨[(id,low)],rfl,rfl,.last hs hlv' hck' hlb' hr,h4⟩
  ·rename_i hr
   rw [if_neg hr] at h3
   obtain ⟨r,g1,g2,g3,g4⟩:=chainM_chn f s.nd.right s.nd.high (met++[id]) (acc++[(id,low)]) h4 (by simp;omega) h3
   refine ⟨(id,low)::r,by rw [g1];simp,by rw [g2];simp,.more hs hlv' hck' hlb' hr g3,?_⟩
   have e:met++List.map Prod.fst ((id,low)::r)=met++[id]++List.map Prod.fst r:=by simp
   rw [e];exact g4
theorem kidsM_all {down:Ch}:∀ {u:Ch},(kidsM A down u).sound=true->∀ e ∈ u,nodeKids down e.2 (opNd A e.1)=true
 | [],_,e,he=>by simp at he
 | (id,low)::u,h,e,he=>by
  unfold kidsM at h
  split at h
  ·rename_i hk
   rcases List.mem_cons.1 he with he|he
   ·subst he;exact hk
   ·exact kidsM_all h e he
  ·cases h
theorem levelsFrom_trs:∀ (f:Nat) (level first:Int) (met:List Int) (out:List Ch),MetA A met->0<=level->level < f->(levelsFrom A chk f level first met out).2.sound=true->
  ∃ ts,(levelsFrom A chk f level first met out).1=out++ts/\Trs A chk level first out.getLast? ts/\MetA A (met++ts.flatten.map Prod.fst)
 | 0,level,_,_,_,_,h1,h2,_=>by omega
 | f+1,level,first,met,out,hm,h0,hf,h=>by
  unfold levelsFrom at h ⊢
  simp only at h ⊢
  by_cases hc:(chainM A chk level (A.sl.length+1-met.length) first [] met []).2.2.sound=false
  ·rw [if_pos hc] at h;simp only at h;rw [hc] at h;cases h
  rw [if_neg hc] at h ⊢
  have hc':(chainM A chk level (A.sl.length+1-met.length) first [] met []).2.2.sound=true:=by simpa using hc
  obtain ⟨r,g1,g2,g3,g4⟩:=chainM_chn _ _ _ _ _ hm (by have:=hm.len;omega) hc'
  rw [List.nil_append] at g1
  rw [g1,g2] at h ⊢
  by_cases hk:(kidsLast A out r).sound=false
  ·rw [if_pos hk] at h;simp only at h;rw [hk] at h;cases h
  rw [if_neg hk] at h ⊢
  have hu:UpOk A out.getLast? r:=λ u hu e he=>by
   have hk':(kidsLast A out r).sound=true:=by simpa using hk
   unfold kidsLast at hk'
   rw [hu] at hk'
   exact kidsM_all hk' e he
  by_cases hl:level=0
  ·rw [if_pos hl] at h ⊢
   subst hl
   exact ⟨[r],rfl,.base g3 hu,by simpa using g4⟩
  ·rw [if_neg hl] at h ⊢
   obtain ⟨ts,k1,k2,k3⟩:=levelsFrom_trs f (level-1) (firstKid A r) (met++r.map Prod.fst) (out++[r]) g4 (by omega) (by omega) h
   rw [List.getLast?_append] at k2
   refine ⟨r::ts,by rw [k1];simp,.step hl g3 hu k2,?_⟩
   have e:met++List.map Prod.fst (r::ts).flatten=met++List.map Prod.fst r++List.map Prod.fst ts.flatten:=by simp
   rw [e];exact k3
theorem heldFrom_nil:∀ {i:Nat} {l:List Sl},heldFrom i l=[]->∀ s ∈ l,s.word % 2=0
 | _,[],_,s,hs=>by simp at hs
 | i,t::l,h,s,hs=>by
  unfold heldFrom at h
  split at h
  ·cases h
  ·rcases List.mem_cons.1 hs with e|e
   ·subst e;omega
   ·exact heldFrom_nil h s e
structure TreeOk (A:Ar) (a0 a1 a2:Int) (chk:Nd->Int) (lv:Int) (ls:List Ch):Prop where
 top:∃ s,A.get A.root=some s/\s.nd.lvl=lv
 lv0:0<=lv
 even:∀ s ∈ A.sl,s.word % 2=0
 trs:Trs A chk lv A.root none ls
 met:MetA A (ls.flatten.map Prod.fst)
 may:∀ n,chk n=0->May n a0 a1 a2
theorem levelsM_ok {a0 a1 a2 a3 a4:Int} {ls:List Ch} {r:Rp} (h:levelsM A a0 a1 a2 a3 a4=(ls,r)) (hr:r.sound=true):∃ lv,TreeOk A a0 a1 a2 (chkM a0 a1 a2 a3 a4) lv ls:=by
 unfold levelsM at h
 split at h
 ·cases h;cases hr
 rename_i hc
 have hc':confOk a0 a1 a2 a3 a4=true:=by simpa using hc
 split at h
 ·cases h;cases hr
 rename_i hh
 split at h
 ·cases h;cases hr
 rename_i s hs
 have hmay:∀ n,chkM a0 a1 a2 a3 a4 n=0->May n a0 a1 a2:=λ n hn=>(may_iff hc').1 hn
 by_cases hl:0<=s.nd.lvl
 ·have hr':(levelsFrom A (chkM a0 a1 a2 a3 a4) (s.nd.lvl.toNat+1) s.nd.lvl A.root [] []).2.sound=true:=by rw [h];exact hr
  obtain ⟨ts,k1,k2,k3⟩:=levelsFrom_trs _ _ _ _ _ ⟨List.nodup_nil,λ x hx=>by simp at hx⟩ hl (by omega) hr'
  rw [h] at k1
  simp only [List.nil_append] at k1 k3
  subst k1
  exact ⟨_,⟨s,hs,rfl⟩,hl,heldFrom_nil hh,k2,k3,hmay⟩
 ·exfalso
  unfold levelsFrom at h
  simp only at h
  have e:(chainM A (chkM a0 a1 a2 a3 a4) s.nd.lvl (A.sl.length+1-([]:List Int).length) A.root [] [] []).2.2.sound=false:=by
   by_cases hc:(chainM A (chkM a0 a1 a2 a3 a4) s.nd.lvl (A.sl.length+1-([]:List Int).length) A.root [] [] []).2.2.sound=true
   ·obtain ⟨r,g1,g2,g3,g4⟩:=chainM_chn _ _ _ _ _ ⟨List.nodup_nil,λ x hx=>by simp at hx⟩ (by simp) hc
    obtain ⟨s',_,_,_,g5,g6,_⟩:=g3.at_
    have:=(hmay _ g6).lvl
    omega
   ·simpa using hc
  rw [if_pos e] at h
  cases h
  rw [e] at hr;cases hr
theorem Trs.length {level first:Int} {up:Option Ch} {ts:List Ch} (h:Trs A chk level first up ts):(ts.length:Int)=level+1:=by
 induction h with
 | base=>rfl
 | step _ _ _ _ ih=>simp only [List.length_cons];omega
theorem TreeOk.len {a0 a1 a2 lv:Int} {ls:List Ch} (h:TreeOk A a0 a1 a2 chk lv ls):ls.flatten.length<=A.sl.length:=by
 have:=h.met.len
 rw [List.length_map] at this
 exact this
/-! ### a descent alone -/
def runM (A:Ar):Nat->Mc->Mc
 | 0,M=>M
 | n+1,M=>runM A n (stepM A M)
theorem runM_add:∀ (n m:Nat) (M:Mc),runM A (n+m) M=runM A m (runM A n M)
 | 0,m,M=>by rw [Nat.zero_add];rfl
 | n+1,m,M=>by rw [Nat.add_right_comm];exact runM_add n m (stepM A M)
theorem runM_snoc (n:Nat) (M:Mc):runM A (n+1) M=stepM A (runM A n M):=runM_add n 1 M
theorem four {M:Mc} (hn:M.nx=.latch) (hs:A.get M.id=some s) (hw:s.word % 2=0) :
  runM A 4 M=decideM s.word {M with word:=s.word,nd:=s.nd,nx:=.valid}/\(∀ k,k < 4->(runM A k M).nx≠.done):=by
 have e1:stepM A M={M with word:=s.word,nx:=.head}:=by
  unfold stepM;rw [hn];simp only [opErr,hs,if_true,latchM,opWord]
  rw [if_pos hw]
 have e2:stepM A {M with word:=s.word,nx:=.head}={M with word:=s.word,nd:=withHd M.nd s.nd,nx:=.body}:=by
  unfold stepM;simp only [opErr,hs,if_true,headM,opNd]
 have e3:stepM A {M with word:=s.word,nd:=withHd M.nd s.nd,nx:=.body}={M with word:=s.word,nd:=s.nd,nx:=.valid}:=by
  unfold stepM;simp only [opErr,hs,if_true,bodyM,opNd];rfl
 have e4:stepM A {M with word:=s.word,nd:=s.nd,nx:=.valid}=decideM s.word {M with word:=s.word,nd:=s.nd,nx:=.valid}:=by
  unfold stepM;simp only [opErr,hs,if_true,opWord]
 refine ⟨by show stepM A (stepM A (stepM A (stepM A M)))=_;rw [e1,e2,e3,e4],λ k hk=>?_⟩
 match k,hk with
 | 0,_=>show M.nx≠_;rw [hn];exact λ h=>nomatch h
 | 1,_=>show (stepM A M).nx≠_;rw [e1];exact λ h=>nomatch h
 | 2,_=>show (stepM A (stepM A M)).nx≠_;rw [e1,e2];exact λ h=>nomatch h
 | 3,_=>show (stepM A (stepM A (stepM A M))).nx≠_;rw [e1,e2,e3];exact λ h=>nomatch h
structure EndsAt (A:Ar) (ch:Ch) (key:List UInt8) (level:Int) (M:Mc):Prop where
 there:M.there=true
 mem:∃ low,(M.id,low) ∈ ch/\cmp low key<=0
 slot:A.get M.id=some ⟨M.word,M.nd⟩
 lvl:M.nd.lvl=level
 notb:beyond M.nd.high key=false
structure RunsTo (A:Ar) (M:Mc) (N:Nat) (E:Mc->Prop):Prop where
 fin:∃ S,S<=N/\(runM A S M).nx=.done/\E (runM A S M)/\∀ k,k < S->(runM A k M).nx≠.done/\(runM A k M).there=false
theorem RunsTo.behind {M:Mc} {N k:Nat} {E:Mc->Prop} (h:RunsTo A (runM A k M) N E) (hk:∀ i,i < k->(runM A i M).nx≠.done/\(runM A i M).there=false):RunsTo A M (N+k) E:=by
 obtain ⟨S,h1,h2,h3,h4⟩:=h.fin
 refine ⟨k+S,by omega,by rw [runM_add];exact h2,by rw [runM_add];exact h3,λ i hi=>?_⟩
 by_cases hik:i < k
 ·exact hk i hik
 ·have:=h4 (i-k) (by omega)
  rw [<-runM_add,show k+(i-k)=i by omega] at this
  exact this
theorem RunsTo.mono {M:Mc} {N N':Nat} {E:Mc->Prop} (h:RunsTo A M N E) (hn:N<=N'):RunsTo A M N' E:=by
 obtain ⟨S,h1,h2⟩:=h.fin
 exact ⟨S,by omega,h2⟩
end
section
variable {A:Ar} {chk:Nd->Int} {a0 a1 a2:Int}
theorem four_there {M:Mc} {s:Sl} (hnx:M.nx=.latch) (hth:M.there=false) (hs:A.get M.id=some s) (hev':s.word % 2=0):∀ i,i < 4->(runM A i M).nx≠.done/\(runM A i M).there=false:=λ i hi=>by
 refine ⟨(four hnx hs hev').2 i hi,?_⟩
 have g:∀ {M:Mc},M.there=false->M.nx=.latch\/M.nx=.head\/M.nx=.body->(stepM A M).there=false:=λ {M} h1 h2=>by
  unfold stepM
  rcases h2 with h2|h2|h2<;>rw [h2]<;>simp only<;>split<;>exact h1
 have e1:stepM A M={M with word:=s.word,nx:=.head}:=by
  unfold stepM;rw [hnx];simp only [opErr,hs,if_true,latchM,opWord]
  rw [if_pos hev']
 have e2:stepM A {M with word:=s.word,nx:=.head}={M with word:=s.word,nd:=withHd M.nd s.nd,nx:=.body}:=by
  unfold stepM;simp only [opErr,hs,if_true,headM,opNd]
 match i,hi with
 | 0,_=>exact hth
 | 1,_=>exact g hth (.inl hnx)
 | 2,_=>show (stepM A (stepM A M)).there=false;rw [e1];exact g hth (.inr (.inl rfl))
 | 3,_=>show (stepM A (stepM A (stepM A M))).there=false;rw [e1,e2];exact g hth (.inr (.inr rfl))
theorem kidOk_mem {down:Ch} {kid:Int} {want:List UInt8} (h:kidOk down kid want=true):(kid,want) ∈ down:=by
 unfold kidOk at h
 obtain ⟨d,hd,h⟩:=List.any_eq_true.1 h
 rw [Bool.and_eq_true] at h
 have e1:d.1=kid:=by simpa using h.1
 have e2:d.2=want:=by simpa using h.2
 obtain ⟨x,y⟩:=d
 simp only at e1 e2
 subst e1 e2
 exact hd
theorem child_in {down:Ch} {low key:List UInt8} {n:Nd} (hm:May n a0 a1 a2) (hl:n.lvl≠0) (hk:nodeKids down low n=true) (hlow:cmp low key<=0):∃ lw,(childOf n.kids n.keys key,lw) ∈ down/\cmp lw key<=0:=by
 obtain ⟨_,_,_,hlen,_⟩:=hm.inner hl
 have hu:=upto_le n.keys key
 unfold childOf
 rw [hlen,show min (upto n.keys key) (n.keys.length+1-1)=upto n.keys key by omega]
 unfold nodeKids at hk
 rw [List.all_eq_true] at hk
 have h1:=kidOk_mem (hk (upto n.keys key) (List.mem_range.2 (by omega)))
 refine ⟨_,h1,?_⟩
 unfold wantLow
 by_cases hz:upto n.keys key=0
 ·rw [if_pos hz];exact hlow
 ·rw [if_neg hz]
  obtain ⟨x,hx⟩:∃ x,n.keys[upto n.keys key-1]?=some x:=⟨_,List.getElem?_eq_getElem (by omega)⟩
  have e:n.keys.getD (upto n.keys key-1) []=x:=by rw [List.getD_eq_getElem?_getD,hx];rfl
  rw [e]
  exact (upto_iff hm.rise _ _ hx).2 (by omega)
theorem beyond_iff {high key:List UInt8}:beyond high key=true ↔ 0 < high.length/\0<=cmp key high:=by
 unfold beyond
 rw [Bool.and_eq_true,decide_eq_true_eq,decide_eq_true_eq]
theorem cmp_nil (key:List UInt8):cmp [] key<=0:=by
 cases key with
 | nil=>decide
 | cons a l=>show (-1:Int)<=0;decide
end
abbrev Ent:=List UInt8 × List UInt8
def entsM (vals:List (List UInt8)):Nat->List (List UInt8)->List Ent
 | _,[]=>[]
 | i,k::ks=>(k,vals.getD i [])::entsM vals (i+1) ks
def ents (n:Nd):List Ent:=entsM n.vals 0 n.keys
def mapM (A:Ar):Nat->Int->List Int->Bool->List Ent->List Ent
 | 0,_,_,_,out=>out
 | f+1,id,met,leaf,out=>match A.get id with
  | none=>out
  | some s=>
   if met.contains id=true then out
   else if 0 < s.nd.lvl then (if s.nd.kids.length=0\/(leaf||decide (s.nd.lvl<=0))=true then out else mapM A f (s.nd.kids.getD 0 0) (met++[id]) (leaf||decide (s.nd.lvl<=0)) out)
   else mapM A f s.nd.right (met++[id]) (leaf||decide (s.nd.lvl<=0)) (out++ents s.nd)
def mapOf (A:Ar):List Ent:=mapM A (A.sl.length+1) A.root [] false []
def valueM (l:List Ent) (key:List UInt8):List UInt8 × Bool:=match l.find? (λ e=>e.1==key) with
 | none=>([],false)
 | some e=>(e.2,true)
def entsCh (A:Ar) (c:Ch):List Ent:=c.flatMap (λ e=>ents (opNd A e.1))
section
variable {A:Ar} {chk:Nd->Int} {a0 a1 a2 level first id:Int} {low key:List UInt8} {c:Ch} {up:Option Ch} {ts:List Ch}
theorem opNd_get {s:Sl} (h:A.get id=some s):opNd A id=s.nd:=by unfold opNd;rw [h]
theorem map_chain:∀ (f:Nat) (id:Int) (low:List UInt8) (c:Ch) (met:List Int) (leaf:Bool) (out:List Ent),Chn A chk 0 id low c->c.length < f->(met++c.map Prod.fst).Nodup->mapM A f id met leaf out=out++entsCh A c
 | 0,_,_,_,_,_,_,_,h,_=>by omega
 | f+1,id,low,c,met,leaf,out,hc,hf,hnd=>by
  obtain ⟨s,r,e,hs,hlv,_,_,hr⟩:=hc.at_
  subst e
  have hm:¬met.contains id=true:=by
   intro h
   have h1:id ∈ met:=by simpa using h
   rw [List.nodup_append] at hnd
   exact hnd.2.2 id h1 id (by simp) rfl
  rw [mapM,hs]
  simp only
  rw [if_neg hm,if_neg (by omega)]
  have hce:entsCh A ((id,low)::r)=ents s.nd++entsCh A r:=by unfold entsCh;rw [List.flatMap_cons,opNd_get hs]
  rw [hce,<-List.append_assoc]
  rcases hr with ⟨hr,rfl⟩|⟨hr,hc'⟩
  ·rw [hr]
   have h0:A.get 0=none:=by unfold Ar.get;rw [if_neg (by decide)]
   have:∀ f met leaf out,mapM A f 0 met leaf out=out:=λ f met leaf out=>by
    cases f with
    | zero=>rfl
    | succ f=>rw [mapM,h0]
   rw [this]
   unfold entsCh
   simp
  ·exact map_chain f _ _ r _ _ _ hc' (by simp at hf;omega) (by simpa using hnd)
theorem map_tree (hmay:∀ n,chk n=0->May n a0 a1 a2):∀ (f:Nat) (level first:Int) (up:Option Ch) (ts:List Ch) (met:List Int) (out:List Ent),Trs A chk level first up ts->0<=level->ts.flatten.length < f->(met++ts.flatten.map Prod.fst).Nodup->
  ∃ c,ts[level.toNat]?=some c/\(∃ id,Chn A chk 0 id [] c)/\mapM A f first met false out=out++entsCh A c
 | 0,_,_,_,_,_,_,_,_,h,_=>by omega
 | f+1,level,first,up,ts,met,out,hT,h0,hf,hnd=>by
  cases hT with
  | @base _ _ c h1 h2=>
   refine ⟨_,rfl,⟨_,h1⟩,map_chain (f+1) _ _ _ _ _ _ h1 ?_ ?_⟩
   ·simpa using hf
   ·simpa using hnd
  | @step _ _ _ c ts' hl h1 h2 h3=>
   obtain ⟨s,r,e,hs,hlv,hck,_,_⟩:=h1.at_
   subst e
   have hm:¬met.contains first=true:=by
    intro h
    have h1:first ∈ met:=by simpa using h
    rw [List.nodup_append] at hnd
    exact hnd.2.2 first h1 first (by simp) rfl
   obtain ⟨_,_,_,hkl,_⟩:=(hmay _ hck).inner (by omega)
   rw [mapM,hs]
   simp only
   rw [if_neg hm,if_pos (by omega),if_neg (by
    rw [show decide (s.nd.lvl<=0)=false by simp;omega]
    simp;intro h;rw [h] at hkl;simp at hkl),show (false||decide (s.nd.lvl<=0))=false by simp;omega]
   have hfk:firstKid A ((first,[])::r)=s.nd.kids.getD 0 0:=by show (opNd A first).kids.getD 0 0=_;rw [opNd_get hs]
   rw [hfk] at h3
   simp only [List.flatten_cons,List.cons_append,List.length_cons,List.length_append] at hf
   obtain ⟨c,k1,k2,k3⟩:=map_tree hmay f (level-1) _ _ ts' (met++[first]) out h3 (by omega) (by omega) (by
    simp only [List.flatten_cons,List.cons_append,List.map_cons,List.map_append] at hnd
    rw [show met++first::(List.map Prod.fst r++List.map Prod.fst ts'.flatten)=(met++[first])++(List.map Prod.fst r++List.map Prod.fst ts'.flatten) by simp] at hnd
    refine hnd.sublist ?_
    exact List.Sublist.append (List.Sublist.refl _) (List.sublist_append_right _ _))
   refine ⟨c,?_,k2,k3⟩
   rw [show level.toNat=(level-1).toNat+1 by omega]
   exact k1
theorem map_of {lv:Int} {ls:List Ch} (h:TreeOk A a0 a1 a2 chk lv ls):∃ c,ls[lv.toNat]?=some c/\(∃ id,Chn A chk 0 id [] c)/\mapOf A=entsCh A c:=by
 have hl:=h.len
 obtain ⟨c,h1,h2,h3⟩:=map_tree h.may (A.sl.length+1) lv A.root none ls [] [] h.trs h.lv0 (by omega) (by simpa using h.met.1)
 exact ⟨c,h1,h2,by unfold mapOf;simpa using h3⟩
theorem ents_keys (vals:List (List UInt8)):∀ (i:Nat) (ks:List (List UInt8)) (e:Ent),e ∈ entsM vals i ks->e.1 ∈ ks
 | _,[],e,h=>by simp [entsM] at h
 | i,k::ks,e,h=>by
  rcases List.mem_cons.1 h with h|h
  ·subst h;exact List.mem_cons_self ..
  ·exact List.mem_cons_of_mem _ (ents_keys vals (i+1) ks e h)
theorem ents_find (vals:List (List UInt8)):∀ (i:Nat) (ks:List (List UInt8)) (j:Nat),(∀ i',i' < j->ks[i']?≠some key)->ks[j]?=some key->(entsM vals i ks).find? (λ e=>e.1==key)=some (key,vals.getD (i+j) [])
 | _,[],j,_,h=>by simp at h
 | i,k::ks,0,_,h=>by
  simp at h;subst h
  simp [entsM]
 | i,k::ks,j+1,h1,h=>by
  have hk:(k==key)=false:=by
   have:=h1 0 (by omega)
   simpa using this
  rw [entsM,List.find?_cons]
  simp only [hk]
  rw [ents_find vals (i+1) ks j (λ i' hi=>by have:=h1 (i'+1) (by omega);simpa using this) (by simpa using h)]
  congr 3;omega
theorem has_iff {ks:List (List UInt8)}:has ks key=true ↔ key ∈ ks:=by
 constructor
 ·intro h
  obtain ⟨j,hj⟩:=has_at h
  exact List.mem_of_getElem? hj
 ·intro h
  unfold has
  rw [List.any_eq_true]
  exact ⟨key,h,by rw [cmp_self];rfl⟩
theorem ents_value {n:Nd} (hr:Rise n.keys):(ents n).find? (λ e=>e.1==key)=if has n.keys key=true then some (key,n.vals.getD (below n.keys key) []) else none:=by
 by_cases hh:has n.keys key=true
 ·rw [if_pos hh]
  have h1:=at_below hr hh
  have:=ents_find (key:=key) n.vals 0 n.keys (below n.keys key) (λ i' hi h=>by have:=below_at hr h;omega) h1
  rw [Nat.zero_add] at this
  exact this
 ·rw [if_neg hh]
  rw [List.find?_eq_none]
  intro e he h
  have h1:=ents_keys n.vals 0 n.keys e he
  have h2:e.1=key:=by simpa using h
  rw [h2] at h1
  exact hh (has_iff.2 h1)
theorem rise_ge {x y:List UInt8} {l:List (List UInt8)} (h:Rise (x::l)) (hy:y ∈ x::l):cmp x y<=0:=by
 rcases List.mem_cons.1 hy with e|hy
 ·subst e;rw [cmp_self];exact Int.le_refl _
 ·obtain ⟨i,hi⟩:=List.mem_iff_getElem?.1 hy
  exact Int.le_of_lt (rise_lt' h (i:=0) (j:=i+1) (by omega) rfl (by simpa using hi))
theorem low_keys {n:Nd} (hr:Rise n.keys) (hl:lowBad low n=false):∀ k ∈ n.keys,cmp low k<=0:=λ k hk=>by
 cases low with
 | nil=>exact cmp_nil k
 | cons a low=>
  unfold lowBad at hl
  rw [show decide (0 < (a::low).length)=true by simp,Bool.true_and,Bool.or_eq_false_iff] at hl
  have h1:=hl.1
  cases hks:n.keys with
  | nil=>rw [hks] at hk;simp at hk
  | cons x l=>
   rw [hks] at hk hr h1
   have h2:¬cmp x (a::low) < 0:=by simpa [keyBelow] using h1
   have h3:=cmp_swap_ x (a::low)
   exact cmp_le_le (b:=x) (by omega) (rise_ge hr hk)
theorem low_high {n:Nd} (hh:0 < n.high.length) (hl:lowBad low n=false):cmp low n.high<=0:=by
 cases low with
 | nil=>exact cmp_nil _
 | cons a low=>
  unfold lowBad at hl
  rw [show decide (0 < (a::low).length)=true by simp,Bool.true_and,Bool.or_eq_false_iff,show decide (0 < n.high.length)=true by simpa using hh,Bool.true_and] at hl
  have h2:¬cmp n.high (a::low)<=0:=by simpa using hl.2
  have h3:=cmp_swap_ (a::low) n.high
  omega
theorem chn_low (hmay:∀ n,chk n=0->May n a0 a1 a2) (h:Chn A chk level id low c):∀ e ∈ c,cmp low e.2<=0/\∀ k ∈ (opNd A e.1).keys,cmp e.2 k<=0:=by
 induction h with
 | last h1 h2 h3 h4 h5=>
  intro e he
  simp at he;subst he
  simp only [opNd_get h1]
  exact ⟨by rw [cmp_self];exact Int.le_refl _,low_keys (hmay _ h3).rise h4⟩
 | more h1 h2 h3 h4 h5 h6 ih=>
  intro e he
  have hm:=hmay _ h3
  rcases List.mem_cons.1 he with he|he
  ·subst he
   simp only [opNd_get h1]
   exact ⟨by rw [cmp_self];exact Int.le_refl _,low_keys hm.rise h4⟩
  ·obtain ⟨g1,g2⟩:=ih e he
   have hh:0 < _:=Nat.pos_of_ne_zero (λ h=>h5 (hm.high.1 h))
   exact ⟨cmp_le_le (low_high hh h4) g1,g2⟩
theorem entsCh_keys {c:Ch} {e:Ent} (h:e ∈ entsCh A c):∃ x ∈ c,e.1 ∈ (opNd A x.1).keys:=by
 unfold entsCh at h
 obtain ⟨x,hx,h⟩:=List.mem_flatMap.1 h
 exact ⟨x,hx,ents_keys _ _ _ _ h⟩
theorem find_none {l:List Ent} (h:∀ e ∈ l,e.1≠key):l.find? (λ e=>e.1==key)=none:=by
 rw [List.find?_eq_none]
 intro e he hk
 exact h e he (by simpa using hk)
theorem chn_find (hmay:∀ n,chk n=0->May n a0 a1 a2) {M:Int} {nd:Nd} {lw:List UInt8} (hle:cmp lw key<=0) (hnd:opNd A M=nd) (hb:beyond nd.high key=false) (h:Chn A chk level id low c):(M,lw) ∈ c->
  (entsCh A c).find? (λ e=>e.1==key)=(ents nd).find? (λ e=>e.1==key):=by
 induction h with
 | @last id low s h1 h2 h3 h4 h5=>
  intro he
  simp at he
  obtain ⟨rfl,rfl⟩:=he
  unfold entsCh
  simp [hnd]
 | @more id low s r h1 h2 h3 h4 h5 h6 ih=>
  intro he
  have hm:=hmay _ h3
  have hh:0 < s.nd.high.length:=Nat.pos_of_ne_zero (λ h=>h5 (hm.high.1 h))
  have hlow:=chn_low hmay h6
  have hce:entsCh A ((id,low)::r)=ents s.nd++entsCh A r:=by unfold entsCh;rw [List.flatMap_cons,opNd_get h1]
  rw [hce,List.find?_append]
  rcases List.mem_cons.1 he with he|he
  ·cases he
   rw [opNd_get h1] at hnd
   subst hnd
   have h7:(entsCh A r).find? (λ e=>e.1==key)=none:=find_none (λ e he hk=>by
    obtain ⟨x,hx,hkx⟩:=entsCh_keys he
    obtain ⟨g1,g2⟩:=hlow x hx
    have g3:=cmp_le_le g1 (g2 _ hkx)
    rw [hk] at g3
    have g4:=cmp_swap_ key s.nd.high
    have:beyond s.nd.high key=true:=beyond_iff.2 ⟨hh,by omega⟩
    rw [this] at hb;cases hb)
   rw [h7,Option.or_none]
  ·have h7:(ents s.nd).find? (λ e=>e.1==key)=none:=find_none (λ e he2 hk=>by
    have g1:=(hm.key _ (ents_keys _ _ _ _ he2)).2
    rw [hk] at g1
    have g2:=cmp_le_le (hlow _ he).1 hle
    have g4:=cmp_swap_ key s.nd.high
    have:beyond s.nd.high key=true:=beyond_iff.2 ⟨hh,by omega⟩
    rw [this] at g1;cases g1)
   rw [h7,Option.none_or]
   exact ih he
end
def keysOf (A:Ar) (c:Ch):Nat:=(c.map (λ e=>(opNd A e.1).keys.length)).sum
def nodesOf (ls:List Ch):Nat:=(ls.map List.length).sum
def checkOf (A:Ar) (ls:List Ch) (r:Rp):Rp:=if r.sound=false then r else ⟨true,0,0,ls.length,nodesOf ls,keysOf A (ls.getLastD [])⟩
def checkM (A:Ar) (a0 a1 a2 a3 a4:Int):Rp:=checkOf A (levelsM A a0 a1 a2 a3 a4).1 (levelsM A a0 a1 a2 a3 a4).2
theorem levelsFrom_rp (A:Ar) (chk:Nd->Int):∀ (f:Nat) (level first:Int) (met:List Int) (out:List Ch),(levelsFrom A chk f level first met out).2.sound=true->(levelsFrom A chk f level first met out).2=.ok
 | 0,_,_,_,_,_=>rfl
 | f+1,level,first,met,out,h=>by
  unfold levelsFrom at h ⊢
  simp only at h ⊢
  split
  ·rename_i hc
   rw [if_pos hc] at h
   simp only at h
   rw [hc] at h;cases h
  ·rename_i hc
   rw [if_neg hc] at h
   split
   ·rename_i hk
    rw [if_pos hk] at h
    simp only at h
    rw [hk] at h;cases h
   ·rename_i hk
    rw [if_neg hk] at h
    split
    ·rfl
    ·rename_i hl
     rw [if_neg hl] at h
     exact levelsFrom_rp A chk f _ _ _ _ h
theorem levelsM_rp {A:Ar} {a0 a1 a2 a3 a4:Int} (h:(levelsM A a0 a1 a2 a3 a4).2.sound=true):(levelsM A a0 a1 a2 a3 a4).2=.ok/\confOk a0 a1 a2 a3 a4=true:=by
 unfold levelsM at h ⊢
 split
 ·rename_i hc
  rw [if_pos hc] at h;cases h
 rename_i hc
 rw [if_neg hc] at h
 refine ⟨?_,by simpa using hc⟩
 cases hh:heldFrom 1 A.sl with
 | cons x l=>simp only [hh] at h;cases h
 | nil=>
  simp only [hh] at h ⊢
  cases hg:A.get A.root with
  | none=>simp only [hg] at h;cases h
  | some s=>
   simp only [hg] at h ⊢
   exact levelsFrom_rp _ _ _ _ _ _ _ h
theorem nodesOf_flat (ls:List Ch):nodesOf ls=ls.flatten.length:=by
 unfold nodesOf
 rw [List.length_flatten]
theorem nodesOf_take {ls:List Ch} {k:Nat} {c:Ch} (h:ls[k]?=some c):nodesOf (ls.take (k+1))=nodesOf (ls.take k)+c.length:=by
 unfold nodesOf
 rw [List.take_add_one,h]
 simp
theorem nodesOf_le (ls:List Ch) (k:Nat):nodesOf (ls.take k)<=nodesOf ls:=by
 have:nodesOf ls=nodesOf (ls.take k)+nodesOf (ls.drop k):=by
  unfold nodesOf
  rw [<-List.sum_append,<-List.map_append,List.take_append_drop]
 omega
theorem keysOf_take {A:Ar} {c:Ch} {k:Nat} {e:Int × List UInt8} (h:c[k]?=some e):keysOf A (c.take (k+1))=keysOf A (c.take k)+(opNd A e.1).keys.length:=by
 unfold keysOf
 rw [List.take_add_one,h]
 simp
theorem keysOf_le {A:Ar} {n:Nat}:∀ (c:Ch),(∀ e ∈ c,(opNd A e.1).keys.length<=n)->keysOf A c<=n*c.length
 | [],_=>by simp [keysOf]
 | e::c,h=>by
  have h1:=h e (List.mem_cons_self ..)
  have h2:=keysOf_le c (λ x hx=>h x (List.mem_cons_of_mem _ hx))
  have h3:keysOf A (e::c)=(opNd A e.1).keys.length+keysOf A c:=by unfold keysOf;simp
  rw [h3,List.length_cons,Nat.mul_add]
  omega
theorem trs_ne {A:Ar} {chk:Nd->Int} {level first:Int} {up:Option Ch} {ts:List Ch} (h:Trs A chk level first up ts):∀ c ∈ ts,c≠[]:=by
 induction h with
 | base h1 _=>
  intro c hc
  simp at hc;subst hc
  obtain ⟨_,_,e,_⟩:=h1.at_
  rw [e];simp
 | step _ h1 _ _ ih=>
  intro c hc
  rcases List.mem_cons.1 hc with hc|hc
  ·subst hc
   obtain ⟨_,_,e,_⟩:=h1.at_
   rw [e];simp
  ·exact ih c hc
theorem last_chain {A:Ar} {chk:Nd->Int} {a0 a1 a2 lv:Int} {ls:List Ch} (h:TreeOk A a0 a1 a2 chk lv ls):∃ c,ls[ls.length-1]?=some c/\0 < ls.length/\ls.getLastD []=c/\(∀ e ∈ c,∃ s,A.get e.1=some s/\(s.nd.keys.length:Int)<=a1)/\c.length<=A.sl.length:=by
 obtain ⟨c,h1,⟨id,h2⟩,_⟩:=map_of h
 have hl:=h.trs.length
 have h0:=h.lv0
 have hlt:=(List.getElem?_eq_some_iff.1 h1).1
 have e:lv.toNat=ls.length-1:=by omega
 rw [e] at h1
 refine ⟨c,h1,by omega,?_,λ x hx=>?_,?_⟩
 ·rw [List.getLastD_eq_getLast?,List.getLast?_eq_getElem?,h1];rfl
 ·obtain ⟨c',g1,_,_⟩:=h2.mem hx
  obtain ⟨s,_,_,hs,hlv,hck,_⟩:=g1.at_
  exact ⟨s,hs,((h.may _ hck).leaf hlv).2.1⟩
 ·have:=h.len
  have h3:=(List.sublist_flatten_of_mem (List.mem_of_getElem? h1)).length_le
  omega
end Go.Proofs.Ytjcgphhpaenjkaa

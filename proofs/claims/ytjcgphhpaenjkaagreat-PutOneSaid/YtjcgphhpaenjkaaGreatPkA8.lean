import Derived.Test.YtjcgphhpaenjkaaGreatPkA5
import Derived.Test.YtjcgphhpaenjkaaGreatPkA6
import Derived.Test.YtjcgphhpaenjkaaGreatPkA7
set_option linter.unusedVariables false
namespace Go.Proofs.YtjcgphhpaenjkaaGreat
open Go.RowKit
theorem cmp_cons (x y:UInt8) (l m:List UInt8):cmp (x::l) (y::m)=if x < y then -1 else if y < x then 1 else cmp l m:=by
 show Lib.compareBytes (x::l) (y::m)=_
 conv=>lhs;unfold Lib.compareBytes
theorem cmp_lt_trans:∀ (a b c:List UInt8),cmp a b < 0->cmp b c < 0->cmp a c < 0
 | [],[],_,h,_=>absurd h (by decide)
 | [],_::_,[],_,h=>absurd h (by show ¬(1:Int) < 0;decide)
 | [],_::_,_::_,_,_=>by show (-1:Int) < 0;decide
 | _::_,[],_,h,_=>absurd h (by show ¬(1:Int) < 0;decide)
 | _::_,_::_,[],_,h=>absurd h (by show ¬(1:Int) < 0;decide)
 | x::a,y::b,z::c,h1,h2=>by
  rw [cmp_cons] at h1 h2 ⊢
  by_cases hxy:x < y
  ·by_cases hyz:y < z
   ·rw [if_pos (UInt8.lt_trans hxy hyz)];decide
   ·rw [if_neg hyz] at h2
    by_cases hzy:z < y
    ·rw [if_pos hzy] at h2;exact absurd h2 (by decide)
    ·have:y=z:=UInt8.le_antisymm (UInt8.not_lt.1 hzy) (UInt8.not_lt.1 hyz)
     subst this
     rw [if_pos hxy];decide
  ·rw [if_neg hxy] at h1
   by_cases hyx:y < x
   ·rw [if_pos hyx] at h1;exact absurd h1 (by decide)
   ·have:x=y:=UInt8.le_antisymm (UInt8.not_lt.1 hyx) (UInt8.not_lt.1 hxy)
    subst this
    rw [if_neg hyx] at h1
    by_cases hxz:x < z
    ·rw [if_pos hxz];decide
    ·rw [if_neg hxz] at h2 ⊢
     by_cases hzx:z < x
     ·rw [if_pos hzx] at h2;exact absurd h2 (by decide)
     ·rw [if_neg hzx] at h2 ⊢
      exact cmp_lt_trans a b c h1 h2
theorem cmp_gt {a b:List UInt8} (h:cmp a b < 0):¬cmp b a < 0/\cmp b a≠0:=by
 refine ⟨λ h2=>?_,λ h2=>?_⟩
 ·have:=cmp_lt_trans a b a h h2
  rw [cmp_self] at this
  exact absurd this (by decide)
 ·have:=cmp_zero b a h2
  subst this
  rw [cmp_self] at h
  exact absurd h (by decide)
theorem rise_lt {l:List (List UInt8)} (h:Rise l) (i:Nat) {a:List UInt8} (ha:l[i]?=some a):∀ (d:Nat) b,l[i+1+d]?=some b->cmp a b < 0
 | 0,b,hb=>h i a b ha hb
 | d+1,b,hb=>by
  have hlt:i+1+d < l.length:=by have:=(List.getElem?_eq_some_iff.1 hb).1;omega
  have hc:l[i+1+d]?=some l[i+1+d]:=List.getElem?_eq_getElem hlt
  exact cmp_lt_trans _ _ _ (rise_lt h i ha d _ hc) (h (i+1+d) _ _ hc (by rw [<-hb];congr 1))
theorem rise_lt' {l:List (List UInt8)} (h:Rise l) {i j:Nat} {a b:List UInt8} (hij:i < j) (ha:l[i]?=some a) (hb:l[j]?=some b):cmp a b < 0:=
 rise_lt h i ha (j-(i+1)) b (by rw [show i+1+(j-(i+1))=j by omega];exact hb)
theorem has_at {l:List (List UInt8)} {key:List UInt8} (h:has l key=true):∃ j:Nat,l[j]?=some key:=by
 unfold has at h
 rw [List.any_eq_true] at h
 obtain ⟨x,hx,hc⟩:=h
 have h0:cmp x key=0:=by simpa using hc
 have:=cmp_zero x key h0
 subst this
 exact List.getElem?_of_mem hx
theorem below_at {l:List (List UInt8)} {key:List UInt8} (h:Rise l) {j:Nat} (hj:l[j]?=some key):below l key=j:=by
 have hlt:j < l.length:=(List.getElem?_eq_some_iff.1 hj).1
 unfold below
 rw [<-List.take_append_drop j l,List.countP_append]
 have h1:(l.take j).countP (λ x=>decide (cmp x key < 0))=j:=by
  have e:(l.take j).length=j:=by rw [List.length_take];omega
  rw [List.countP_eq_length.2 (λ x hx=>?_),e]
  obtain ⟨i,hi⟩:=List.getElem?_of_mem hx
  rw [List.getElem?_take] at hi
  split at hi
  ·rename_i hij
   exact decide_eq_true (rise_lt' h hij hi hj)
  ·cases hi
 have h2:(l.drop j).countP (λ x=>decide (cmp x key < 0))=0:=by
  refine List.countP_eq_zero.2 (λ x hx=>?_)
  obtain ⟨i,hi⟩:=List.getElem?_of_mem hx
  rw [List.getElem?_drop] at hi
  by_cases h0:i=0
  ·subst h0
   rw [Nat.add_zero,hj] at hi
   cases hi
   rw [cmp_self];decide
  ·have:=(cmp_gt (rise_lt' h (show j < j+i by omega) hj hi)).1
   simpa using this
 rw [h1,h2,Nat.add_zero]
theorem at_below {l:List (List UInt8)} {key:List UInt8} (h:Rise l) (hh:has l key=true):l[below l key]?=some key:=by
 obtain ⟨j,hj⟩:=has_at hh
 rw [below_at h hj];exact hj
inductive Nx where
 | root|latch|head|body|valid|done
 deriving DecidableEq
structure Mc where
 key:List UInt8
 level:Int
 nx:Nx
 id:Int
 word:Nat
 nd:Nd
 there:Bool
 again:Int
 right:Int
def Mc.new (key:List UInt8) (level:Int):Mc:=⟨key,level,.root,0,0,Nd.zero,false,0,0⟩
def rootM (A:Ar) (M:Mc):Mc:={M with id:=A.root,nx:=.latch}
def latchM (A:Ar) (M:Mc):Mc:={M with word:=opWord A M.id,nx:=if opWord A M.id % 2=0 then .head else M.nx}
def headM (A:Ar) (M:Mc):Mc:={M with nd:=withHd M.nd (opNd A M.id),nx:=.body}
def bodyM (A:Ar) (M:Mc):Mc:={M with nd:=withHd (opNd A M.id) M.nd,nx:=.valid}
def decideM (now:Nat) (M:Mc):Mc:=
 if now≠M.word then {M with again:=M.again+1,nx:=.root}
 else if M.nd.lvl < M.level then {M with nx:=.done}
 else if beyond M.nd.high M.key then {M with right:=M.right+1,id:=M.nd.right,nx:=.latch}
 else if M.nd.lvl=M.level then {M with there:=true,nx:=.done}
 else {M with id:=childOf M.nd.kids M.nd.keys M.key,nx:=.latch}
def stepM (A:Ar) (M:Mc):Mc:=
 match M.nx with
 | .done=>M
 | .root=>rootM A M
 | .latch=>if opErr A M.id=0 then latchM A M else {latchM A M with nx:=.done}
 | .head=>if opErr A M.id=0 then headM A M else {headM A M with nx:=.done}
 | .body=>if opErr A M.id=0 then bodyM A M else {bodyM A M with nx:=.done}
 | .valid=>if opErr A M.id=0 then decideM (opWord A M.id) M else {M with nx:=.done}
def Mc.low (M:Mc):Prop:=0<=M.again/\M.again < 9223372036854775807/\0<=M.right/\M.right < 9223372036854775807
structure MW (w:World) (t:TypeId) (m a:Nat) (nv:Nx->Value) (S:Nat->Prop) (M:Mc):Prop where
 cells:∃ kv c0 c1 c2 c3 c4 c5,Blk w m t #[pV a,kv,iV M.level,nv M.nx,iV M.id,.int .u64 M.word,c0,c1,c2,c3,c4,c5,.bool M.there,iV M.again,iV M.right]/\Byts w S kv M.key/\IsNd w S c0 c1 c2 c3 c4 c5 M.nd
 u64:U64 M.word
 sm:NdSm 0 M.nd
section
variable {w w':World} {t:TypeId} {m a:Nat} {nv:Nx->Value} {S T N G G':Nat->Prop} {M:Mc} {b p q:Nat} {A B:Ar}
theorem MW.keeps (h:MW w t m a nv S M) (k:Keeps N w w') (hm:¬N m) (hd:∀ x,x < w.heap.size->S x->¬N x):MW w' t m a nv S M:=by
 obtain ⟨⟨kv,c0,c1,c2,c3,c4,c5,hb,hk,hn⟩,hu,hs⟩:=h
 exact ⟨⟨kv,c0,c1,c2,c3,c4,c5,hb.keeps k hm,hk.keeps k hd,hn.keeps k hd⟩,hu,hs⟩
theorem MW.mono (h:MW w t m a nv S M) (hd:∀ x,x < w.heap.size->S x->T x):MW w t m a nv T M:=by
 obtain ⟨⟨kv,c0,c1,c2,c3,c4,c5,hb,hk,hn⟩,hu,hs⟩:=h
 exact ⟨⟨kv,c0,c1,c2,c3,c4,c5,hb,hk.mono hd,hn.mono hd⟩,hu,hs⟩
end
/-! ### order -/
theorem cmp_swap_:∀ (a b:List UInt8),cmp b a=-cmp a b
 | [],[]=>rfl
 | [],_::_=>rfl
 | _::_,[]=>rfl
 | x::a,y::b=>by
  rw [cmp_cons,cmp_cons]
  by_cases h1:x < y
  ·rw [if_pos h1,if_neg (λ h=>absurd (UInt8.lt_trans h1 h) (UInt8.lt_irrefl x)),if_pos h1];rfl
  ·by_cases h2:y < x
   ·rw [if_pos h2,if_neg h1,if_pos h2]
   ·rw [if_neg h2,if_neg h1,if_neg h1,if_neg h2]
    exact cmp_swap_ a b
theorem rise_tail_ {x:List UInt8} {l:List (List UInt8)} (h:Rise (x::l)):Rise l:=λ j a b ha hb=>h (j+1) a b (by simpa using ha) (by simpa using hb)
theorem cmp_le_lt {a b c:List UInt8} (h1:cmp a b<=0) (h2:cmp b c < 0):cmp a c < 0:=by
 rcases Int.lt_or_eq_of_le h1 with h|h
 ·exact cmp_lt_trans _ _ _ h h2
 ·rw [cmp_zero _ _ h];exact h2
theorem cmp_lt_le {a b c:List UInt8} (h1:cmp a b < 0) (h2:cmp b c<=0):cmp a c < 0:=by
 rcases Int.lt_or_eq_of_le h2 with h|h
 ·exact cmp_lt_trans _ _ _ h1 h
 ·rw [<-cmp_zero _ _ h];exact h1
theorem cmp_le_le {a b c:List UInt8} (h1:cmp a b<=0) (h2:cmp b c<=0):cmp a c<=0:=by
 rcases Int.lt_or_eq_of_le h2 with h|h
 ·exact Int.le_of_lt (cmp_le_lt h1 h)
 ·rw [<-cmp_zero _ _ h];exact h1
theorem upto_iff {key:List UInt8}:∀ {l:List (List UInt8)},Rise l->∀ (j:Nat) (x:List UInt8),l[j]?=some x->(cmp x key<=0 ↔ j < upto l key)
 | [],_,j,x,hx=>by simp at hx
 | y::l,h,j,x,hx=>by
  have hl:upto (y::l) key=upto l key+if cmp y key<=0 then 1 else 0:=by unfold upto;rw [List.countP_cons];simp
  by_cases hy:cmp y key<=0
  ·rw [hl,if_pos hy]
   cases j with
   | zero=>simp at hx;subst hx;exact ⟨λ _=>by omega,λ _=>hy⟩
   | succ j=>
    have:=upto_iff (key:=key) (rise_tail_ h) j x (by simpa using hx)
    rw [this];omega
  ·have hz:upto l key=0:=by
    unfold upto
    rw [List.countP_eq_zero]
    intro z hz
    obtain ⟨i,hi⟩:=List.mem_iff_getElem?.1 hz
    have h1:=rise_lt' h (i:=0) (j:=i+1) (by omega) (a:=y) (b:=z) rfl (by simpa using hi)
    simp only [decide_eq_true_eq]
    intro h2
    exact hy (Int.le_of_lt (cmp_lt_le h1 h2))
   rw [hl,if_neg hy,hz]
   constructor
   ·intro h1
    exfalso
    cases j with
    | zero=>simp at hx;subst hx;exact hy h1
    | succ j=>exact hy (Int.le_of_lt (cmp_lt_le (rise_lt' h (i:=0) (j:=j+1) (by omega) rfl hx) h1))
   ·intro h1;omega
/-! ### the tree that Levels has seen -/
inductive Chn (A:Ar) (chk:Nd->Int) (level:Int):Int->List UInt8->Ch->Prop
 | last {id:Int} {low:List UInt8} {s:Sl}:A.get id=some s->s.nd.lvl=level->chk s.nd=0->lowBad low s.nd=false->s.nd.right=0->Chn A chk level id low [(id,low)]
 | more {id:Int} {low:List UInt8} {s:Sl} {r:Ch}:A.get id=some s->s.nd.lvl=level->chk s.nd=0->lowBad low s.nd=false->s.nd.right≠0->Chn A chk level s.nd.right s.nd.high r->Chn A chk level id low ((id,low)::r)
def UpOk (A:Ar) (up:Option Ch) (c:Ch):Prop:=∀ u,up=some u->∀ e ∈ u,nodeKids c e.2 (opNd A e.1)=true
inductive Trs (A:Ar) (chk:Nd->Int):Int->Int->Option Ch->List Ch->Prop
 | base {first:Int} {up:Option Ch} {c:Ch}:Chn A chk 0 first [] c->UpOk A up c->Trs A chk 0 first up [c]
 | step {level first:Int} {up:Option Ch} {c:Ch} {ts:List Ch}:level≠0->Chn A chk level first [] c->UpOk A up c->Trs A chk (level-1) (firstKid A c) (some c) ts->Trs A chk level first up (c::ts)
section
variable {A:Ar} {chk:Nd->Int} {level id first:Int} {low key:List UInt8} {met:List Int} {acc c l:Ch} {s:Sl} {up:Option Ch} {ts:List Ch}
theorem Chn.at_ (h:Chn A chk level id low c):∃ s r,c=(id,low)::r/\A.get id=some s/\s.nd.lvl=level/\chk s.nd=0/\lowBad low s.nd=false/\(s.nd.right=0/\r=[]\/s.nd.right≠0/\Chn A chk level s.nd.right s.nd.high r):=by
 cases h with
 | last h1 h2 h3 h4 h5=>exact ⟨_,_,rfl,h1,h2,h3,h4,.inl ⟨h5,rfl⟩⟩
 | more h1 h2 h3 h4 h5 h6=>exact ⟨_,_,rfl,h1,h2,h3,h4,.inr ⟨h5,h6⟩⟩
theorem Chn.mem (h:Chn A chk level first low c):∀ {e:Int × List UInt8},e ∈ c->∃ c',Chn A chk level e.1 e.2 c'/\c'.length<=c.length/\∀ x ∈ c',x ∈ c:=by
 induction h with
 | last h1 h2 h3 h4 h5=>
  intro e he
  simp at he;subst he
  exact ⟨_,.last h1 h2 h3 h4 h5,Nat.le_refl _,λ x hx=>hx⟩
 | more h1 h2 h3 h4 h5 h6 ih=>
  intro e he
  rcases List.mem_cons.1 he with he|he
  ·subst he
   exact ⟨_,.more h1 h2 h3 h4 h5 h6,Nat.le_refl _,λ x hx=>hx⟩
  ·obtain ⟨c',g1,g2,g3⟩:=ih he
   exact ⟨c',g1,by simp;omega,λ x hx=>List.mem_cons_of_mem _ (g3 x hx)⟩
theorem chainM_chn:∀ (f:Nat) (id:Int) (low:List UInt8) (met:List Int) (acc:Ch),MetA A met->A.sl.length < f+met.length->(chainM A chk level f id low met acc).2.2.sound=true->
  ∃ r,(chainM A chk level f id low met acc).1=acc++r/\(chainM A chk level f id low met acc).2.1=met++r.map Prod.fst/\Chn A chk level id low r/\MetA A (met++r.map Prod.fst)
 | 0,_,_,met,_,h1,h2,_=>by have:=h1.len;omega
 | f+1,id,low,met,acc,h1,h2,h3=>by
  unfold chainM at h3 ⊢
  split
  ·rename_i hs
   rw [hs] at h3;cases h3
  rename_i s hs
  rw [hs] at h3
  simp only at h3
  split
  ·rename_i hm
   rw [if_pos hm] at h3;cases h3
  rename_i hm
  rw [if_neg hm] at h3
  split
  ·rename_i hm
   rw [if_pos hm] at h3;cases h3
  rename_i hlv
  rw [if_neg hlv] at h3
  split
  ·rename_i hm
   rw [if_pos hm] at h3;cases h3
  rename_i hck
  rw [if_neg hck] at h3
  split
  ·rename_i hm
   rw [if_pos hm] at h3;cases h3
  rename_i hlb
  rw [if_neg hlb] at h3
  have h4:MetA A (met++[id]):=h1.snoc hs (by simpa using hm)
  have hlv':s.nd.lvl=level:=by simpa using hlv
  have hck':chk s.nd=0:=by simpa using hck
  have hlb':lowBad low s.nd=false:=by simpa using hlb
  split
  ·rename_i hr
   exact ⟨[(id,low)],rfl,rfl,.last hs hlv' hck' hlb' hr,h4⟩
  ·rename_i hr
   rw [if_neg hr] at h3
   obtain ⟨r,g1,g2,g3,g4⟩:=chainM_chn f s.nd.right s.nd.high (met++[id]) (acc++[(id,low)]) h4 (by simp;omega) h3
   refine ⟨(id,low)::r,by rw [g1];simp,by rw [g2];simp,.more hs hlv' hck' hlb' hr g3,?_⟩
   have e:met++List.map Prod.fst ((id,low)::r)=met++[id]++List.map Prod.fst r:=by simp
   rw [e];exact g4
theorem kidsM_all {down:Ch}:∀ {u:Ch},(kidsM A down u).sound=true->∀ e ∈ u,nodeKids down e.2 (opNd A e.1)=true
 | [],_,e,he=>by simp at he
 | (id,low)::u,h,e,he=>by
  unfold kidsM at h
  split at h
  ·rename_i hk
   rcases List.mem_cons.1 he with he|he
   ·subst he;exact hk
   ·exact kidsM_all h e he
  ·cases h
theorem levelsFrom_trs:∀ (f:Nat) (level first:Int) (met:List Int) (out:List Ch),MetA A met->0<=level->level < f->(levelsFrom A chk f level first met out).2.sound=true->
  ∃ ts,(levelsFrom A chk f level first met out).1=out++ts/\Trs A chk level first out.getLast? ts/\MetA A (met++ts.flatten.map Prod.fst)
 | 0,level,_,_,_,_,h1,h2,_=>by omega
 | f+1,level,first,met,out,hm,h0,hf,h=>by
  unfold levelsFrom at h ⊢
  simp only at h ⊢
  by_cases hc:(chainM A chk level (A.sl.length+1-met.length) first [] met []).2.2.sound=false
  ·rw [if_pos hc] at h;simp only at h;rw [hc] at h;cases h
  rw [if_neg hc] at h ⊢
  have hc':(chainM A chk level (A.sl.length+1-met.length) first [] met []).2.2.sound=true:=by simpa using hc
  obtain ⟨r,g1,g2,g3,g4⟩:=chainM_chn _ _ _ _ _ hm (by have:=hm.len;omega) hc'
  rw [List.nil_append] at g1
  rw [g1,g2] at h ⊢
  by_cases hk:(kidsLast A out r).sound=false
  ·rw [if_pos hk] at h;simp only at h;rw [hk] at h;cases h
  rw [if_neg hk] at h ⊢
  have hu:UpOk A out.getLast? r:=λ u hu e he=>by
   have hk':(kidsLast A out r).sound=true:=by simpa using hk
   unfold kidsLast at hk'
   rw [hu] at hk'
   exact kidsM_all hk' e he
  by_cases hl:level=0
  ·rw [if_pos hl] at h ⊢
   subst hl
   exact ⟨[r],rfl,.base g3 hu,by simpa using g4⟩
  ·rw [if_neg hl] at h ⊢
   obtain ⟨ts,k1,k2,k3⟩:=levelsFrom_trs f (level-1) (firstKid A r) (met++r.map Prod.fst) (out++[r]) g4 (by omega) (by omega) h
   rw [List.getLast?_append] at k2
   refine ⟨r::ts,by rw [k1];simp,.step hl g3 hu k2,?_⟩
   have e:met++List.map Prod.fst (r::ts).flatten=met++List.map Prod.fst r++List.map Prod.fst ts.flatten:=by simp
   rw [e];exact k3
theorem heldFrom_nil:∀ {i:Nat} {l:List Sl},heldFrom i l=[]->∀ s ∈ l,s.word % 2=0
 | _,[],_,s,hs=>by simp at hs
 | i,t::l,h,s,hs=>by
  unfold heldFrom at h
  split at h
  ·cases h
  ·rcases List.mem_cons.1 hs with e|e
   ·subst e;omega
   ·exact heldFrom_nil h s e
structure TreeOk (A:Ar) (a0 a1 a2:Int) (chk:Nd->Int) (lv:Int) (ls:List Ch):Prop where
 top:∃ s,A.get A.root=some s/\s.nd.lvl=lv
 lv0:0<=lv
 even:∀ s ∈ A.sl,s.word % 2=0
 trs:Trs A chk lv A.root none ls
 met:MetA A (ls.flatten.map Prod.fst)
 may:∀ n,chk n=0->May n a0 a1 a2
theorem levelsM_ok {a0 a1 a2 a3 a4:Int} {ls:List Ch} {r:Rp} (h:levelsM A a0 a1 a2 a3 a4=(ls,r)) (hr:r.sound=true):∃ lv,TreeOk A a0 a1 a2 (chkM a0 a1 a2 a3 a4) lv ls:=by
 unfold levelsM at h
 split at h
 ·cases h;cases hr
 rename_i hc
 have hc':confOk a0 a1 a2 a3 a4=true:=by simpa using hc
 split at h
 ·cases h;cases hr
 rename_i hh
 split at h
 ·cases h;cases hr
 rename_i s hs
 have hmay:∀ n,chkM a0 a1 a2 a3 a4 n=0->May n a0 a1 a2:=λ n hn=>(may_iff hc').1 hn
 by_cases hl:0<=s.nd.lvl
 ·have hr':(levelsFrom A (chkM a0 a1 a2 a3 a4) (s.nd.lvl.toNat+1) s.nd.lvl A.root [] []).2.sound=true:=by rw [h];exact hr
  obtain ⟨ts,k1,k2,k3⟩:=levelsFrom_trs _ _ _ _ _ ⟨List.nodup_nil,λ x hx=>by simp at hx⟩ hl (by omega) hr'
  rw [h] at k1
  simp only [List.nil_append] at k1 k3
  subst k1
  exact ⟨_,⟨s,hs,rfl⟩,hl,heldFrom_nil hh,k2,k3,hmay⟩
 ·exfalso
  unfold levelsFrom at h
  simp only at h
  have e:(chainM A (chkM a0 a1 a2 a3 a4) s.nd.lvl (A.sl.length+1-([]:List Int).length) A.root [] [] []).2.2.sound=false:=by
   by_cases hc:(chainM A (chkM a0 a1 a2 a3 a4) s.nd.lvl (A.sl.length+1-([]:List Int).length) A.root [] [] []).2.2.sound=true
   ·obtain ⟨r,g1,g2,g3,g4⟩:=chainM_chn _ _ _ _ _ ⟨List.nodup_nil,λ x hx=>by simp at hx⟩ (by simp) hc
    obtain ⟨s',_,_,_,g5,g6,_⟩:=g3.at_
    have:=(hmay _ g6).lvl
    omega
   ·simpa using hc
  rw [if_pos e] at h
  cases h
  rw [e] at hr;cases hr
theorem Trs.length {level first:Int} {up:Option Ch} {ts:List Ch} (h:Trs A chk level first up ts):(ts.length:Int)=level+1:=by
 induction h with
 | base=>rfl
 | step _ _ _ _ ih=>simp only [List.length_cons];omega
theorem TreeOk.len {a0 a1 a2 lv:Int} {ls:List Ch} (h:TreeOk A a0 a1 a2 chk lv ls):ls.flatten.length<=A.sl.length:=by
 have:=h.met.len
 rw [List.length_map] at this
 exact this
/-! ### a descent alone -/
def runM (A:Ar):Nat->Mc->Mc
 | 0,M=>M
 | n+1,M=>runM A n (stepM A M)
theorem runM_add:∀ (n m:Nat) (M:Mc),runM A (n+m) M=runM A m (runM A n M)
 | 0,m,M=>by rw [Nat.zero_add];rfl
 | n+1,m,M=>by rw [Nat.add_right_comm];exact runM_add n m (stepM A M)
theorem runM_snoc (n:Nat) (M:Mc):runM A (n+1) M=stepM A (runM A n M):=runM_add n 1 M
theorem four {M:Mc} (hn:M.nx=.latch) (hs:A.get M.id=some s) (hw:s.word % 2=0) :
  runM A 4 M=decideM s.word {M with word:=s.word,nd:=s.nd,nx:=.valid}/\(∀ k,k < 4->(runM A k M).nx≠.done):=by
 have e1:stepM A M={M with word:=s.word,nx:=.head}:=by
  unfold stepM;rw [hn];simp only [opErr,hs,if_true,latchM,opWord]
  rw [if_pos hw]
 have e2:stepM A {M with word:=s.word,nx:=.head}={M with word:=s.word,nd:=withHd M.nd s.nd,nx:=.body}:=by
  unfold stepM;simp only [opErr,hs,if_true,headM,opNd]
 have e3:stepM A {M with word:=s.word,nd:=withHd M.nd s.nd,nx:=.body}={M with word:=s.word,nd:=s.nd,nx:=.valid}:=by
  unfold stepM;simp only [opErr,hs,if_true,bodyM,opNd];rfl
 have e4:stepM A {M with word:=s.word,nd:=s.nd,nx:=.valid}=decideM s.word {M with word:=s.word,nd:=s.nd,nx:=.valid}:=by
  unfold stepM;simp only [opErr,hs,if_true,opWord]
 refine ⟨by show stepM A (stepM A (stepM A (stepM A M)))=_;rw [e1,e2,e3,e4],λ k hk=>?_⟩
 match k,hk with
 | 0,_=>show M.nx≠_;rw [hn];exact λ h=>nomatch h
 | 1,_=>show (stepM A M).nx≠_;rw [e1];exact λ h=>nomatch h
 | 2,_=>show (stepM A (stepM A M)).nx≠_;rw [e1,e2];exact λ h=>nomatch h
 | 3,_=>show (stepM A (stepM A (stepM A M))).nx≠_;rw [e1,e2,e3];exact λ h=>nomatch h
structure EndsAt (A:Ar) (ch:Ch) (key:List UInt8) (level:Int) (M:Mc):Prop where
 there:M.there=true
 mem:∃ low,(M.id,low) ∈ ch/\cmp low key<=0
 slot:A.get M.id=some ⟨M.word,M.nd⟩
 lvl:M.nd.lvl=level
 notb:beyond M.nd.high key=false
structure RunsTo (A:Ar) (M:Mc) (N:Nat) (E:Mc->Prop):Prop where
 fin:∃ S,S<=N/\(runM A S M).nx=.done/\E (runM A S M)/\∀ k,k < S->(runM A k M).nx≠.done/\(runM A k M).there=false
theorem RunsTo.behind {M:Mc} {N k:Nat} {E:Mc->Prop} (h:RunsTo A (runM A k M) N E) (hk:∀ i,i < k->(runM A i M).nx≠.done/\(runM A i M).there=false):RunsTo A M (N+k) E:=by
 obtain ⟨S,h1,h2,h3,h4⟩:=h.fin
 refine ⟨k+S,by omega,by rw [runM_add];exact h2,by rw [runM_add];exact h3,λ i hi=>?_⟩
 by_cases hik:i < k
 ·exact hk i hik
 ·have:=h4 (i-k) (by omega)
  rw [<-runM_add,show k+(i-k)=i by omega] at this
  exact this
theorem RunsTo.mono {M:Mc} {N N':Nat} {E:Mc->Prop} (h:RunsTo A M N E) (hn:N<=N'):RunsTo A M N' E:=by
 obtain ⟨S,h1,h2⟩:=h.fin
 exact ⟨S,by omega,h2⟩
end
section
variable {A:Ar} {chk:Nd->Int} {a0 a1 a2:Int}
theorem four_there {M:Mc} {s:Sl} (hnx:M.nx=.latch) (hth:M.there=false) (hs:A.get M.id=some s) (hev':s.word % 2=0):∀ i,i < 4->(runM A i M).nx≠.done/\(runM A i M).there=false:=λ i hi=>by
 refine ⟨(four hnx hs hev').2 i hi,?_⟩
 have g:∀ {M:Mc},M.there=false->M.nx=.latch\/M.nx=.head\/M.nx=.body->(stepM A M).there=false:=λ {M} h1 h2=>by
  unfold stepM
  rcases h2 with h2|h2|h2<;>rw [h2]<;>simp only<;>split<;>exact h1
 have e1:stepM A M={M with word:=s.word,nx:=.head}:=by
  unfold stepM;rw [hnx];simp only [opErr,hs,if_true,latchM,opWord]
  rw [if_pos hev']
 have e2:stepM A {M with word:=s.word,nx:=.head}={M with word:=s.word,nd:=withHd M.nd s.nd,nx:=.body}:=by
  unfold stepM;simp only [opErr,hs,if_true,headM,opNd]
 match i,hi with
 | 0,_=>exact hth
 | 1,_=>exact g hth (.inl hnx)
 | 2,_=>show (stepM A (stepM A M)).there=false;rw [e1];exact g hth (.inr (.inl rfl))
 | 3,_=>show (stepM A (stepM A (stepM A M))).there=false;rw [e1,e2];exact g hth (.inr (.inr rfl))
theorem kidOk_mem {down:Ch} {kid:Int} {want:List UInt8} (h:kidOk down kid want=true):(kid,want) ∈ down:=by
 unfold kidOk at h
 obtain ⟨d,hd,h⟩:=List.any_eq_true.1 h
 rw [Bool.and_eq_true] at h
 have e1:d.1=kid:=by simpa using h.1
 have e2:d.2=want:=by simpa using h.2
 obtain ⟨x,y⟩:=d
 simp only at e1 e2
 subst e1 e2
 exact hd
theorem child_in {down:Ch} {low key:List UInt8} {n:Nd} (hm:May n a0 a1 a2) (hl:n.lvl≠0) (hk:nodeKids down low n=true) (hlow:cmp low key<=0):∃ lw,(childOf n.kids n.keys key,lw) ∈ down/\cmp lw key<=0:=by
 obtain ⟨_,_,_,hlen,_⟩:=hm.inner hl
 have hu:=upto_le n.keys key
 unfold childOf
 rw [hlen,show min (upto n.keys key) (n.keys.length+1-1)=upto n.keys key by omega]
 unfold nodeKids at hk
 rw [List.all_eq_true] at hk
 have h1:=kidOk_mem (hk (upto n.keys key) (List.mem_range.2 (by omega)))
 refine ⟨_,h1,?_⟩
 unfold wantLow
 by_cases hz:upto n.keys key=0
 ·rw [if_pos hz];exact hlow
 ·rw [if_neg hz]
  obtain ⟨x,hx⟩:∃ x,n.keys[upto n.keys key-1]?=some x:=⟨_,List.getElem?_eq_getElem (by omega)⟩
  have e:n.keys.getD (upto n.keys key-1) []=x:=by rw [List.getD_eq_getElem?_getD,hx];rfl
  rw [e]
  exact (upto_iff hm.rise _ _ hx).2 (by omega)
theorem beyond_iff {high key:List UInt8}:beyond high key=true ↔ 0 < high.length/\0<=cmp key high:=by
 unfold beyond
 rw [Bool.and_eq_true,decide_eq_true_eq,decide_eq_true_eq]
theorem cmp_nil (key:List UInt8):cmp [] key<=0:=by
 cases key with
 | nil=>decide
 | cons a l=>show (-1:Int)<=0;decide
end
end Go.Proofs.YtjcgphhpaenjkaaGreat

import Derived.Test.YtjcgphhpaenjkaaGreatPkA8
import Derived.Test.YtjcgphhpaenjkaaGreatPkA7
set_option linter.unusedVariables false
namespace Go.Proofs.YtjcgphhpaenjkaaGreat
open Go.RowKit
abbrev Ent:=List UInt8 × List UInt8
def entsM (vals:List (List UInt8)):Nat->List (List UInt8)->List Ent
 | _,[]=>[]
 | i,k::ks=>(k,vals.getD i [])::entsM vals (i+1) ks
def ents (n:Nd):List Ent:=entsM n.vals 0 n.keys
def mapM (A:Ar):Nat->Int->List Int->Bool->List Ent->List Ent
 | 0,_,_,_,out=>out
 | f+1,id,met,leaf,out=>match A.get id with
  | none=>out
  | some s=>
   if met.contains id=true then out
   else if 0 < s.nd.lvl then (if s.nd.kids.length=0\/(leaf||decide (s.nd.lvl<=0))=true then out else mapM A f (s.nd.kids.getD 0 0) (met++[id]) (leaf||decide (s.nd.lvl<=0)) out)
   else mapM A f s.nd.right (met++[id]) (leaf||decide (s.nd.lvl<=0)) (out++ents s.nd)
def mapOf (A:Ar):List Ent:=mapM A (A.sl.length+1) A.root [] false []
def valueM (l:List Ent) (key:List UInt8):List UInt8 × Bool:=match l.find? (λ e=>e.1==key) with
 | none=>([],false)
 | some e=>(e.2,true)
def entsCh (A:Ar) (c:Ch):List Ent:=c.flatMap (λ e=>ents (opNd A e.1))
section
variable {A:Ar} {chk:Nd->Int} {a0 a1 a2 level first id:Int} {low key:List UInt8} {c:Ch} {up:Option Ch} {ts:List Ch}
theorem opNd_get {s:Sl} (h:A.get id=some s):opNd A id=s.nd:=by unfold opNd;rw [h]
theorem map_chain:∀ (f:Nat) (id:Int) (low:List UInt8) (c:Ch) (met:List Int) (leaf:Bool) (out:List Ent),Chn A chk 0 id low c->c.length < f->(met++c.map Prod.fst).Nodup->mapM A f id met leaf out=out++entsCh A c
 | 0,_,_,_,_,_,_,_,h,_=>by omega
 | f+1,id,low,c,met,leaf,out,hc,hf,hnd=>by
  obtain ⟨s,r,e,hs,hlv,_,_,hr⟩:=hc.at_
  subst e
  have hm:¬met.contains id=true:=by
   intro h
   have h1:id ∈ met:=by simpa using h
   rw [List.nodup_append] at hnd
   exact hnd.2.2 id h1 id (by simp) rfl
  rw [mapM,hs]
  simp only
  rw [if_neg hm,if_neg (by omega)]
  have hce:entsCh A ((id,low)::r)=ents s.nd++entsCh A r:=by unfold entsCh;rw [List.flatMap_cons,opNd_get hs]
  rw [hce,<-List.append_assoc]
  rcases hr with ⟨hr,rfl⟩|⟨hr,hc'⟩
  ·rw [hr]
   have h0:A.get 0=none:=by unfold Ar.get;rw [if_neg (by decide)]
   have:∀ f met leaf out,mapM A f 0 met leaf out=out:=λ f met leaf out=>by
    cases f with
    | zero=>rfl
    | succ f=>rw [mapM,h0]
   rw [this]
   unfold entsCh
   simp
  ·exact map_chain f _ _ r _ _ _ hc' (by simp at hf;omega) (by simpa using hnd)
theorem map_tree (hmay:∀ n,chk n=0->May n a0 a1 a2):∀ (f:Nat) (level first:Int) (up:Option Ch) (ts:List Ch) (met:List Int) (out:List Ent),Trs A chk level first up ts->0<=level->ts.flatten.length < f->(met++ts.flatten.map Prod.fst).Nodup->
  ∃ c,ts[level.toNat]?=some c/\(∃ id,Chn A chk 0 id [] c)/\mapM A f first met false out=out++entsCh A c
 | 0,_,_,_,_,_,_,_,_,h,_=>by omega
 | f+1,level,first,up,ts,met,out,hT,h0,hf,hnd=>by
  cases hT with
  | @base _ _ c h1 h2=>
   refine ⟨_,rfl,⟨_,h1⟩,map_chain (f+1) _ _ _ _ _ _ h1 ?_ ?_⟩
   ·simpa using hf
   ·simpa using hnd
  | @step _ _ _ c ts' hl h1 h2 h3=>
   obtain ⟨s,r,e,hs,hlv,hck,_,_⟩:=h1.at_
   subst e
   have hm:¬met.contains first=true:=by
    intro h
    have h1:first ∈ met:=by simpa using h
    rw [List.nodup_append] at hnd
    exact hnd.2.2 first h1 first (by simp) rfl
   obtain ⟨_,_,_,hkl,_⟩:=(hmay _ hck).inner (by omega)
   rw [mapM,hs]
   simp only
   rw [if_neg hm,if_pos (by omega),if_neg (by
    rw [show decide (s.nd.lvl<=0)=false by simp;omega]
    simp;intro h;rw [h] at hkl;simp at hkl),show (false||decide (s.nd.lvl<=0))=false by simp;omega]
   have hfk:firstKid A ((first,[])::r)=s.nd.kids.getD 0 0:=by show (opNd A first).kids.getD 0 0=_;rw [opNd_get hs]
   rw [hfk] at h3
   simp only [List.flatten_cons,List.cons_append,List.length_cons,List.length_append] at hf
   obtain ⟨c,k1,k2,k3⟩:=map_tree hmay f (level-1) _ _ ts' (met++[first]) out h3 (by omega) (by omega) (by
    simp only [List.flatten_cons,List.cons_append,List.map_cons,List.map_append] at hnd
    rw [show met++first::(List.map Prod.fst r++List.map Prod.fst ts'.flatten)=(met++[first])++(List.map Prod.fst r++List.map Prod.fst ts'.flatten) by simp] at hnd
    refine hnd.sublist ?_
    exact List.Sublist.append (List.Sublist.refl _) (List.sublist_append_right _ _))
   refine ⟨c,?_,k2,k3⟩
   rw [show level.toNat=(level-1).toNat+1 by omega]
   exact k1
theorem map_of {lv:Int} {ls:List Ch} (h:TreeOk A a0 a1 a2 chk lv ls):∃ c,ls[lv.toNat]?=some c/\(∃ id,Chn A chk 0 id [] c)/\mapOf A=entsCh A c:=by
 have hl:=h.len
 obtain ⟨c,h1,h2,h3⟩:=map_tree h.may (A.sl.length+1) lv A.root none ls [] [] h.trs h.lv0 (by omega) (by simpa using h.met.1)
 exact ⟨c,h1,h2,by unfold mapOf;simpa using h3⟩
theorem ents_keys (vals:List (List UInt8)):∀ (i:Nat) (ks:List (List UInt8)) (e:Ent),e ∈ entsM vals i ks->e.1 ∈ ks
 | _,[],e,h=>by simp [entsM] at h
 | i,k::ks,e,h=>by
  rcases List.mem_cons.1 h with h|h
  ·subst h;exact List.mem_cons_self ..
  ·exact List.mem_cons_of_mem _ (ents_keys vals (i+1) ks e h)
theorem ents_find (vals:List (List UInt8)):∀ (i:Nat) (ks:List (List UInt8)) (j:Nat),(∀ i',i' < j->ks[i']?≠some key)->ks[j]?=some key->(entsM vals i ks).find? (λ e=>e.1==key)=some (key,vals.getD (i+j) [])
 | _,[],j,_,h=>by simp at h
 | i,k::ks,0,_,h=>by
  simp at h;subst h
  simp [entsM]
 | i,k::ks,j+1,h1,h=>by
  have hk:(k==key)=false:=by
   have:=h1 0 (by omega)
   simpa using this
  rw [entsM,List.find?_cons]
  simp only [hk]
  rw [ents_find vals (i+1) ks j (λ i' hi=>by have:=h1 (i'+1) (by omega);simpa using this) (by simpa using h)]
  congr 3;omega
theorem has_iff {ks:List (List UInt8)}:has ks key=true ↔ key ∈ ks:=by
 constructor
 ·intro h
  obtain ⟨j,hj⟩:=has_at h
  exact List.mem_of_getElem? hj
 ·intro h
  unfold has
  rw [List.any_eq_true]
  exact ⟨key,h,by rw [cmp_self];rfl⟩
theorem ents_value {n:Nd} (hr:Rise n.keys):(ents n).find? (λ e=>e.1==key)=if has n.keys key=true then some (key,n.vals.getD (below n.keys key) []) else none:=by
 by_cases hh:has n.keys key=true
 ·rw [if_pos hh]
  have h1:=at_below hr hh
  have:=ents_find (key:=key) n.vals 0 n.keys (below n.keys key) (λ i' hi h=>by have:=below_at hr h;omega) h1
  rw [Nat.zero_add] at this
  exact this
 ·rw [if_neg hh]
  rw [List.find?_eq_none]
  intro e he h
  have h1:=ents_keys n.vals 0 n.keys e he
  have h2:e.1=key:=by simpa using h
  rw [h2] at h1
  exact hh (has_iff.2 h1)
theorem rise_ge {x y:List UInt8} {l:List (List UInt8)} (h:Rise (x::l)) (hy:y ∈ x::l):cmp x y<=0:=by
 rcases List.mem_cons.1 hy with e|hy
 ·subst e;rw [cmp_self];exact Int.le_refl _
 ·obtain ⟨i,hi⟩:=List.mem_iff_getElem?.1 hy
  exact Int.le_of_lt (rise_lt' h (i:=0) (j:=i+1) (by omega) rfl (by simpa using hi))
theorem low_keys {n:Nd} (hr:Rise n.keys) (hl:lowBad low n=false):∀ k ∈ n.keys,cmp low k<=0:=λ k hk=>by
 cases low with
 | nil=>exact cmp_nil k
 | cons a low=>
  unfold lowBad at hl
  rw [show decide (0 < (a::low).length)=true by simp,Bool.true_and,Bool.or_eq_false_iff] at hl
  have h1:=hl.1
  cases hks:n.keys with
  | nil=>rw [hks] at hk;simp at hk
  | cons x l=>
   rw [hks] at hk hr h1
   have h2:¬cmp x (a::low) < 0:=by simpa [keyBelow] using h1
   have h3:=cmp_swap_ x (a::low)
   exact cmp_le_le (b:=x) (by omega) (rise_ge hr hk)
theorem low_high {n:Nd} (hh:0 < n.high.length) (hl:lowBad low n=false):cmp low n.high<=0:=by
 cases low with
 | nil=>exact cmp_nil _
 | cons a low=>
  unfold lowBad at hl
  rw [show decide (0 < (a::low).length)=true by simp,Bool.true_and,Bool.or_eq_false_iff,show decide (0 < n.high.length)=true by simpa using hh,Bool.true_and] at hl
  have h2:¬cmp n.high (a::low)<=0:=by simpa using hl.2
  have h3:=cmp_swap_ (a::low) n.high
  omega
theorem chn_low (hmay:∀ n,chk n=0->May n a0 a1 a2) (h:Chn A chk level id low c):∀ e ∈ c,cmp low e.2<=0/\∀ k ∈ (opNd A e.1).keys,cmp e.2 k<=0:=by
 induction h with
 | last h1 h2 h3 h4 h5=>
  intro e he
  simp at he;subst he
  simp only [opNd_get h1]
  exact ⟨by rw [cmp_self];exact Int.le_refl _,low_keys (hmay _ h3).rise h4⟩
 | more h1 h2 h3 h4 h5 h6 ih=>
  intro e he
  have hm:=hmay _ h3
  rcases List.mem_cons.1 he with he|he
  ·subst he
   simp only [opNd_get h1]
   exact ⟨by rw [cmp_self];exact Int.le_refl _,low_keys hm.rise h4⟩
  ·obtain ⟨g1,g2⟩:=ih e he
   have hh:0 < _:=Nat.pos_of_ne_zero (λ h=>h5 (hm.high.1 h))
   exact ⟨cmp_le_le (low_high hh h4) g1,g2⟩
theorem entsCh_keys {c:Ch} {e:Ent} (h:e ∈ entsCh A c):∃ x ∈ c,e.1 ∈ (opNd A x.1).keys:=by
 unfold entsCh at h
 obtain ⟨x,hx,h⟩:=List.mem_flatMap.1 h
 exact ⟨x,hx,ents_keys _ _ _ _ h⟩
theorem find_none {l:List Ent} (h:∀ e ∈ l,e.1≠key):l.find? (λ e=>e.1==key)=none:=by
 rw [List.find?_eq_none]
 intro e he hk
 exact h e he (by simpa using hk)
theorem chn_find (hmay:∀ n,chk n=0->May n a0 a1 a2) {M:Int} {nd:Nd} {lw:List UInt8} (hle:cmp lw key<=0) (hnd:opNd A M=nd) (hb:beyond nd.high key=false) (h:Chn A chk level id low c):(M,lw) ∈ c->
  (entsCh A c).find? (λ e=>e.1==key)=(ents nd).find? (λ e=>e.1==key):=by
 induction h with
 | @last id low s h1 h2 h3 h4 h5=>
  intro he
  simp at he
  obtain ⟨rfl,rfl⟩:=he
  unfold entsCh
  simp [hnd]
 | @more id low s r h1 h2 h3 h4 h5 h6 ih=>
  intro he
  have hm:=hmay _ h3
  have hh:0 < s.nd.high.length:=Nat.pos_of_ne_zero (λ h=>h5 (hm.high.1 h))
  have hlow:=chn_low hmay h6
  have hce:entsCh A ((id,low)::r)=ents s.nd++entsCh A r:=by unfold entsCh;rw [List.flatMap_cons,opNd_get h1]
  rw [hce,List.find?_append]
  rcases List.mem_cons.1 he with he|he
  ·cases he
   rw [opNd_get h1] at hnd
   subst hnd
   have h7:(entsCh A r).find? (λ e=>e.1==key)=none:=find_none (λ e he hk=>by
    obtain ⟨x,hx,hkx⟩:=entsCh_keys he
    obtain ⟨g1,g2⟩:=hlow x hx
    have g3:=cmp_le_le g1 (g2 _ hkx)
    rw [hk] at g3
    have g4:=cmp_swap_ key s.nd.high
    have:beyond s.nd.high key=true:=beyond_iff.2 ⟨hh,by omega⟩
    rw [this] at hb;cases hb)
   rw [h7,Option.or_none]
  ·have h7:(ents s.nd).find? (λ e=>e.1==key)=none:=find_none (λ e he2 hk=>by
    have g1:=(hm.key _ (ents_keys _ _ _ _ he2)).2
    rw [hk] at g1
    have g2:=cmp_le_le (hlow _ he).1 hle
    have g4:=cmp_swap_ key s.nd.high
    have:beyond s.nd.high key=true:=beyond_iff.2 ⟨hh,by omega⟩
    rw [this] at g1;cases g1)
   rw [h7,Option.none_or]
   exact ih he
end
def keysOf (A:Ar) (c:Ch):Nat:=(c.map (λ e=>(opNd A e.1).keys.length)).sum
def nodesOf (ls:List Ch):Nat:=(ls.map List.length).sum
def checkOf (A:Ar) (ls:List Ch) (r:Rp):Rp:=if r.sound=false then r else ⟨true,0,0,ls.length,nodesOf ls,keysOf A (ls.getLastD [])⟩
def checkM (A:Ar) (a0 a1 a2 a3 a4:Int):Rp:=checkOf A (levelsM A a0 a1 a2 a3 a4).1 (levelsM A a0 a1 a2 a3 a4).2
theorem levelsFrom_rp (A:Ar) (chk:Nd->Int):∀ (f:Nat) (level first:Int) (met:List Int) (out:List Ch),(levelsFrom A chk f level first met out).2.sound=true->(levelsFrom A chk f level first met out).2=.ok
 | 0,_,_,_,_,_=>rfl
 | f+1,level,first,met,out,h=>by
  unfold levelsFrom at h ⊢
  simp only at h ⊢
  split
  ·rename_i hc
   rw [if_pos hc] at h
   simp only at h
   rw [hc] at h;cases h
  ·rename_i hc
   rw [if_neg hc] at h
   split
   ·rename_i hk
    rw [if_pos hk] at h
    simp only at h
    rw [hk] at h;cases h
   ·rename_i hk
    rw [if_neg hk] at h
    split
    ·rfl
    ·rename_i hl
     rw [if_neg hl] at h
     exact levelsFrom_rp A chk f _ _ _ _ h
theorem levelsM_rp {A:Ar} {a0 a1 a2 a3 a4:Int} (h:(levelsM A a0 a1 a2 a3 a4).2.sound=true):(levelsM A a0 a1 a2 a3 a4).2=.ok/\confOk a0 a1 a2 a3 a4=true:=by
 unfold levelsM at h ⊢
 split
 ·rename_i hc
  rw [if_pos hc] at h;cases h
 rename_i hc
 rw [if_neg hc] at h
 refine ⟨?_,by simpa using hc⟩
 cases hh:heldFrom 1 A.sl with
 | cons x l=>simp only [hh] at h;cases h
 | nil=>
  simp only [hh] at h ⊢
  cases hg:A.get A.root with
  | none=>simp only [hg] at h;cases h
  | some s=>
   simp only [hg] at h ⊢
   exact levelsFrom_rp _ _ _ _ _ _ _ h
theorem nodesOf_flat (ls:List Ch):nodesOf ls=ls.flatten.length:=by
 unfold nodesOf
 rw [List.length_flatten]
theorem nodesOf_take {ls:List Ch} {k:Nat} {c:Ch} (h:ls[k]?=some c):nodesOf (ls.take (k+1))=nodesOf (ls.take k)+c.length:=by
 unfold nodesOf
 rw [List.take_add_one,h]
 simp
theorem nodesOf_le (ls:List Ch) (k:Nat):nodesOf (ls.take k)<=nodesOf ls:=by
 have:nodesOf ls=nodesOf (ls.take k)+nodesOf (ls.drop k):=by
  unfold nodesOf
  rw [<-List.sum_append,<-List.map_append,List.take_append_drop]
 omega
theorem keysOf_take {A:Ar} {c:Ch} {k:Nat} {e:Int × List UInt8} (h:c[k]?=some e):keysOf A (c.take (k+1))=keysOf A (c.take k)+(opNd A e.1).keys.length:=by
 unfold keysOf
 rw [List.take_add_one,h]
 simp
theorem keysOf_le {A:Ar} {n:Nat}:∀ (c:Ch),(∀ e ∈ c,(opNd A e.1).keys.length<=n)->keysOf A c<=n*c.length
 | [],_=>by simp [keysOf]
 | e::c,h=>by
  have h1:=h e (List.mem_cons_self ..)
  have h2:=keysOf_le c (λ x hx=>h x (List.mem_cons_of_mem _ hx))
  have h3:keysOf A (e::c)=(opNd A e.1).keys.length+keysOf A c:=by unfold keysOf;simp
  rw [h3,List.length_cons,Nat.mul_add]
  omega
theorem trs_ne {A:Ar} {chk:Nd->Int} {level first:Int} {up:Option Ch} {ts:List Ch} (h:Trs A chk level first up ts):∀ c ∈ ts,c≠[]:=by
 induction h with
 | base h1 _=>
  intro c hc
  simp at hc;subst hc
  obtain ⟨_,_,e,_⟩:=h1.at_
  rw [e];simp
 | step _ h1 _ _ ih=>
  intro c hc
  rcases List.mem_cons.1 hc with hc|hc
  ·subst hc
   obtain ⟨_,_,e,_⟩:=h1.at_
   rw [e];simp
  ·exact ih c hc
theorem last_chain {A:Ar} {chk:Nd->Int} {a0 a1 a2 lv:Int} {ls:List Ch} (h:TreeOk A a0 a1 a2 chk lv ls):∃ c,ls[ls.length-1]?=some c/\0 < ls.length/\ls.getLastD []=c/\(∀ e ∈ c,∃ s,A.get e.1=some s/\(s.nd.keys.length:Int)<=a1)/\c.length<=A.sl.length:=by
 obtain ⟨c,h1,⟨id,h2⟩,_⟩:=map_of h
 have hl:=h.trs.length
 have h0:=h.lv0
 have hlt:=(List.getElem?_eq_some_iff.1 h1).1
 have e:lv.toNat=ls.length-1:=by omega
 rw [e] at h1
 refine ⟨c,h1,by omega,?_,λ x hx=>?_,?_⟩
 ·rw [List.getLastD_eq_getLast?,List.getLast?_eq_getElem?,h1];rfl
 ·obtain ⟨c',g1,_,_⟩:=h2.mem hx
  obtain ⟨s,_,_,hs,hlv,hck,_⟩:=g1.at_
  exact ⟨s,hs,((h.may _ hck).leaf hlv).2.1⟩
 ·have:=h.len
  have h3:=(List.sublist_flatten_of_mem (List.mem_of_getElem? h1)).length_le
  omega
section
variable {A A':Ar} {chk:Nd->Int} {a0 a1 a2 level id first:Int} {low key:List UInt8} {met:List Int} {acc c l down:Ch} {s:Sl} {up:Option Ch} {ts:List Ch}
theorem chn_chainM:∀ (f:Nat) (id:Int) (low:List UInt8) (met:List Int) (acc c:Ch),Chn A chk level id low c->c.length<=f->(met++c.map Prod.fst).Nodup->chainM A chk level f id low met acc=(acc++c,met++c.map Prod.fst,.ok)
 | 0,_,_,_,_,c,h,hf,_=>by obtain ⟨_,_,e,_⟩:=h.at_;subst e;simp at hf
 | f+1,id,low,met,acc,c,h,hf,hnd=>by
  obtain ⟨s,r,e,hs,hlv,hck,hlb,hr⟩:=h.at_
  subst e
  have hm:¬met.contains id=true:=by
   intro h
   have h1:id ∈ met:=by simpa using h
   rw [List.nodup_append] at hnd
   exact hnd.2.2 id h1 id (by simp) rfl
  unfold chainM
  rw [hs]
  simp only
  rw [if_neg hm,if_neg (by simpa using hlv),if_neg (by simpa using hck),if_neg (by rw [hlb];decide)]
  rcases hr with ⟨hr,rfl⟩|⟨hr,hc'⟩
  ·rw [if_pos hr];simp
  ·rw [if_neg hr,chn_chainM f _ _ _ _ r hc' (by simp at hf;omega) (by simpa using hnd)]
   simp
theorem kidsM_of:∀ {u:Ch},(∀ e ∈ u,nodeKids down e.2 (opNd A e.1)=true)->kidsM A down u=.ok
 | [],_=>rfl
 | (i,lw)::u,h=>by
  unfold kidsM
  rw [if_pos (h (i,lw) (List.mem_cons_self ..))]
  exact kidsM_of (λ e he=>h e (List.mem_cons_of_mem _ he))
theorem trs_levels:∀ (f:Nat) (level first:Int) (up:Option Ch) (ts:List Ch) (met:List Int) (out:List Ch),Trs A chk level first up ts->0<=level->level < f->out.getLast?=up->MetA A (met++ts.flatten.map Prod.fst)->levelsFrom A chk f level first met out=(out++ts,.ok)
 | 0,level,_,_,_,_,_,_,h0,hf,_,_=>by omega
 | f+1,level,first,up,ts,met,out,hT,h0,hf,hup,hmet=>by
  have hlen:=hmet.len
  simp only [List.length_append,List.length_map] at hlen
  have hkl:∀ {c:Ch},UpOk A up c->kidsLast A out c=.ok:=λ {c} hu=>by
   unfold kidsLast
   rw [hup]
   cases up with
   | none=>rfl
   | some u=>exact kidsM_of (hu u rfl)
  cases hT with
  | @base _ _ c h1 h2=>
   have e:=chn_chainM (A.sl.length+1-met.length) first [] met [] c h1 (by simp at hlen;omega) (by simpa using hmet.1)
   unfold levelsFrom
   simp only [e]
   rw [if_neg (by decide),if_neg (by rw [List.nil_append,hkl h2];decide),if_pos trivial]
   rfl
  | @step _ _ _ c ts' hl h1 h2 h3=>
   simp only [List.flatten_cons,List.length_append,List.map_append] at hlen hmet
   have e:=chn_chainM (A.sl.length+1-met.length) first [] met [] c h1 (by omega) (by
    have:=hmet.1
    rw [<-List.append_assoc] at this
    exact (List.nodup_append.1 this).1)
   unfold levelsFrom
   simp only [e]
   rw [if_neg (by decide),if_neg (by rw [List.nil_append,hkl h2];decide),if_neg hl]
   rw [List.nil_append,trs_levels f (level-1) _ (some c) ts' (met++c.map Prod.fst) (out++[c]) h3 (by have:=h3.length;omega) (by omega) (by simp) (by rw [List.append_assoc];exact hmet)]
   simp
theorem held_none:∀ {i:Nat} {l:List Sl},(∀ s ∈ l,s.word % 2=0)->heldFrom i l=[]
 | _,[],_=>rfl
 | i,s::l,h=>by
  unfold heldFrom
  rw [if_neg (by have:=h s (List.mem_cons_self ..);omega)]
  exact held_none (λ x hx=>h x (List.mem_cons_of_mem _ hx))
theorem TreeOk.levels {a3 a4 lv:Int} {ls:List Ch} (h:TreeOk A a0 a1 a2 (chkM a0 a1 a2 a3 a4) lv ls) (hc:confOk a0 a1 a2 a3 a4=true):levelsM A a0 a1 a2 a3 a4=(ls,.ok):=by
 obtain ⟨s,hs,hl⟩:=h.top
 have h0:=h.lv0
 unfold levelsM
 rw [if_neg (by rw [hc];decide),held_none h.even]
 simp only [hs]
 rw [hl]
 have:=trs_levels (lv.toNat+1) lv A.root none ls [] [] h.trs h0 (by omega) rfl (by simpa using h.met)
 rw [this,List.nil_append]
theorem TreeOk.sound {a3 a4 lv:Int} {ls:List Ch} (h:TreeOk A a0 a1 a2 (chkM a0 a1 a2 a3 a4) lv ls) (hc:confOk a0 a1 a2 a3 a4=true):checkM A a0 a1 a2 a3 a4=⟨true,0,0,ls.length,nodesOf ls,keysOf A (ls.getLastD [])⟩:=by
 unfold checkM
 rw [h.levels hc]
 rfl
/-! ### what lies elsewhere -/
theorem Chn.far (h:Chn A chk level id low c):(∀ e ∈ c,(A'.get e.1).map Sl.nd=(A.get e.1).map Sl.nd)->Chn A' chk level id low c:=by
 induction h with
 | @last id low s h1 h2 h3 h4 h5=>
  intro hf
  have:=hf _ (List.mem_cons_self ..)
  simp only [h1,Option.map_some] at this
  obtain ⟨s',hs',he⟩:=Option.map_eq_some_iff.1 this
  rw [<-he] at h2 h3 h4 h5
  exact .last hs' h2 h3 h4 h5
 | @more id low s r h1 h2 h3 h4 h5 h6 ih=>
  intro hf
  have:=hf _ (List.mem_cons_self ..)
  simp only [h1,Option.map_some] at this
  obtain ⟨s',hs',he⟩:=Option.map_eq_some_iff.1 this
  have h6':=ih (λ e he=>hf e (List.mem_cons_of_mem _ he))
  rw [<-he] at h2 h3 h4 h5 h6'
  exact .more hs' h2 h3 h4 h5 h6'
theorem opNd_far {x:Int} (h:(A'.get x).map Sl.nd=(A.get x).map Sl.nd):opNd A' x=opNd A x:=by
 unfold opNd
 cases h1:A.get x with
 | none=>rw [h1] at h;simp only [Option.map_none,Option.map_eq_none_iff] at h;rw [h]
 | some s=>
  rw [h1] at h
  simp only [Option.map_some] at h
  obtain ⟨s',hs',he⟩:=Option.map_eq_some_iff.1 h
  rw [hs'];exact he
end
end Go.Proofs.YtjcgphhpaenjkaaGreat

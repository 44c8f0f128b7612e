import Derived.Test.YtjcgphhpaenjkaaPkA8
set_option linter.unusedVariables false
namespace Go.Proofs.Ytjcgphhpaenjkaa
open Go.RowKit
section
variable {A A':Ar} {chk:Nd->Int} {a0 a1 a2 level id first:Int} {low key:List UInt8} {met:List Int} {acc c l down:Ch} {s:Sl} {up:Option Ch} {ts:List Ch}
theorem chn_chainM:∀ (f:Nat) (id:Int) (low:List UInt8) (met:List Int) (acc c:Ch),Chn A chk level id low c->c.length<=f->(met++c.map Prod.fst).Nodup->chainM A chk level f id low met acc=(acc++c,met++c.map Prod.fst,.ok)
 | 0,_,_,_,_,c,h,hf,_=>by obtain ⟨_,_,e,_⟩:=h.at_;subst e;simp at hf
 | f+1,id,low,met,acc,c,h,hf,hnd=>by
  obtain ⟨s,r,e,hs,hlv,hck,hlb,hr⟩:=h.at_
  subst e
  have hm:¬met.contains id=true:=by
   intro h
   have h1:id ∈ met:=by simpa using h
   rw [List.nodup_append] at hnd
   exact hnd.2.2 id h1 id (by simp) rfl
  unfold chainM
  rw [hs]
  simp only
  rw [if_neg hm,if_neg (by simpa using hlv),if_neg (by simpa using hck),if_neg (by rw [hlb];decide)]
  rcases hr with ⟨hr,rfl⟩|⟨hr,hc'⟩
  ·rw [if_pos hr];simp
  ·rw [if_neg hr,chn_chainM f _ _ _ _ r hc' (by simp at hf;omega) (by simpa using hnd)]
   simp
theorem kidsM_of:∀ {u:Ch},(∀ e ∈ u,nodeKids down e.2 (opNd A e.1)=true)->kidsM A down u=.ok
 | [],_=>rfl
 | (i,lw)::u,h=>by
  unfold kidsM
  rw [if_pos (h (i,lw) (List.mem_cons_self ..))]
  exact kidsM_of (λ e he=>h e (List.mem_cons_of_mem _ he))
theorem trs_levels:∀ (f:Nat) (level first:Int) (up:Option Ch) (ts:List Ch) (met:List Int) (out:List Ch),Trs A chk level first up ts->0<=level->level < f->out.getLast?=up->MetA A (met++ts.flatten.map Prod.fst)->levelsFrom A chk f level first met out=(out++ts,.ok)
 | 0,level,_,_,_,_,_,_,h0,hf,_,_=>by omega
 | f+1,level,first,up,ts,met,out,hT,h0,hf,hup,hmet=>by
  have hlen:=hmet.len
  simp only [List.length_append,List.length_map] at hlen
  have hkl:∀ {c:Ch},UpOk A up c->kidsLast A out c=.ok:=λ {c} hu=>by
   unfold kidsLast
   rw [hup]
   cases up with
   | none=>rfl
   | some u=>exact kidsM_of (hu u rfl)
  cases hT with
  | @base _ _ c h1 h2=>
   have e:=chn_chainM (A.sl.length+1-met.length) first [] met [] c h1 (by simp at hlen;omega) (by simpa using hmet.1)
   unfold levelsFrom
   simp only [e]
   rw [if_neg (by decide),if_neg (by rw [List.nil_append,hkl h2];decide),if_pos trivial]
   rfl
  | @step _ _ _ c ts' hl h1 h2 h3=>
   simp only [List.flatten_cons,List.length_append,List.map_append] at hlen hmet
   have e:=chn_chainM (A.sl.length+1-met.length) first [] met [] c h1 (by omega) (by
    have:=hmet.1
    rw [<-List.append_assoc] at this
    exact (List.nodup_append.1 this).1)
   unfold levelsFrom
   simp only [e]
   rw [if_neg (by decide),if_neg (by rw [List.nil_append,hkl h2];decide),if_neg hl]
   rw [List.nil_append,trs_levels f (level-1) _ (some c) ts' (met++c.map Prod.fst) (out++[c]) h3 (by have:=h3.length;omega) (by omega) (by simp) (by rw [List.append_assoc];exact hmet)]
   simp
theorem held_none:∀ {i:Nat} {l:List Sl},(∀ s ∈ l,s.word % 2=0)->heldFrom i l=[]
 | _,[],_=>rfl
 | i,s::l,h=>by
  unfold heldFrom
  rw [if_neg (by have:=h s (List.mem_cons_self ..);omega)]
  exact held_none (λ x hx=>h x (List.mem_cons_of_mem _ hx))
theorem TreeOk.levels {a3 a4 lv:Int} {ls:List Ch} (h:TreeOk A a0 a1 a2 (chkM a0 a1 a2 a3 a4) lv ls) (hc:confOk a0 a1 a2 a3 a4=true):levelsM A a0 a1 a2 a3 a4=(ls,.ok):=by
 obtain ⟨s,hs,hl⟩:=h.top
 have h0:=h.lv0
 unfold levelsM
 rw [if_neg (by rw [hc];decide),held_none h.even]
 simp only [hs]
 rw [hl]
 have:=trs_levels (lv.toNat+1) lv A.root none ls [] [] h.trs h0 (by omega) rfl (by simpa using h.met)
 rw [this,List.nil_append]
theorem TreeOk.sound {a3 a4 lv:Int} {ls:List Ch} (h:TreeOk A a0 a1 a2 (chkM a0 a1 a2 a3 a4) lv ls) (hc:confOk a0 a1 a2 a3 a4=true):checkM A a0 a1 a2 a3 a4=⟨true,0,0,ls.length,nodesOf ls,keysOf A (ls.getLastD [])⟩:=by
 unfold checkM
 rw [h.levels hc]
 rfl
/-! ### what lies elsewhere -/
theorem Chn.far (h:Chn A chk level id low c):(∀ e ∈ c,(A'.get e.1).map Sl.nd=(A.get e.1).map Sl.nd)->Chn A' chk level id low c:=by
 induction h with
 | @last id low s h1 h2 h3 h4 h5=>
  intro hf
  have:=hf _ (List.mem_cons_self ..)
  simp only [h1,Option.map_some] at this
  obtain ⟨s',hs',he⟩:=Option.map_eq_some_iff.1 this
  rw [<-he] at h2 h3 h4 h5
  exact .last hs' h2 h3 h4 h5
 | @more id low s r h1 h2 h3 h4 h5 h6 ih=>
  intro hf
  have:=hf _ (List.mem_cons_self ..)
  simp only [h1,Option.map_some] at this
  obtain ⟨s',hs',he⟩:=Option.map_eq_some_iff.1 this
  have h6':=ih (λ e he=>hf e (List.mem_cons_of_mem _ he))
  rw [<-he] at h2 h3 h4 h5 h6'
  exact .more hs' h2 h3 h4 h5 h6'
theorem opNd_far {x:Int} (h:(A'.get x).map Sl.nd=(A.get x).map Sl.nd):opNd A' x=opNd A x:=by
 unfold opNd
 cases h1:A.get x with
 | none=>rw [h1] at h;simp only [Option.map_none,Option.map_eq_none_iff] at h;rw [h]
 | some s=>
  rw [h1] at h
  simp only [Option.map_some] at h
  obtain ⟨s',hs',he⟩:=Option.map_eq_some_iff.1 h
  rw [hs'];exact he
end
structure TrI (A:Ar) (chk:Nd->Int) (lv root:Int) (ls:List Ch):Prop where
 len:(ls.length:Int)=lv+1
 top:∀ c,ls[0]?=some c->Chn A chk lv root [] c
 chn:∀ (j:Nat) c d,ls[j]?=some c->ls[j+1]?=some d->Chn A chk (lv-((j:Int)+1)) (firstKid A c) [] d/\∀ e ∈ c,nodeKids d e.2 (opNd A e.1)=true
def insA (id:Int) (x:Int × List UInt8):Ch->Ch
 | []=>[]
 | e::c=>if e.1=id then e::x::c else e::insA id x c
section
variable {A A':Ar} {chk:Nd->Int} {a0 a1 a2 level lv id ix first root:Int} {low lw key k:List UInt8} {c d l down down':Ch} {s s1 s2 t:Sl} {up:Option Ch} {ts ls:List Ch} {j:Nat} {n:Nd} {x:Int}
theorem Trs.index (h:Trs A chk level first up ts):TrI A chk level first ts/\∀ c,ts[0]?=some c->UpOk A up c:=by
 induction h with
 | @base first up c h1 h2=>
  refine ⟨⟨rfl,λ c' hc=>?_,λ j c' d hc hd=>?_⟩,λ c' hc=>?_⟩
  ·cases hc;exact h1
  ·simp at hd
  ·cases hc;exact h2
 | @step level first up c ts hl h1 h2 h3 ih=>
  obtain ⟨⟨g1,g2,g3⟩,g4⟩:=ih
  refine ⟨⟨by simp only [List.length_cons];omega,λ c' hc=>?_,λ j c' d hc hd=>?_⟩,λ c' hc=>?_⟩
  ·cases hc;exact h1
  ·cases j with
   | zero=>
    cases hc
    simp only [Nat.zero_add,List.getElem?_cons_succ] at hd
    exact ⟨g2 d hd,g4 d hd c rfl⟩
   | succ j=>
    simp only [List.getElem?_cons_succ] at hc hd
    have:=g3 j c' d hc hd
    rw [show level-(((j+1:Nat):Int)+1)=level-1-((j:Int)+1) by omega]
    exact this
  ·cases hc;exact h2
theorem TrI.trs:∀ (ls:List Ch) (lv root:Int) (up:Option Ch),TrI A chk lv root ls->0<=lv->(∀ c,ls[0]?=some c->UpOk A up c)->Trs A chk lv root up ls
 | [],lv,_,_,h,h0,_=>by have:=h.len;simp at this;omega
 | [c],lv,root,up,h,h0,hu=>by
  have hl:=h.len
  simp only [List.length_singleton] at hl
  obtain rfl:lv=0:=by omega
  exact .base (h.top c rfl) (hu c rfl)
 | c::d::ls,lv,root,up,h,h0,hu=>by
  have hl:=h.len
  simp only [List.length_cons] at hl
  refine .step (by omega) (h.top c rfl) (hu c rfl) (TrI.trs (d::ls) (lv-1) _ _ ⟨by simp only [List.length_cons];omega,λ c' hc=>?_,λ j c' d' hc hd=>?_⟩ (by omega) (λ c' hc u hu' e he=>?_))
  ·cases hc
   have:=(h.chn 0 c d rfl rfl).1
   exact this
  ·have:=h.chn (j+1) c' d' (by simpa using hc) (by simpa using hd)
   rw [show lv-1-((j:Int)+1)=lv-(((j+1:Nat):Int)+1) by omega]
   exact this
  ·cases hc;cases hu'
   exact (h.chn 0 c d rfl rfl).2 e he
theorem TreeOk.ti {ls:List Ch} (h:TreeOk A a0 a1 a2 chk lv ls):TrI A chk lv A.root ls:=h.trs.index.1
theorem nodup_in {i:Nat} {lw lw':List UInt8} {c c':Ch} (h:(ls.flatten.map Prod.fst).Nodup) (hj:ls[j]?=some c) (he:(ix,lw) ∈ c) (hi:ls[i]?=some c') (he':(ix,lw') ∈ c'):i=j/\lw'=lw:=by
 rw [List.map_flatten,List.nodup_iff_pairwise_ne,List.pairwise_flatten] at h
 obtain ⟨h1,h2⟩:=h
 have hij:i=j:=by
  rcases Nat.lt_trichotomy i j with hlt|heq|hlt
  ·exfalso
   obtain ⟨hi1,hi2⟩:=List.getElem?_eq_some_iff.1 hi
   obtain ⟨hj1,hj2⟩:=List.getElem?_eq_some_iff.1 hj
   have:=List.pairwise_iff_getElem.1 h2 i j (by simpa using hi1) (by simpa using hj1) hlt
   simp only [List.getElem_map,hi2,hj2] at this
   exact this _ (List.mem_map.2 ⟨_,he',rfl⟩) _ (List.mem_map.2 ⟨_,he,rfl⟩) rfl
  ·exact heq
  ·exfalso
   obtain ⟨hi1,hi2⟩:=List.getElem?_eq_some_iff.1 hi
   obtain ⟨hj1,hj2⟩:=List.getElem?_eq_some_iff.1 hj
   have:=List.pairwise_iff_getElem.1 h2 j i (by simpa using hj1) (by simpa using hi1) hlt
   simp only [List.getElem_map,hi2,hj2] at this
   exact this _ (List.mem_map.2 ⟨_,he,rfl⟩) _ (List.mem_map.2 ⟨_,he',rfl⟩) rfl
 subst hij
 rw [hj] at hi;cases hi
 have hn:(c.map Prod.fst).Nodup:=List.nodup_iff_pairwise_ne.2 <| h1 (c.map Prod.fst) (List.mem_map.2 ⟨c,List.mem_of_getElem? hj,rfl⟩)
 refine ⟨rfl,?_⟩
 obtain ⟨p,hp,hp2⟩:=List.mem_iff_getElem.1 he
 obtain ⟨q,hq,hq2⟩:=List.mem_iff_getElem.1 he'
 have:p=q:=by
  have:=(List.getElem_inj (xs:=c.map Prod.fst) (i:=p) (j:=q) (h₀:=by simpa using hp) (h₁:=by simpa using hq) hn).1 (by simp only [List.getElem_map,hp2,hq2])
  exact this
 subst this
 rw [hp2] at hq2
 cases hq2;rfl
theorem Chn.turn (h:Chn A chk level first low c):(∀ e ∈ c,∀ s,A.get e.1=some s->chk s.nd=0->lowBad e.2 s.nd=false->∃ s',A'.get e.1=some s'/\s'.nd.lvl=s.nd.lvl/\s'.nd.right=s.nd.right/\s'.nd.high=s.nd.high/\chk s'.nd=0/\lowBad e.2 s'.nd=false)->Chn A' chk level first low c:=by
 induction h with
 | @last id low s h1 h2 h3 h4 h5=>
  intro hf
  obtain ⟨s',g1,g2,g3,g4,g5,g6⟩:=hf _ (List.mem_cons_self ..) s h1 h3 h4
  exact .last g1 (g2.trans h2) g5 g6 (g3.trans h5)
 | @more id low s r h1 h2 h3 h4 h5 h6 ih=>
  intro hf
  obtain ⟨s',g1,g2,g3,g4,g5,g6⟩:=hf _ (List.mem_cons_self ..) s h1 h3 h4
  have h6':=ih (λ e he=>hf e (List.mem_cons_of_mem _ he))
  rw [<-g3,<-g4] at h6'
  exact .more g1 (g2.trans h2) g5 g6 (by rw [g3];exact h5) h6'
theorem Chn.ok (h:Chn A chk level first low c):∀ e ∈ c,∃ s,A.get e.1=some s/\s.nd.lvl=level/\chk s.nd=0/\lowBad e.2 s.nd=false:=λ e he=>by
 obtain ⟨c',g1,_,_⟩:=h.mem he
 obtain ⟨s,_,_,k1,k2,k3,k4,_⟩:=g1.at_
 exact ⟨s,k1,k2,k3,k4⟩
theorem Chn.head_ (h:Chn A chk level first low c):∃ r,c=(first,low)::r:=by
 obtain ⟨_,r,e,_⟩:=h.at_;exact ⟨r,e⟩
theorem TrI.at_ (h:TrI A chk lv root ls) (hj:ls[j]?=some c):∃ f,Chn A chk (lv-j) f [] c/\(j=0->f=root):=by
 cases j with
 | zero=>exact ⟨root,by simpa using h.top c hj,λ _=>rfl⟩
 | succ j=>
  have hlt:=(List.getElem?_eq_some_iff.1 hj).1
  obtain ⟨d,hd⟩:∃ d,ls[j]?=some d:=⟨_,List.getElem?_eq_getElem (by omega)⟩
  exact ⟨_,(h.chn j d c hd hj).1,λ h=>by omega⟩
theorem TrI.turn (h:TrI A chk lv root ls)
  (hf:∀ (j:Nat) c,ls[j]?=some c->∀ e ∈ c,∀ s,A.get e.1=some s->s.nd.lvl=lv-j->chk s.nd=0->lowBad e.2 s.nd=false->∃ s',A'.get e.1=some s'/\(s'.nd.lvl=s.nd.lvl/\s'.nd.right=s.nd.right/\s'.nd.high=s.nd.high/\chk s'.nd=0/\lowBad e.2 s'.nd=false)/\s'.nd.kids.getD 0 0=s.nd.kids.getD 0 0)
  (hk:∀ (j:Nat) c d,ls[j]?=some c->ls[j+1]?=some d->∀ e ∈ c,nodeKids d e.2 (opNd A e.1)=true->nodeKids d e.2 (opNd A' e.1)=true):TrI A' chk lv root ls:=by
 have hc:∀ (j:Nat) c f,ls[j]?=some c->Chn A chk (lv-j) f [] c->Chn A' chk (lv-j) f [] c:=λ j c f hj hc=>hc.turn (λ e he s hs h1 h2=>by
  obtain ⟨s0,k1,k2,_⟩:=hc.ok e he
  rw [hs] at k1;cases k1
  obtain ⟨s',g1,⟨g2,g3,g4,g5,g6⟩,_⟩:=hf j c hj e he s hs k2 h1 h2
  exact ⟨s',g1,g2,g3,g4,g5,g6⟩)
 refine ⟨h.len,λ c hc0=>by have:=hc 0 c root hc0 (by simpa using h.top c hc0);simpa using this,λ j c d hj hd=>?_⟩
 obtain ⟨g1,g2⟩:=h.chn j c d hj hd
 have hfk:firstKid A' c=firstKid A c:=by
  obtain ⟨f,k1,_⟩:=h.at_ hj
  obtain ⟨r,e⟩:=k1.head_
  subst e
  obtain ⟨s,m1,m2,m3,m4⟩:=k1.ok (f,[]) (List.mem_cons_self ..)
  obtain ⟨s',n1,_,n2⟩:=hf j _ hj (f,[]) (List.mem_cons_self ..) s m1 m2 m3 m4
  show (opNd A' f).kids.getD 0 0=(opNd A f).kids.getD 0 0
  rw [opNd_get n1,opNd_get m1,n2]
 refine ⟨?_,λ e he=>hk j c d hj hd e he (g2 e he)⟩
 rw [hfk]
 have:=hc (j+1) d (firstKid A c) hd (by rw [show lv-((j+1:Nat):Int)=lv-((j:Int)+1) by omega];exact g1)
 rw [show lv-((j+1:Nat):Int)=lv-((j:Int)+1) by omega] at this
 exact this
theorem put_get' (hs:A.get ix=some s) (t:Sl):(A.put ix t).get ix=some t:=by
 have:=get_le hs
 unfold Ar.get at hs ⊢
 unfold Ar.put
 rw [if_pos this.1]
 simp only
 rw [List.getElem?_set,if_pos rfl,if_pos (by omega)]
theorem put_get_ne (h:x≠ix) (h1:1<=ix) (t:Sl):(A.put ix t).get x=A.get x:=by
 unfold Ar.get Ar.put
 split
 ·simp only
  rw [List.getElem?_set,if_neg (by omega)]
 ·rfl
theorem TrI.put (h:TrI A chk lv root ls) (hnd:(ls.flatten.map Prod.fst).Nodup) (hj:ls[j]?=some c) (he:(ix,lw) ∈ c) (hs:A.get ix=some s) (ht:t.nd.lvl=s.nd.lvl/\t.nd.right=s.nd.right/\t.nd.high=s.nd.high) (hck:chk t.nd=0) (hlb:lowBad lw t.nd=false) (hk0:t.nd.kids.getD 0 0=s.nd.kids.getD 0 0) (hk:∀ d,ls[j+1]?=some d->nodeKids d lw t.nd=true):TrI (A.put ix t) chk lv root ls:=by
 have h1:=(get_le hs).1
 refine h.turn (λ i c' hi e he' s0 hs0 hl0 hc0 hb0=>?_) (λ i c' d hi hd e he' hn=>?_)
 ·by_cases hx:e.1=ix
  ·obtain ⟨e1,e2⟩:=e
   simp only at hx hs0 hb0 ⊢
   subst hx
   obtain ⟨rfl,rfl⟩:=nodup_in hnd hj he hi he'
   rw [hs] at hs0;cases hs0
   exact ⟨t,put_get' hs t,⟨ht.1,ht.2.1,ht.2.2,hck,hlb⟩,hk0⟩
  ·exact ⟨s0,by rw [put_get_ne hx h1];exact hs0,⟨rfl,rfl,rfl,hc0,hb0⟩,rfl⟩
 ·by_cases hx:e.1=ix
  ·obtain ⟨e1,e2⟩:=e
   simp only at hx ⊢
   subst hx
   obtain ⟨rfl,rfl⟩:=nodup_in hnd hj he hi he'
   rw [opNd_get (put_get' hs t)]
   exact hk d hd
  ·rw [show opNd (A.put ix t) e.1=opNd A e.1 by unfold opNd;rw [put_get_ne hx h1]]
   exact hn
theorem kidOk_mono (hs:∀ e ∈ down,e ∈ down') {kid:Int} (h:kidOk down kid k=true):kidOk down' kid k=true:=by
 unfold kidOk at *
 rw [List.any_eq_true] at *
 obtain ⟨e,he,h2⟩:=h
 exact ⟨e,hs e he,h2⟩
theorem nodeKids_mono (hs:∀ e ∈ down,e ∈ down') (h:nodeKids down lw n=true):nodeKids down' lw n=true:=by
 unfold nodeKids at *
 rw [List.all_eq_true] at *
 exact λ i hi=>kidOk_mono hs (h i hi)
theorem insA_mem:∀ {c:Ch} {e:Int × List UInt8} {y:Int × List UInt8},e ∈ insA ix y c->e ∈ c\/e=y
 | [],e,y,h=>by simp [insA] at h
 | a::c,e,y,h=>by
  unfold insA at h
  split at h
  ·rcases List.mem_cons.1 h with h|h
   ·subst h;exact .inl (List.mem_cons_self ..)
   ·rcases List.mem_cons.1 h with h|h
    ·exact .inr h
    ·exact .inl (List.mem_cons_of_mem _ h)
  ·rcases List.mem_cons.1 h with h|h
   ·subst h;exact .inl (List.mem_cons_self ..)
   ·exact (insA_mem h).imp (List.mem_cons_of_mem _) id
theorem mem_insA:∀ {c:Ch} {e:Int × List UInt8} {y:Int × List UInt8},e ∈ c->e ∈ insA ix y c
 | a::c,e,y,h=>by
  unfold insA
  split
  ·rcases List.mem_cons.1 h with h|h
   ·subst h;exact List.mem_cons_self ..
   ·exact List.mem_cons_of_mem _ (List.mem_cons_of_mem _ h)
  ·rcases List.mem_cons.1 h with h|h
   ·subst h;exact List.mem_cons_self ..
   ·exact List.mem_cons_of_mem _ (mem_insA h)
theorem insA_perm:∀ {c:Ch} {y:Int × List UInt8},(ix,lw) ∈ c->(insA ix y c).Perm (y::c)
 | a::c,y,h=>by
  unfold insA
  split
  ·exact List.Perm.swap _ _ _
  ·rename_i hne
   rcases List.mem_cons.1 h with h|h
   ·subst h;exact absurd rfl hne
   ·exact ((insA_perm h).cons a).trans (List.Perm.swap _ _ _)
theorem insA_in {y:Int × List UInt8} (h:(ix,lw) ∈ c):y ∈ insA ix y c:=(insA_perm h).mem_iff.2 (List.mem_cons_self ..)
theorem set_flatten:∀ {ls:List Ch} {j:Nat} {c c':Ch} {y:Int × List UInt8},ls[j]?=some c->c'.Perm (y::c)->(ls.set j c').flatten.Perm (y::ls.flatten)
 | a::ls,0,c,c',y,h,hp=>by
  simp at h;subst h
  simp only [sb_,List.flatten_cons]
  exact (hp.append_right _)
 | a::ls,j+1,c,c',y,h,hp=>by
  simp only [sc_,List.flatten_cons]
  have ih:=set_flatten (ls:=ls) (j:=j) (by simpa using h) hp
  exact (ih.append_left a).trans List.perm_middle
theorem Chn.split (h:Chn A chk level first low c):(c.map Prod.fst).Nodup->(ix,lw) ∈ c->A.get ix=some s->(∀ e ∈ c,e.1≠ix->(A'.get e.1).map Sl.nd=(A.get e.1).map Sl.nd)->
  (A'.get ix=some s1/\s1.nd.lvl=s.nd.lvl/\s1.nd.right=x/\x≠0/\s1.nd.high=k/\chk s1.nd=0/\lowBad lw s1.nd=false)->(A'.get x=some s2/\s2.nd.lvl=s.nd.lvl/\s2.nd.right=s.nd.right/\s2.nd.high=s.nd.high/\chk s2.nd=0/\lowBad k s2.nd=false)->Chn A' chk level first low (insA ix (x,k) c):=by
 induction h with
 | @last id low t h1 h2 h3 h4 h5=>
  intro hnd he hs hf g1 g2
  simp only [List.mem_singleton,Prod.mk.injEq] at he
  obtain ⟨rfl,rfl⟩:=he
  rw [hs] at h1;cases h1
  obtain ⟨k1,k2,k3,k4,k5,k6,k7⟩:=g1
  obtain ⟨m1,m2,m3,m4,m5,m6⟩:=g2
  unfold insA
  rw [if_pos rfl]
  exact .more k1 (k2.trans h2) k6 k7 (by rw [k3];exact k4) (by rw [k3,k5];exact .last m1 (m2.trans h2) m5 m6 (m3.trans h5))
 | @more id low t r h1 h2 h3 h4 h5 h6 ih=>
  intro hnd he hs hf g1 g2
  rw [List.map_cons,List.nodup_cons] at hnd
  unfold insA
  by_cases hx:id=ix
  ·subst hx
   rw [if_pos rfl]
   have he':lw=low:=by
    rcases List.mem_cons.1 he with he|he
    ·cases he;rfl
    ·exact absurd (List.mem_map.2 ⟨_,he,rfl⟩) hnd.1
   subst he'
   rw [hs] at h1;cases h1
   obtain ⟨k1,k2,k3,k4,k5,k6,k7⟩:=g1
   obtain ⟨m1,m2,m3,m4,m5,m6⟩:=g2
   have h6':Chn A' chk level s.nd.right s.nd.high r:=h6.far (λ e he=>hf e (List.mem_cons_of_mem _ he) (λ e0=>hnd.1 (List.mem_map.2 ⟨e,he,e0⟩)))
   exact .more k1 (k2.trans h2) k6 k7 (by rw [k3];exact k4) (by rw [k3,k5];exact .more m1 (m2.trans h2) m5 m6 (by rw [m3];exact h5) (by rw [m3,m4];exact h6'))
  ·rw [if_neg hx]
   have he':(ix,lw) ∈ r:=by
    rcases List.mem_cons.1 he with he|he
    ·cases he;exact absurd rfl hx
    ·exact he
   have ih':=ih hnd.2 he' hs (λ e he=>hf e (List.mem_cons_of_mem _ he)) g1 g2
   have:=hf (id,low) (List.mem_cons_self ..) hx
   simp only [h1,Option.map_some] at this
   obtain ⟨t',ht',e'⟩:=Option.map_eq_some_iff.1 this
   rw [<-e'] at h2 h3 h4 h5 ih'
   exact .more ht' h2 h3 h4 h5 ih'
theorem TrI.split (h:TrI A chk lv root ls) (hnd:(ls.flatten.map Prod.fst).Nodup) (hj:ls[j]?=some c) (he:(ix,lw) ∈ c) (hs:A.get ix=some s) (hf:∀ e ∈ ls.flatten,e.1≠ix->(A'.get e.1).map Sl.nd=(A.get e.1).map Sl.nd)
  (h1:A'.get ix=some s1/\s1.nd.lvl=s.nd.lvl/\s1.nd.right=x/\x≠0/\s1.nd.high=k/\chk s1.nd=0/\lowBad lw s1.nd=false) (h2:A'.get x=some s2/\s2.nd.lvl=s.nd.lvl/\s2.nd.right=s.nd.right/\s2.nd.high=s.nd.high/\chk s2.nd=0/\lowBad k s2.nd=false)
  (hk0:s1.nd.kids.getD 0 0=s.nd.kids.getD 0 0) (hk:∀ d,ls[j+1]?=some d->nodeKids d lw s1.nd=true/\nodeKids d k s2.nd=true):TrI A' chk lv root (ls.set j (insA ix (x,k) c)):=by
 have hfl:∀ (i:Nat) c',ls[i]?=some c'->∀ e ∈ c',e ∈ ls.flatten:=λ i c' hi e he=>List.mem_flatten.2 ⟨c',List.mem_of_getElem? hi,he⟩
 have hndc:∀ (i:Nat) c',ls[i]?=some c'->(c'.map Prod.fst).Nodup:=λ i c' hi=>by
  rw [List.map_flatten,List.nodup_iff_pairwise_ne,List.pairwise_flatten] at hnd
  rw [List.nodup_iff_pairwise_ne]
  exact hnd.1 _ (List.mem_map.2 ⟨c',List.mem_of_getElem? hi,rfl⟩)
 have hne:∀ (i:Nat) c',ls[i]?=some c'->i≠j->∀ e ∈ c',e.1≠ix:=λ i c' hi hij e he' h0=>by
  obtain ⟨e1,e2⟩:=e
  simp only at h0;subst h0
  exact hij (nodup_in hnd hj he hi he').1
 have hjl:=(List.getElem?_eq_some_iff.1 hj).1
 have hset:∀ (i:Nat) c',(ls.set j (insA ix (x,k) c))[i]?=some c'->(i=j/\c'=insA ix (x,k) c)\/(i≠j/\ls[i]?=some c'):=λ i c' hi=>by
  rw [List.getElem?_set] at hi
  by_cases hij:j=i
  ·rw [if_pos hij,if_pos (by omega)] at hi
   cases hi;exact .inl ⟨hij.symm,rfl⟩
  ·rw [if_neg hij] at hi
   exact .inr ⟨λ e=>hij e.symm,hi⟩
 have hC:∀ (i:Nat) c' c'' f,ls[i]?=some c'->(ls.set j (insA ix (x,k) c))[i]?=some c''->∀ l,Chn A chk l f [] c'->Chn A' chk l f [] c'':=λ i c' c'' f hi hi' l hc=>by
  rcases hset i c'' hi' with ⟨rfl,rfl⟩|⟨hij,hi2⟩
  ·rw [hj] at hi;cases hi
   exact hc.split (hndc _ _ hj) he hs (λ e he'=>hf e (hfl _ _ hj e he')) h1 h2
  ·rw [hi2] at hi;cases hi
   exact hc.far (λ e he'=>hf e (hfl _ _ hi2 e he') (hne _ _ hi2 hij e he'))
 have hold:∀ (i:Nat) c'',(ls.set j (insA ix (x,k) c))[i]?=some c''->∃ c',ls[i]?=some c'/\(∀ e ∈ c',e ∈ c''):=λ i c'' hi=>by
  rcases hset i c'' hi with ⟨rfl,rfl⟩|⟨hij,hi2⟩
  ·exact ⟨c,hj,λ e he=>mem_insA he⟩
  ·exact ⟨c'',hi2,λ e he=>he⟩
 have hopf:∀ (i:Nat) c',ls[i]?=some c'->∀ e ∈ c',e.1≠ix->opNd A' e.1=opNd A e.1:=λ i c' hi e he' hx=>opNd_far (hf e (hfl _ _ hi e he') hx)
 refine ⟨by rw [List.length_set];exact h.len,λ c'' hi=>?_,λ i c'' d'' hi hd=>?_⟩
 ·obtain ⟨c',hc',_⟩:=hold 0 c'' hi
  exact hC 0 c' c'' root hc' hi _ (h.top c' hc')
 ·obtain ⟨c',hc',_⟩:=hold i c'' hi
  obtain ⟨d',hd',hsub⟩:=hold (i+1) d'' hd
  obtain ⟨g1,g2⟩:=h.chn i c' d' hc' hd'
  have hfk:firstKid A' c''=firstKid A c':=by
   obtain ⟨f,k1,_⟩:=h.at_ hc'
   have k2:=hC i c' c'' f hc' hi _ k1
   obtain ⟨r,e⟩:=k1.head_
   obtain ⟨r',e'⟩:=k2.head_
   subst e e'
   show (opNd A' f).kids.getD 0 0=(opNd A f).kids.getD 0 0
   by_cases hx:f=ix
   ·subst hx
    rw [opNd_get h1.1,opNd_get hs];exact hk0
   ·rw [hopf i _ hc' (f,[]) (List.mem_cons_self ..) hx]
  refine ⟨by rw [hfk];exact hC (i+1) d' d'' _ hd' hd _ g1,λ e he'=>?_⟩
  rcases hset i c'' hi with ⟨rfl,rfl⟩|⟨hij,hi2⟩
  ·rw [hj] at hc';cases hc'
   have hd2:d''=d':=by
    rcases hset (i+1) d'' hd with ⟨h0,_⟩|⟨_,h0⟩
    ·omega
    ·rw [h0] at hd';cases hd';rfl
   subst hd2
   obtain ⟨m1,m2⟩:=hk d'' hd'
   rcases insA_mem he' with h0|h0
   ·by_cases hx:e.1=ix
    ·obtain ⟨e1,e2⟩:=e
     simp only at hx;subst hx
     obtain ⟨_,rfl⟩:=nodup_in hnd hj he hj h0
     simp only
     rw [opNd_get h1.1];exact m1
    ·rw [hopf i _ hj e h0 hx];exact g2 e h0
   ·subst h0
    simp only
    rw [opNd_get h2.1];exact m2
  ·rw [hi2] at hc';cases hc'
   rw [hopf i _ hi2 e he' (hne _ _ hi2 hij e he')]
   exact nodeKids_mono hsub (g2 e he')
theorem TrI.grow (h:TrI A chk lv root ls) (h0:0<=lv) (hs:A.get id=some s) (hl:s.nd.lvl=lv+1) (hr:s.nd.right=0) (hck:chk s.nd=0) (hk0:s.nd.kids.getD 0 0=root) (hk:∀ c,ls[0]?=some c->nodeKids c [] s.nd=true):TrI A chk (lv+1) id ([(id,[])]::ls):=by
 refine ⟨by have:=h.len;simp only [List.length_cons];omega,λ c hc=>?_,λ j c d hc hd=>?_⟩
 ·cases hc
  exact .last hs hl hck rfl hr
 ·cases j with
  | zero=>
   cases hc
   simp only [Nat.zero_add,List.getElem?_cons_succ] at hd
   refine ⟨?_,λ e he=>?_⟩
   ·have:=h.top d hd
    rw [show firstKid A [(id,[])]=root by show (opNd A id).kids.getD 0 0=root;rw [opNd_get hs,hk0]]
    simpa using this
   ·simp at he;subst he
    simp only
    rw [opNd_get hs];exact hk d hd
  | succ j=>
   simp only [List.getElem?_cons_succ] at hc hd
   have:=h.chn j c d hc hd
   rw [show lv+1-(((j+1:Nat):Int)+1)=lv-((j:Int)+1) by omega]
   exact this
end
structure Fr where
 P:World->Prop
 F:Nat->Prop
 W:Nat->Prop
 fr:∀ w w' N,P w->Keeps N w w'->(∀ x,x < w.heap.size->F x->¬N x)->P w'
 lt:∀ w,P w->∀ x,F x\/W x->x < w.heap.size
def Fr.no:Fr:=⟨λ _=>True,Nob,Nob,λ _ _ _ _ _ _=>trivial,λ _ _ x h=>h.elim False.elim False.elim⟩
structure JX (w:World) (G:Nat->Prop) (Φ:Fr) (p:Nat) (A:Ar):Prop where
 mem:∃ M D:Nat->Prop,ArX w M D p A/\(∀ x,M x->G x/\¬Φ.F x)/\(∀ x,D x->G x/\¬Φ.W x)
 rest:Φ.P w
 sub:∀ x,Φ.F x->G x
 new:∀ x,w.heap.size<=x->G x
 smA:∀ s ∈ A.sl,NdSm 0 s.nd
section
variable {N M D M1 D1 M' D':Nat->Prop} {w w':World} {G G':Nat->Prop} {b p q:Nat} {A B A' B':Ar} {ix:Int} {slots L:Value} {ids:List Nat} {xs:List Value} {Φ:Fr}
theorem JX.keeps (h:JX w G Φ p A) (k:Keeps N w w') (hn:∀ x,x < w.heap.size->G x->¬N x):JX w' G Φ p A:=by
 obtain ⟨⟨M,D,⟨sl,ids,hX⟩,h1,h2⟩,hr,hs,hnew,hsA⟩:=h
 exact ⟨⟨M,D,⟨sl,ids,hX.keeps k (λ x hx hm=>hn x hx (h1 x hm).1) (λ x hx hm=>hn x hx (h2 x hm).1)⟩,h1,h2⟩,Φ.fr _ _ _ hr k (λ x hx hf=>hn x hx (hs x hf)),hs,λ x hx=>hnew x (Nat.le_trans k.size hx),hsA⟩
theorem JX.nob (h:JX w G Φ p A) (k:Keeps Nob w w'):JX w' G Φ p A:=h.keeps k (λ _ _ _=>id)
instance:Kn (λ w=>JX w G Φ p A):=⟨λ k h=>JX.nob h k⟩
theorem JX.enterN (h:JX w G Φ p A) (k:Keeps N w w') (hN:∀ x,x < w.heap.size->G x->¬N x) (hg:∀ x,x < w.heap.size->G x->G' x) (hn:∀ x,w'.heap.size<=x->G' x):JX w' G' Φ p A:=by
 have hlt:=λ x hf=>Φ.lt _ h.rest x (.inl hf)
 obtain ⟨⟨M,D,⟨sl,ids,hX⟩,h1,h2⟩,hr,hs,hnew,hsA⟩:=h
 exact ⟨⟨M,D,⟨sl,ids,hX.keeps k (λ x hx hm=>hN x hx (h1 x hm).1) (λ x hx hm=>hN x hx (h2 x hm).1)⟩,λ x hx=>⟨hg x (hX.mlt x hx) (h1 x hx).1,(h1 x hx).2⟩,λ x hx=>⟨hg x (hX.dlt x hx) (h2 x hx).1,(h2 x hx).2⟩⟩,Φ.fr _ _ _ hr k (λ x hx hf=>hN x hx (hs x hf)),λ x hf=>hg x (hlt x hf) (hs x hf),hn,hsA⟩
theorem JX.step (hX:ArW w M D p slots ids A) (h1:∀ x,M x->G x/\¬Φ.F x) (h2:∀ x,D x->G x/\¬Φ.W x) (hr:Φ.P w) (hs:∀ x,Φ.F x->G x) (hnew:∀ x,w.heap.size<=x->G x) (k:Keeps M w w') (hX':ArX w' M1 D1 p A') (hM1:∀ x,M1 x->M x\/Fresh w w' x) (hD1:∀ x,D1 x->D x\/Fresh w w' x) (hsA:∀ s ∈ A'.sl,NdSm 0 s.nd):JX w' G Φ p A'/\Keeps G w w':=by
 refine ⟨⟨⟨M1,D1,hX',λ x hx=>?_,λ x hx=>?_⟩,Φ.fr _ _ _ hr k (λ x _ hf hm=>(h1 x hm).2 hf),hs,λ x hx=>hnew x (Nat.le_trans k.size hx),hsA⟩,k.mono (λ x _ hx=>(h1 x hx).1)⟩
 ·rcases hM1 x hx with h|h
  ·exact h1 x h
  ·exact ⟨hnew x h.1,λ hf=>by have:=Φ.lt _ hr x (.inl hf);have:=h.1;omega⟩
 ·rcases hD1 x hx with h|h
  ·exact h2 x h
  ·exact ⟨hnew x h.1,λ hf=>by have:=Φ.lt _ hr x (.inr hf);have:=h.1;omega⟩
theorem JX.wordX (h:JX w G Φ p A):Calls Try.prog 89 #[pV p,iV ix] w λ e w'=>e=.returned (.tuple #[.int .u64 (opWord A ix),iV (opErr A ix)])/\w=w':=by
 obtain ⟨⟨M,D,⟨sl,ids,hX⟩,h1,h2⟩,hr,hs_,hnew,hsA⟩:=h
 exact Proofs.Ytjcgphhpaenjkaa.wordX hX
theorem JX.usedX (h:JX w G Φ p A):Calls Try.prog 13 #[pV p] w λ e w'=>e=.returned (iV A.sl.length)/\w=w':=by
 obtain ⟨⟨M,D,⟨sl,ids,hX⟩,h1,h2⟩,hr,hs_,hnew,hsA⟩:=h
 exact used_ hX
theorem JX.rootX (h:JX w G Φ p A):Calls Try.prog 27 #[pV p] w λ e w'=>e=.returned (iV A.root)/\w=w':=by
 obtain ⟨⟨M,D,⟨sl,ids,hX⟩,h1,h2⟩,hr,hs_,hnew,hsA⟩:=h
 exact root_ hX
theorem JX.heldX (h:JX w G Φ p A):Calls Try.prog 10 #[pV p] w λ e w'=>∃ v,e=.returned v/\OIn w' (From w.heap.size) v (heldFrom 1 A.sl)/\JX w' G Φ p A/\Keeps Nob w w':=by
 have h':=h
 obtain ⟨⟨M,D,⟨sl,ids,hX⟩,h1,h2⟩,hr,hs_,hnew,hsA⟩:=h
 refine (held_ hX).mono ?_
 rintro e w' ⟨v,rfl,ho,k⟩
 exact ⟨v,rfl,ho,h'.nob k,k⟩
theorem JX.headX (h:JX w G Φ p A):Calls Try.prog 60 #[pV p,iV ix] w λ e w'=>∃ d0 d1 d2,e=.returned (.tuple #[.agg #[d0,d1,d2],iV (opErr A ix)])/\OHd w' (Fresh w w') d0 d1 d2 (opNd A ix)/\JX w' G Φ p A/\Keeps Nob w w':=by
 have h':=h
 obtain ⟨⟨M,D,⟨sl,ids,hX⟩,h1,h2⟩,hr,hs_,hnew,hsA⟩:=h
 refine (Proofs.Ytjcgphhpaenjkaa.headX hX hsA).mono ?_
 rintro e w' ⟨d0,d1,d2,rfl,ho,k⟩
 exact ⟨d0,d1,d2,rfl,ho,h'.nob k,k⟩
theorem JX.bodyX (h:JX w G Φ p A):Calls Try.prog 14 #[pV p,iV ix] w λ e w'=>∃ d0 d1 d2,e=.returned (.tuple #[.agg #[d0,d1,d2],iV (opErr A ix)])/\OBd w' (Fresh w w') d0 d1 d2 (opNd A ix)/\JX w' G Φ p A/\Keeps Nob w w':=by
 have h':=h
 obtain ⟨⟨M,D,⟨sl,ids,hX⟩,h1,h2⟩,hr,hs_,hnew,hsA⟩:=h
 refine (Proofs.Ytjcgphhpaenjkaa.bodyX hX hsA).mono ?_
 rintro e w' ⟨d0,d1,d2,rfl,ho,k⟩
 exact ⟨d0,d1,d2,rfl,ho,h'.nob k,k⟩
theorem JX.lockX {wd:Nat} (h:JX w G Φ p A) (hu:U64 wd):Calls Try.prog 40 #[pV p,iV ix,.int .u64 wd] w λ e w'=>e=.returned (.tuple #[.bool (opLock A ix wd).1,iV (opLock A ix wd).2.1])/\JX w' G Φ p (opLock A ix wd).2.2/\Keeps G w w':=by
 obtain ⟨⟨M,D,⟨sl,ids,hX⟩,h1,h2⟩,hr,hs_,hnew,hsA⟩:=h
 refine (Proofs.Ytjcgphhpaenjkaa.lockX hX hu).mono ?_
 rintro e w' ⟨rfl,hs,k⟩
 exact ⟨rfl,JX.step hX h1 h2 hr hs_ hnew k ⟨_,_,hs⟩ (λ x hx=>.inl hx) (λ x hx=>.inl hx) (sm_lock hsA)⟩
theorem JX.unlockX {c:Bool} (h:JX w G Φ p A)  : Calls Try.prog 46 #[pV p,iV ix,.bool c] w λ e w'=>e=.returned (iV (opUnlock A ix c).1)/\JX w' G Φ p (opUnlock A ix c).2/\Keeps G w w':=by
 obtain ⟨⟨M,D,⟨sl,ids,hX⟩,h1,h2⟩,hr,hs_,hnew,hsA⟩:=h
 refine (Proofs.Ytjcgphhpaenjkaa.unlockX hX).mono ?_
 rintro e w' ⟨rfl,hs,k⟩
 exact ⟨rfl,JX.step hX h1 h2 hr hs_ hnew k ⟨_,_,hs⟩ (λ x hx=>.inl hx) (λ x hx=>.inl hx) (sm_unlock hsA)⟩
theorem JX.growX {o:Int} (h:JX w G Φ p A)  : Calls Try.prog 50 #[pV p,iV o,iV ix] w λ e w'=>e=.returned (.tuple #[.bool (opGrow A o ix).1,iV (opGrow A o ix).2.1])/\JX w' G Φ p (opGrow A o ix).2.2/\Keeps G w w':=by
 obtain ⟨⟨M,D,⟨sl,ids,hX⟩,h1,h2⟩,hr,hs_,hnew,hsA⟩:=h
 refine (Proofs.Ytjcgphhpaenjkaa.growX hX).mono ?_
 rintro e w' ⟨rfl,hs,k⟩
 exact ⟨rfl,JX.step hX h1 h2 hr hs_ hnew k ⟨_,_,hs⟩ (λ x hx=>.inl hx) (λ x hx=>.inl hx) (sm_grow hsA)⟩
theorem JX.allocX  (h:JX w G Φ p A)  : Calls Try.prog 47 #[pV p] w λ e w'=>e=.returned (.tuple #[iV (opAlloc A).1,iV (opAlloc A).2.1])/\JX w' G Φ p (opAlloc A).2.2/\Keeps G w w':=by
 obtain ⟨⟨M,D,⟨sl,ids,hX⟩,h1,h2⟩,hr,hs_,hnew,hsA⟩:=h
 refine (Proofs.Ytjcgphhpaenjkaa.allocX hX).mono ?_
 rintro e w' ⟨rfl,hs,k⟩
 exact ⟨rfl,JX.step hX h1 h2 hr hs_ hnew k hs (λ x hx=>hx) (λ x hx=>.inl hx) (sm_alloc hsA)⟩
theorem JX.setHeadX {S:Nat->Prop} {a0 a1 a2:Value} {n:Nd} (h:JX w G Φ p A) (hh:IsHd w S a0 a1 a2 n) (hn:NdSm 0 n):Calls Try.prog 51 #[pV p,iV ix,.agg #[a0,a1,a2]] w λ e w'=>e=.returned (iV (opSetHead A ix n).1)/\JX w' G Φ p (opSetHead A ix n).2/\Keeps G w w':=by
 obtain ⟨⟨M,D,⟨sl,ids,hX⟩,h1,h2⟩,hr,hs_,hnew,hsA⟩:=h
 refine (Proofs.Ytjcgphhpaenjkaa.setHeadX hX hh hn).mono ?_
 rintro e w' ⟨rfl,hs,k⟩
 exact ⟨rfl,JX.step hX h1 h2 hr hs_ hnew k ⟨_,_,hs⟩ (λ x hx=>.inl hx) (λ x hx=>hx) (sm_setHead hsA hn)⟩
theorem JX.setBodyX {S:Nat->Prop} {a0 a1 a2:Value} {n:Nd} (h:JX w G Φ p A) (hh:IsBd w S a0 a1 a2 n) (hn:NdSm 0 n):Calls Try.prog 24 #[pV p,iV ix,.agg #[a0,a1,a2]] w λ e w'=>e=.returned (iV (opSetBody A ix n).1)/\JX w' G Φ p (opSetBody A ix n).2/\Keeps G w w':=by
 obtain ⟨⟨M,D,⟨sl,ids,hX⟩,h1,h2⟩,hr,hs_,hnew,hsA⟩:=h
 refine (Proofs.Ytjcgphhpaenjkaa.setBodyX hX hh hn).mono ?_
 rintro e w' ⟨rfl,hs,k⟩
 exact ⟨rfl,JX.step hX h1 h2 hr hs_ hnew k ⟨_,_,hs⟩ (λ x hx=>.inl hx) (λ x hx=>hx) (sm_setBody hsA hn)⟩
end
end Go.Proofs.Ytjcgphhpaenjkaa

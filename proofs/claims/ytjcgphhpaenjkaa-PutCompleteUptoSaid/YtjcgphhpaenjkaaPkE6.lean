import Derived.Test.YtjcgphhpaenjkaaPkE5
import Derived.Test.YtjcgphhpaenjkaaPkD6
set_option linter.unusedVariables false
namespace Go.Proofs.Ytjcgphhpaenjkaa
open Go.RowKit
section
variable {A:Ar} {chk:Nd->Int} {a0 a1 a2 lv level:Int} {ls:List Ch} {c:Ch}
theorem TreeOk.bottom (h:TreeOk A a0 a1 a2 chk lv ls) (hc:ls[lv.toNat]?=some c):c.length<=sumS Lf A.sl:=by
 obtain ⟨f,hch,_⟩:=h.ti.at_ hc
 have hlv:=h.lv0
 have hsub:(c.map Prod.fst).Sublist (ls.flatten.map Prod.fst):=(List.sublist_flatten_of_mem (List.mem_of_getElem? hc)).map _
 have hnd:(c.map Prod.fst).Nodup:=hsub.nodup h.met.1
 have hpos:∀ x ∈ c.map Prod.fst,1<=x:=λ x hx=>(h.met.2 x (hsub.subset hx)).1
 have:=count_le (g:=Lf) A.sl ((c.map Prod.fst).map (λ x=>(x-1).toNat)) (by
  refine List.pairwise_map.2 (List.Pairwise.imp_of_mem ?_ hnd)
  intro x y hx hy he e
  have:=hpos x hx;have:=hpos y hy;omega) (λ i hi=>by
  obtain ⟨x,hx,rfl⟩:=List.mem_map.1 hi
  obtain ⟨e,he,rfl⟩:=List.mem_map.1 hx
  obtain ⟨s,hs,hl,_⟩:=hch.ok e he
  obtain ⟨i,_,h2,h3⟩:=get_some hs
  refine ⟨s,by rw [h3];exact h2,?_⟩
  unfold Lf
  rw [if_pos (by omega)]
  exact Nat.le_refl _)
 simpa using this
theorem TreeOk.few_ (h:TreeOk A a0 a1 a2 chk lv ls) (two:∀ c ∈ ls,∀ e ∈ c,Two (opNd A e.1)):ls.flatten.length+1<=2*sumS Lf A.sl/\∀ level,0<=level->level<=lv->((ls.take (lv-level+1).toNat).flatten.length+1)*2 ^ level.toNat<=2*sumS Lf A.sl:=by
 have hl:=h.trs.length
 have h0:=h.lv0
 obtain ⟨c,hc⟩:∃ c,ls[lv.toNat]?=some c:=⟨_,List.getElem?_eq_getElem (by omega)⟩
 have hb:=h.bottom hc
 have e1:(ls.take (lv.toNat+1)).flatten.length=(ls.take lv.toNat).flatten.length+c.length:=by
  rw [List.take_add_one,hc];simp
 have h1:=h.double two 1 lv.toNat (by omega)
 have e2:ls.take (lv.toNat+1)=ls:=List.take_of_length_le (by omega)
 rw [e2] at e1 h1
 have ht:ls.flatten.length+1<=2*sumS Lf A.sl:=by omega
 refine ⟨ht,λ level h1 h2=>?_⟩
 have:=h.double two level.toNat (lv-level+1).toNat (by omega)
 rw [show (lv-level+1).toNat+level.toNat=ls.length by omega,List.take_length] at this
 omega
def rs (k:Int):Nat:=if k=0 then 988 else if k=1 then 503 else if k=2 then 254 else if k=3 then 129 else if k=4 then 64 else if k=5 then 31 else 14
theorem rs_le (k:Int):14<=rs k:=by
 unfold rs
 repeat' split
 all_goals omega
theorem rs_at (h:TreeOk A a0 a1 a2 chk lv ls) (two:∀ c ∈ ls,∀ e ∈ c,Two (opNd A e.1)) (ht:sumS Lf A.sl<=if level=0 then 60 else 61) (h1:0<=level) (h2:level<=lv+1):(if level=lv+1 then 5 else 1+4*(ls.take (lv-level+1).toNat).flatten.length)+(if level=lv+1 then 6 else 8+rs (level+1))<=rs level:=by
 obtain ⟨k1,k2⟩:=h.few_ two
 by_cases he:level=lv+1
 ·rw [if_pos he,if_pos he]
  exact rs_le level |> Nat.le_trans (by decide)
 ·rw [if_neg he,if_neg he]
  have:=k2 level h1 (by omega)
  have hpos:1<=(ls.take (lv-level+1).toNat).flatten.length:=by
   have hl:=h.trs.length
   obtain ⟨c0,hc0⟩:∃ c0,ls[0]?=some c0:=⟨_,List.getElem?_eq_getElem (by have:=h.lv0;omega)⟩
   obtain ⟨r,e⟩:=(h.ti.top c0 hc0).head_
   cases ls with
   | nil=>simp at hc0
   | cons c1 ts=>
    have:c1=c0:=by simpa using hc0
    subst this
    obtain ⟨q,hq⟩:∃ q,(lv-level+1).toNat=q+1:=⟨(lv-level).toNat,by omega⟩
    rw [hq,List.take_succ_cons,List.flatten_cons,e]
    simp
  have hl6:level<=5:=by
   rcases Int.lt_or_le 5 level with hc|hc
   ·have h6:=Nat.pow_le_pow_right (n:=2) (by decide) (show 6<=level.toNat by omega)
    have:2*2 ^ 6<=((ls.take (lv-level+1).toNat).flatten.length+1)*2 ^ level.toNat:=Nat.mul_le_mul (by omega) h6
    split at ht<;>omega
   ·exact hc
  generalize (ls.take (lv-level+1).toNat).flatten.length=N at this hpos ⊢
  have hc:level=0\/level=1\/level=2\/level=3\/level=4\/level=5:=by omega
  rcases hc with rfl|rfl|rfl|rfl|rfl|rfl
  all_goals
   simp [rs] at this ht ⊢
   omega
end
section
variable {a0 a1 a2 a3 a4:Int} {A V:Ar} {ps:List Pm} {m:Pm} {lv level id:Int} {ls:List Ch} {es:List Ent} {c:Ch} {chk:Nd->Int} {low:List UInt8}
theorem low_lt {n:Nd} (hh:0 < n.high.length) (hl:lowBad low n=false):cmp low n.high < 0:=by
 rcases Int.lt_or_le (cmp low n.high) 0 with h|h
 ·exact h
 ·have h0:cmp low n.high=0:=Int.le_antisymm (low_high hh hl) h
  have e:low=n.high:=cmp_zero _ _ h0
  have:=lowBad_high hl (by rw [e];exact hh) hh
  rw [e,cmp_self] at this
  omega
theorem chn_one (hmay:∀ n,chk n=0->May n a0 a1 a2) (h:Chn A chk level id low c):∀ x ∈ c,∀ y ∈ c,x.2=y.2->x=y:=by
 induction h with
 | last h1 h2 h3 h4 h5=>
  intro x hx y hy _
  rw [List.mem_singleton.1 hx,List.mem_singleton.1 hy]
 | @more id low s r h1 h2 h3 h4 h5 h6 ih=>
  have hm:=hmay _ h3
  have hh:=low_lt (Nat.pos_of_ne_zero (λ h=>h5 (hm.high.1 h))) h4
  have hno:∀ e ∈ r,e.2≠low:=λ e he q=>by
   have h7:=(chn_low hmay h6 e he).1
   have:=cmp_lt_le hh h7
   rw [q,cmp_self] at this
   omega
  intro x hx y hy e
  rcases List.mem_cons.1 hx with rfl|hx
  ·rcases List.mem_cons.1 hy with rfl|hy
   ·rfl
   ·exact absurd e.symm (hno y hy)
  ·rcases List.mem_cons.1 hy with rfl|hy
   ·exact absurd e (hno x hx)
   ·exact ih x hx y hy e
theorem DInv.nosep (h:DInv a0 a1 a2 a3 a4 A V ps lv ls es) (hm:m ∈ ps) (hl:m.live) (h0:0 < m.level) (hin:InL lv ls m.level m.id m.sep):has (opNd V m.id).keys m.sep=false:=by
 rcases hh:has (opNd V m.id).keys m.sep with _|_
 ·rfl
 ·exfalso
  have hp:=(h.each m hm).pend hl h0
  obtain ⟨j,c,lw,g1,g2,g3,_⟩:=hin
  obtain ⟨j2,c2,q1,q2,q3,_⟩:=hp.half
  obtain rfl:j2=j+1:=by omega
  obtain ⟨s,_,k2,k3,k4,_⟩:=h.tree.at_ g1 g3
  rw [k2] at hh
  obtain ⟨i,hi⟩:=has_at hh
  have hk:=(h.tree.ti.chn j c c2 g1 q1).2 _ g3
  rw [k2] at hk
  have hil:=(List.getElem?_eq_some_iff.1 hi).1
  have hkl:=(k4.inner (by omega)).2.2.2.1
  unfold nodeKids at hk
  rw [List.all_eq_true] at hk
  have h1:=kidOk_mem (hk (i+1) (List.mem_range.2 (by omega)))
  have hw:wantLow lw s.nd (i+1)=m.sep:=by
   unfold wantLow
   rw [if_neg (by omega),Nat.add_sub_cancel,List.getD_eq_getElem?_getD,hi];rfl
  rw [hw] at h1
  obtain ⟨f,hch,_⟩:=h.tree.ti.at_ q1
  have he:=chn_one (λ n=>(h.tree.may n).1) hch _ h1 _ q3 rfl
  have hkid:m.half ∈ s.nd.kids:=by
   have e:s.nd.kids.getD (i+1) 0=m.half:=congrArg Prod.fst he
   rw [<-e,List.getD_eq_getElem?_getD,List.getElem?_eq_getElem (by omega)]
   exact List.getElem_mem _
  exact hp.kid _ (List.mem_flatten.2 ⟨c,List.mem_of_getElem? g1,g3⟩) (by rw [k2];exact hkid)
end
section
variable {w0:World} {S0:Nat->Prop} {C:Cf} {c:Nat} {A V:Ar} {us:List Pu} {es:List En} {u:Pu} {lv:Int} {ls:List Ch}
theorem low19 {es:List Ent} (hD:DInv C.nodes C.leaf C.inner C.fill C.block A V (us.map Pu.X) lv ls es) (hf:FreeOk A u.X) (hx:u.X.nx=19) (hn:C.nodes<=600):lv+1<=32:=by
 have he:=hf.even (holds_no (.inr (.inr (.inr (by omega)))))
 obtain ⟨hT,_⟩:=hD.quietly he
 have hno:u.X.holds=[]:=holds_no (.inr (.inr (.inr (by omega))))
 have:=hT.lv8 (λ c hc e he=>by
  unfold opNd
  cases hg:A.get e.1 with
  | none=>exact λ hh=>absurd rfl hh
  | some s=>exact (hf.free e.1 s hg (by rw [hno];exact List.not_mem_nil)).2) (by have:=hD.room;omega)
 omega
end
theorem sub_len:∀ {l l':List Int},l.Nodup->(∀ x ∈ l,x ∈ l')->l.length<=l'.length:=by
 intro l
 induction l with
 | nil=>intro l' _ _;exact Nat.zero_le _
 | cons a l ih=>
  intro l' hn hs
  have ha:=hs a List.mem_cons_self
  have h1:=List.nodup_cons.1 hn
  have:=ih (l':=l'.erase a) h1.2 (λ x hx=>(List.mem_erase_of_ne (λ e=>h1.1 (by subst e;exact hx))).2 (hs x (List.mem_cons_of_mem _ hx)))
  rw [List.length_erase_of_mem ha] at this
  have:=List.length_pos_of_mem ha
  simp only [List.length_cons]
  omega
structure Cc (C:Cf):Prop where
 ok:confOk C.nodes C.leaf C.inner C.fill C.block=true
 nodes:C.nodes=600
 leaf:2<=C.leaf/\C.leaf<=6
 inner:3<=C.inner/\C.inner<=6
def Wh (C:Cf) (A:Ar) (us:List Pu) (m:Pm):Prop:=∃ V lv ls es,DInv C.nodes C.leaf C.inner C.fill C.block A V (us.map Pu.X) lv ls es/\∀ x,1<=x->x<=(A.sl.length:Int)->x ∈ m.own\/x ∈ ids ls
structure Run (w0:World) (S0:Nat->Prop) (C:Cf) (j c B:Nat) (A:Ar) (us:List Pu) (es:List En) (n0:Nat) (u:Pu):Prop where
 sn:Sn14 w0 S0 C c A us es
 at_:us[n0]?=some u
 free:FreeOk A u.X
 bud:Bud rs C.leaf B A u.X es
 cn:Cn j A u.X
 wh:Wh C A us u.X
 s6:u.X.nx=6->A.sl.length < A.nodes
 top:u.X.nx=14->A.root=u.X.side
 z0:u.X.nx=0->u.X.level=0
section
variable {w0:World} {S0:Nat->Prop} {C:Cf} {j c B n0:Nat} {A:Ar} {us:List Pu} {es:List En} {u u':Pu}
theorem FreeOk.two_ (hf:FreeOk A u.X) (hno:u.X.holds=[]) {ls:List Ch}:∀ c ∈ ls,∀ e ∈ c,Two (opNd A e.1):=λ c _ e _=>by
 unfold opNd
 cases hg:A.get e.1 with
 | none=>exact λ hh=>absurd rfl hh
 | some s=>exact (hf.free e.1 s hg (by rw [hno];exact List.not_mem_nil)).2
theorem Lz_le {m:Pm} (h:m.nx<=2\/m.nx=14\/m.nx=15):Lz j m<=if m.level=0 then j+1 else j+2:=by
 unfold Lz
 rw [if_neg (show ¬((m.nx=8/\0 < m.level)\/m.nx=16) by omega)]
 repeat' split
 all_goals omega
theorem Run.room (h:Run w0 S0 C j c B A us es n0 u) (hC:Cc C) (hj:j<=59) (hx:u.X.nx<=2\/u.X.nx=14\/u.X.nx=15):A.sl.length < A.nodes:=by
 have hno:u.X.holds=[]:=holds_no (by omega)
 obtain ⟨V,lv,ls,es',hD,hw⟩:=h.wh
 obtain ⟨hT,_⟩:=hD.quietly (h.free.even hno)
 have h1:=(hT.few_ (h.free.two_ hno)).1
 have h2:=h.cn.lvs
 have h3:=Lz_le (j:=j) hx
 have hown:u.X.own=[]:=own_no (by omega)
 have h4:=sub_len (l:=(List.range A.sl.length).map (λ (i:Nat)=>((i:Int)+1))) (l':=ids ls) (by
  refine List.pairwise_map.2 (List.Pairwise.imp ?_ List.nodup_range)
  intro a b he e;omega) (λ x hx=>by
  obtain ⟨i,hi,rfl⟩:=List.mem_map.1 hx
  have:=List.mem_range.1 hi
  rcases hw ((i:Int)+1) (by omega) (by omega) with q|q
  ·rw [hown] at q;cases q
  ·exact q)
 have h5:=hD.room.1
 have:=hC.nodes
 simp only [List.length_map,List.length_range,ids] at h4
 split at h3<;>omega
theorem Run.top_ (h:Run w0 S0 C j c (B+1) A us es n0 u) (hx:u.X.nx=1) (h14:(stepP C.leaf C.inner A u.X).2.2.nx=14):A.root=u.X.side:=by
 have hno:u.X.holds=[]:=holds_no (by omega)
 obtain ⟨V,lv,ls,es',hD,_⟩:=h.wh
 obtain ⟨hT,_⟩:=hD.quietly (h.free.even hno)
 have hmm:u.X ∈ us.map Pu.X:=List.mem_map.2 ⟨u,List.mem_of_getElem? h.at_,rfl⟩
 have hE:=hD.each _ hmm
 have hl:u.X.live:=⟨by omega,by omega⟩
 have hkey:=hE.key hl
 have hb:=h.bud
 unfold Bud at hb
 rw [hx] at hb
 obtain ⟨i,S,tail,hd,hi,_,hdone,hbef,hend⟩:=hb
 have hiS:i+1=S:=by
  rcases Nat.lt_or_ge (i+1) S with hlt|hge
  ·rw [stepP_1a hx hd (by rw [<-runM_snoc];exact hbef (i+1) hlt)] at h14
   have h15:u.X.nx=14:=h14
   omega
  ·omega
 have e:=stepP_1 (leaf:=C.leaf) (inner:=C.inner) hx hd (by rw [<-runM_snoc,hiS];exact hdone)
 rw [<-runM_snoc,hiS] at e
 rw [e] at h14
 have hth:(runM A S (Mc.new u.X.sep u.X.level)).there=false/\0 < u.X.level:=by
  rcases hend with ⟨g1,_,g3⟩|⟨g1,g2,_⟩
  ·exact ⟨g1,g3⟩
  ·exfalso
   have e0:(runM A S (Mc.new u.X.sep u.X.level)).outId=(runM A S (Mc.new u.X.sep u.X.level)).id:=by unfold Mc.outId;rw [g1];rfl
   rw [e0,if_pos (by have:=get_pos g2;omega)] at h14
   exact absurd h14 (by show ¬(2:Nat)=14;decide)
 have hp:=hE.pend hl hth.2
 obtain ⟨jj,ch,q1,q2,_,lw,q4⟩:=hp.half
 have hlv1:u.X.level<=lv+1:=by omega
 obtain ⟨S',s1,s2,⟨_,s4⟩,s5⟩:=(alone_n (key:=u.X.sep) hT hkey.2.2.1 hlv1).fin
 have hSS:S'=S:=by
  rcases Nat.lt_trichotomy S' S with hlt|he|hgt
  ·exact absurd s2 (hbef S' hlt)
  ·exact he
  ·exact absurd hdone (s5 S hgt).1
 subst hSS
 have hlv:u.X.level=lv+1:=by
  rcases Int.lt_or_le lv u.X.level with hlt|hle
  ·omega
  ·obtain ⟨_,_,hEn⟩:=s4 hle
   have:=hEn.there
   rw [hth.1] at this;cases this
 obtain rfl:jj=0:=by omega
 have hti:=hT.ti.top ch q1
 obtain ⟨s,r,e1,k1,_,_,_,k5⟩:=hti.at_
 rcases h.cn.root with hR|hR|⟨hR,_⟩
 ·rcases k5 with ⟨_,k6⟩|⟨k6,_⟩
  ·subst k6
   rw [e1] at q4
   exact (congrArg Prod.fst (List.mem_singleton.1 q4)).symm
  ·unfold opNd at hR;rw [k1] at hR;exact absurd hR k6
 ·exact hR.2.1.symm
 ·omega
end
section
variable {leaf inner:Int} {A:Ar} {m:Pm} {x y:Int} {n:Nd} {b:Bool} {wd:Nat}
theorem onP_len {e:Int} {k:Nat}:(onP A m e k).2.1.sl.length=A.sl.length:=by unfold onP no;split<;>rfl
theorem stepP_len:(stepP leaf inner A m).2.1.sl.length=A.sl.length\/((m.nx=6\/m.nx=15)/\(stepP leaf inner A m).2.1.sl.length=A.sl.length+1):=by
 have hal:(slotP A m).2.1.sl.length=A.sl.length\/(slotP A m).2.1.sl.length=A.sl.length+1:=by
  have:(opAlloc A).2.2.sl.length=A.sl.length\/(opAlloc A).2.2.sl.length=A.sl.length+1:=by
   unfold opAlloc;split
   ·exact .inl rfl
   ·exact .inr (by simp)
  unfold slotP no
  simp only
  repeat' split
  all_goals exact this
 unfold stepP
 split
 all_goals first|exact .inl (onP_len.trans (len_setBody _ _ _))|exact .inl (onP_len.trans (len_setHead _ _ _))|exact .inl (onP_len.trans (len_unlock _ _ _))|skip
 ·exact .inl rfl
 ·left;unfold downP no
  split
  ·rfl
  ·split
   ·simp only
    repeat' split
    all_goals rfl
   ·rfl
 ·left;unfold lockP no
  simp only
  repeat' split
  all_goals exact (sum_lock (f:=Kd)).2.1
 ·left;unfold givesP;simp only
  repeat' split
  all_goals exact len_unlock _ _ _
 ·left;unfold givesP;simp only
  repeat' split
  all_goals exact len_unlock _ _ _
 ·rename_i hx
  rcases hal with h|h
  ·exact .inl h
  ·exact .inr ⟨.inl hx,h⟩
 ·left;unfold givesP;simp only
  repeat' split
  all_goals exact len_unlock _ _ _
 ·left;simp only
  split<;>exact len_unlock _ _ _
 ·left;unfold no;split<;>rfl
 ·rename_i hx
  rcases hal with h|h
  ·exact .inl h
  ·exact .inr ⟨.inr hx,h⟩
 ·left;unfold no;simp only
  split<;>exact len_grow _ _ _
 ·exact .inl rfl
theorem lit {X m:Pm} {k:Nat} (e:X.nx=k) (h:k≠6/\k≠14/\k≠0):(X.nx=6->m.nx=2)/\(X.nx=14->m.nx=1)/\¬X.nx=0:=by rw [e];omega
theorem stepP_from (ok:POk A m) (hn:m.nx<=20):((stepP leaf inner A m).2.2.nx=6->m.nx=2)/\((stepP leaf inner A m).2.2.nx=14->m.nx=1)/\¬(stepP leaf inner A m).2.2.nx=0:=by
 obtain ⟨k,hk⟩:∃ k,m.nx=k:=⟨_,rfl⟩
 have hk20:k<=20:=hk▸hn
 have hg:m.nx=4\/m.nx=5\/m.nx=7->(givesP A m).2.2.nx=20:=λ _=>by
  unfold givesP
  simp only
  repeat' split
  all_goals rfl
 match k,hk,hk20 with
 | 0,hk,_=>rw [stepP_0 hk];exact lit (k:=20) rfl (by decide)
 | 1,hk,_=>
  obtain ⟨d,hd⟩:=ok.des hk
  by_cases hdn:(stepM A d).nx=.done
  ·rw [stepP_1 hk hd hdn]
   split
   ·exact lit (k:=2) rfl (by decide)
   ·split
    ·exact ⟨λ h=>absurd (show (14:Nat)=6 from h) (by decide),λ _=>hk,λ h=>absurd (show (14:Nat)=0 from h) (by decide)⟩
    ·exact lit (k:=20) rfl (by decide)
  ·rw [stepP_1a hk hd hdn];exact lit (k:=1) hk (by decide)
 | 2,hk,_=>
  have h36:∀ b:Bool,(if b=true then 6 else 3)=6\/(if b=true then 6 else 3)=3:=λ b=>by cases b<;>simp
  have hq:=h36 (over (newP m) leaf inner)
  rw [stepP_2 hk (ok.lock hk).1]
  split
  ·exact lit (k:=1) rfl (by decide)
  ·split
   ·exact ⟨λ _=>hk,λ h=>by have h':(if over (newP m) leaf inner=true then 6 else 3)=14:=h;omega,λ h=>by have h':(if over (newP m) leaf inner=true then 6 else 3)=0:=h;omega⟩
   ·split
    ·exact lit (k:=5) rfl (by decide)
    ·exact ⟨λ _=>hk,λ h=>by have h':(if over (newP m) leaf inner=true then 6 else 3)=14:=h;omega,λ h=>by have h':(if over (newP m) leaf inner=true then 6 else 3)=0:=h;omega⟩
 | 3,hk,_=>rw [stepP_3 hk (ok.body hk).1];exact lit (k:=4) rfl (by decide)
 | 4,hk,_=>
  have e:stepP leaf inner A m=givesP A m:=by unfold stepP;simp only [hk]
  rw [e];exact lit (hg (by omega)) (by decide)
 | 5,hk,_=>
  have e:stepP leaf inner A m=givesP A m:=by unfold stepP;simp only [hk]
  rw [e];exact lit (hg (by omega)) (by decide)
 | 6,hk,_=>
  rw [stepP_6 hk]
  split
  ·exact lit (k:=7) rfl (by decide)
  ·exact lit (k:=8) rfl (by decide)
 | 7,hk,_=>
  have e:stepP leaf inner A m=givesP A m:=by unfold stepP;simp only [hk]
  rw [e];exact lit (hg (by omega)) (by decide)
 | 8,hk,_=>rw [stepP_8 hk (ok.s8 hk).1];exact lit (k:=9) rfl (by decide)
 | 9,hk,_=>rw [stepP_9 hk (ok.s9 hk).1];exact lit (k:=10) rfl (by decide)
 | 10,hk,_=>rw [stepP_10 hk (ok.s10 hk)];exact lit (k:=11) rfl (by decide)
 | 11,hk,_=>rw [stepP_11 hk (ok.s11 hk).1];exact lit (k:=12) rfl (by decide)
 | 12,hk,_=>rw [stepP_12 hk (ok.s12 hk).1];exact lit (k:=13) rfl (by decide)
 | 13,hk,_=>rw [stepP_13 hk (ok.s13 hk).1];exact lit (k:=1) rfl (by decide)
 | 14,hk,_=>
  rw [stepP_14 hk]
  split
  ·exact lit (k:=20) rfl (by decide)
  ·exact lit (k:=15) rfl (by decide)
 | 15,hk,_=>
  rw [stepP_15 hk]
  split
  ·exact lit (k:=20) rfl (by decide)
  ·exact lit (k:=16) rfl (by decide)
 | 16,hk,_=>rw [stepP_16 hk (ok.s16 hk)];exact lit (k:=17) rfl (by decide)
 | 17,hk,_=>rw [stepP_17 hk (ok.s17 hk)];exact lit (k:=18) rfl (by decide)
 | 18,hk,_=>rw [stepP_18 hk (ok.s18 hk)];exact lit (k:=19) rfl (by decide)
 | 19,hk,_=>
  rw [stepP_19 hk]
  split
  ·exact lit (k:=20) rfl (by decide)
  ·exact lit (k:=1) rfl (by decide)
 | 20,hk,_=>rw [stepP_through hk];exact lit (k:=20) hk (by decide)
 | q+21,_,h=>exact absurd h (by omega)
end
section
variable {w0:World} {S0:Nat->Prop} {C:Cf} {j c B n0:Nat} {A:Ar} {us:List Pu} {es:List En} {u u':Pu}
theorem DInv.rootIds {a0 a1 a2 a3 a4:Int} {A V:Ar} {ps:List Pm} {lv:Int} {ls:List Ch} {es:List Ent} (h:DInv a0 a1 a2 a3 a4 A V ps lv ls es):A.root ∈ ids ls:=by
 obtain ⟨c0,hc0⟩:∃ c0,ls[0]?=some c0:=⟨_,List.getElem?_eq_getElem (by have:=h.tree.ti.len;have:=h.tree.lv0;omega)⟩
 obtain ⟨r,e⟩:=(h.tree.ti.top c0 hc0).head_
 rw [h.vof.root]
 exact mem_ids.2 ⟨0,c0,[],hc0,by rw [e];exact List.mem_cons_self⟩
theorem Run.step (h:Run w0 S0 C j c (B+1) A us es n0 u) (hC:Cc C) (hj:j<=59) (hc:c < 9223372036854775807) (hX:u'.X=(stepP C.leaf C.inner A u.X).2.2) (hk:u'.kv=u.kv) (hv:u'.vv=u.vv) :
  Run w0 S0 C j (c+1) B (stepP C.leaf C.inner A u.X).2.1 (us.set n0 u') (map14 C A u es) n0 u':=by
 have hu:=List.mem_of_getElem? h.at_
 have ok:=h.sn.ok hu hc
 obtain ⟨n1,n2⟩:=h.sn.nx u hu
 have h600:=hC.nodes
 have hS:=h.sn.put_ hC.leaf hC.inner (λ V lv ls hD hx _ _=>low19 hD h.free hx (by omega)) h.at_ hc hX hk hv
 have hat:(us.set n0 u')[n0]?=some u':=List.getElem?_set_self (List.getElem?_eq_some_iff.1 h.at_).1
 have hmm:u.X ∈ us.map Pu.X:=List.mem_map.2 ⟨u,hu,rfl⟩
 have hm:(us.map Pu.X)[n0]?=some u.X:=by rw [List.getElem?_map,h.at_];rfl
 obtain ⟨V,lv,ls,es1,hD,hw⟩:=h.wh
 have hE:=hD.each _ hmm
 have htop:u.X.nx=14\/u.X.nx=19->A.root=u.X.side:=λ q=>by
  rcases q with q|q
  ·exact h.top q
  ·have:=h.bud
   unfold Bud at this
   rw [q] at this
   exact this.2
 have hroom:u.X.nx=6\/u.X.nx=15->A.sl.length < A.nodes:=λ q=>by
  rcases q with q|q
  ·exact h.s6 q
  ·exact h.room hC hj (.inr (.inr q))
 have hlock:u.X.nx=2->A.get u.X.id=some ⟨u.X.word,u.X.old⟩/\u.X.word % 2=0/\(0 < u.X.level->has u.X.old.keys u.X.sep=false):=λ q=>by
  have hb:=h.bud
  unfold Bud at hb
  rw [q] at hb
  have hno:u.X.holds=[]:=holds_no (by omega)
  have hg:=hb.2.1
  refine ⟨hg,(h.free.free _ _ hg (by rw [hno];exact List.not_mem_nil)).1,λ h0=>?_⟩
  have hall:=hD.vof.all hD.inv (h.free.even hno)
  have:=hD.nosep hmm ⟨by omega,by omega⟩ h0 (hE.at_ (by omega) (by omega)).1
  rw [hall,opNd_some hg] at this
  exact this
 have hcn:=h.cn.step hD hmm ok n1 hC.leaf.1 hC.inner.1 hroom hlock htop h.z0
 have hf:FreeOk (stepP C.leaf C.inner A u.X).2.1 u'.X:=by rw [hX];exact h.free.step hD.inv hmm ok n1 hC.inner.1
 rw [<-hX] at hcn
 have hrn:u'.X.nx=1->Rst rs C (stepP C.leaf C.inner A u.X).2.1 u'.X.level:=λ q lv' ls' hT two h0 hl=>by
  refine rs_at hT two ?_ h0 hl
  have h1:=hcn.lvs
  have h2:=Lz_le (j:=j) (m:=u'.X) (.inl (by omega))
  split at h2<;>(rename_i q2;first|rw [if_pos q2]|rw [if_neg q2])<;>omega
 have hb:=Bud.step h.sn hC.inner.1 rs_le hrn h.at_ hc h.free h.bud hS hat hX rfl
 rw [<-hX] at hb
 refine ⟨hS,hat,hf,hb,hcn,?_,λ q=>?_,λ q=>?_,λ q=>?_⟩
 ·
  obtain ⟨V',lv',ls',es2,hD',hsub,_⟩:=hD.step hm n1 n2 hC.leaf.1 hC.leaf.2 hC.inner.1 hC.inner.2 (λ s hs=>by have:=h.sn.words s hs;omega) (λ hx _=>low19 hD h.free hx (by omega))
  have hmm':(stepP C.leaf C.inner A u.X).2.2 ∈ (us.map Pu.X).set n0 (stepP C.leaf C.inner A u.X).2.2:=List.mem_set (List.getElem?_eq_some_iff.1 hm).1 _
  have hE':=hD'.each _ hmm'
  have hin:∀ x,x ∈ u.X.own->x ∈ (stepP C.leaf C.inner A u.X).2.2.own\/x ∈ ids ls':=λ x hx=>by
   by_cases hf1:8<=u.X.nx/\u.X.nx<=13
   ·rw [own_fresh hf1.1 hf1.2,List.mem_singleton] at hx
    subst hx
    have hcase:u.X.nx=8\/u.X.nx=9\/u.X.nx=10\/u.X.nx=11\/u.X.nx=12\/u.X.nx=13:=by omega
    rcases hcase with q|q|q|q|q|q
    ·left;rw [stepP_8 q (ok.s8 q).1,own_fresh (by show 8<=9;decide) (by show 9<=13;decide)];exact List.mem_singleton.2 rfl
    ·left;rw [stepP_9 q (ok.s9 q).1,own_fresh (by show 8<=10;decide) (by show 10<=13;decide)];exact List.mem_singleton.2 rfl
    ·left;rw [stepP_10 q (ok.s10 q),own_fresh (by show 8<=11;decide) (by show 11<=13;decide)];exact List.mem_singleton.2 rfl
    ·left;rw [stepP_11 q (ok.s11 q).1,own_fresh (by show 8<=12;decide) (by show 12<=13;decide)];exact List.mem_singleton.2 rfl
    ·left;rw [stepP_12 q (ok.s12 q).1,own_fresh (by show 8<=13;decide) (by show 13<=13;decide)];exact List.mem_singleton.2 rfl
    ·right
     rw [stepP_13 q (ok.s13 q).1] at hE'
     have:=(hE'.pend ⟨by show (1:Nat)≠0;decide,by show (1:Nat)≠20;decide⟩ (by have:=ok.lev.1;show 0 < u.X.level+1;omega)).ids.1
     exact this
   ·by_cases hf2:16<=u.X.nx/\u.X.nx<=19
    ·rw [own_root hf2.1 hf2.2,List.mem_singleton] at hx
     subst hx
     have hcase:u.X.nx=16\/u.X.nx=17\/u.X.nx=18\/u.X.nx=19:=by omega
     rcases hcase with q|q|q|q
     ·left;rw [stepP_16 q (ok.s16 q),own_root (by show 16<=17;decide) (by show 17<=19;decide)];exact List.mem_singleton.2 rfl
     ·left;rw [stepP_17 q (ok.s17 q),own_root (by show 16<=18;decide) (by show 18<=19;decide)];exact List.mem_singleton.2 rfl
     ·left;rw [stepP_18 q (ok.s18 q),own_root (by show 16<=19;decide) (by show 19<=19;decide)];exact List.mem_singleton.2 rfl
     ·right
      have hr:=hD'.rootIds
      obtain ⟨_,f2,f3⟩:=hE.own u.X.root (by rw [own_root hf2.1 hf2.2];exact List.mem_singleton.2 rfl)
      obtain ⟨s,hs⟩:=get_in (A:=A) f2 (by rw [<-hD.vof.len];exact f3)
      have hgr:opGrow A u.X.side u.X.root=(true,0,{A with root:=u.X.root}):=by unfold opGrow;rw [hs];simp only;rw [if_pos (htop (.inr q))]
      rw [stepP_19 q,hgr,if_pos (.inl rfl)] at hr
      exact hr
    ·rw [own_no (by omega)] at hx;cases hx
  have hold:∀ x,1<=x->x<=(A.sl.length:Int)->x ∈ (stepP C.leaf C.inner A u.X).2.2.own\/x ∈ ids ls':=λ x x1 x2=>by
   rcases hw x x1 x2 with q|q
   ·exact hin x q
   ·exact .inr (hsub x q)
  refine ⟨V',lv',ls',es2,by rw [List.map_set,hX];exact hD',λ x x1 x2=>?_⟩
  rw [hX]
  rcases stepP_len (leaf:=C.leaf) (inner:=C.inner) (A:=A) (m:=u.X) with hl|⟨hl,hl2⟩
  ·rw [hl] at x2;exact hold x x1 x2
  ·rw [hl2] at x2
   by_cases hxx:x<=(A.sl.length:Int)
   ·exact hold x x1 hxx
   ·left
    have hr:=hroom hl
    obtain ⟨s0,s1,_⟩:=sum_alloc (f:=Kd) (A:=A) (by omega)
    rcases hl with q|q
    ·rw [stepP_6 q,if_neg (by rw [s1];decide),own_fresh (by show 8<=8;decide) (by show 8<=13;decide)]
     exact List.mem_singleton.2 (by show x=(opAlloc A).1;rw [s0];omega)
    ·rw [stepP_15 q,if_neg (by rw [s1];decide),own_root (by show 16<=16;decide) (by show 16<=19;decide)]
     exact List.mem_singleton.2 (by show x=(opAlloc A).1;rw [s0];omega)
 ·have h2:=(stepP_from (leaf:=C.leaf) (inner:=C.inner) ok n1).1 (by rw [<-hX];exact q)
  have hr:=h.room hC hj (.inl (by omega))
  obtain ⟨V',lv',ls',hD'⟩:=hS.dinv
  have r1:=hD.room.1
  have r2:=hD'.room.1
  rcases stepP_len (leaf:=C.leaf) (inner:=C.inner) (A:=A) (m:=u.X) with hl|⟨hl,_⟩
  ·omega
  ·omega
 ·have h1:=(stepP_from (leaf:=C.leaf) (inner:=C.inner) ok n1).2.1 (by rw [<-hX];exact q)
  have ht:=h.top_ h1 (by rw [<-hX];exact q)
  obtain ⟨d,hd⟩:=ok.des h1
  rw [hX] at q ⊢
  by_cases hdn:(stepM A d).nx=.done
  ·rw [stepP_1 h1 hd hdn]
   split
   ·exact ht
   ·split<;>exact ht
  ·rw [stepP_1a h1 hd hdn];exact ht
 ·exact absurd (by rw [<-hX];exact q) (stepP_from (leaf:=C.leaf) (inner:=C.inner) ok n1).2.2
end
structure Cq (w0:World) (S0:Nat->Prop) (C:Cf) (j c:Nat) (A:Ar) (us:List Pu) (es:List En):Prop where
 sn:Sn14 w0 S0 C c A us es
 fr:∀ ix s,A.get ix=some s->s.word % 2=0/\Two s.nd
 kids:sumS Kd A.sl+1=A.sl.length
 lvs:sumS Lf A.sl<=j+1
 root:(opNd A A.root).right=0
 wh:∃ V lv ls es',DInv C.nodes C.leaf C.inner C.fill C.block A V (us.map Pu.X) lv ls es'/\∀ x,1<=x->x<=(A.sl.length:Int)->x ∈ ids ls
section
variable {w0:World} {S0:Nat->Prop} {C:Cf} {j c B n0:Nat} {A:Ar} {us:List Pu} {es:List En} {u u':Pu} {key val:List UInt8} {kv vv:Value}
theorem pnew_nx (key val:List UInt8):(Pm.new key val).nx<=1/\(Pm.new key val).level=0/\(Pm.new key val).sep=key/\((Pm.new key val).nx=1->(Pm.new key val).D=some (Mc.new key 0)):=by
 unfold Pm.new
 split
 ·exact ⟨Nat.le_refl _,rfl,rfl,λ _=>rfl⟩
 ·exact ⟨Nat.zero_le _,rfl,rfl,λ e=>by cases e⟩
theorem Cq.begin (h:Cq w0 S0 C j c A us es) (hC:Cc C) (hj:j<=59) (hX:u.X=Pm.new key val) (hkv:u.kv=kv) (hvv:u.vv=vv) (hk:Byts w0 S0 kv key) (hv:Byts w0 S0 vv val) :
  Run w0 S0 C j (c+1) 988 A (us++[u]) es us.length u:=by
 obtain ⟨n1,n2,n3,n4⟩:=pnew_nx key val
 have hS:=h.sn.new (u:=u) hX hkv hvv hk hv
 have hf:FreeOk A u.X:=⟨λ ix s hs _=>h.fr ix s hs,twos_no (.inl (by rw [hX];omega))⟩
 have hat:(us++[u])[us.length]?=some u:=by simp
 have hl0:u.X.level=0:=by rw [hX];exact n2
 have hx1:u.X.nx<=1:=by rw [hX];exact n1
 have hrst:Rst rs C A u.X.level:=λ lv ls hT two h0 hl=>by
  refine rs_at hT two ?_ h0 hl
  rw [hl0,if_pos rfl]
  have:=h.lvs;omega
 refine ⟨hS,hat,hf,?_,?_,?_,λ e=>by omega,λ e=>by omega,λ _=>hl0⟩
 ·rcases Nat.eq_zero_or_pos u.X.nx with hz|hz
  ·unfold Bud;rw [hz];show 1<=988;decide
  ·have h1:u.X.nx=1:=by omega
   have:=Bud.start hS hrst (List.mem_of_getElem? hat) hf h1 (by rw [hX] at h1 ⊢;rw [n4 h1,n3,n2]) (by rw [hl0];exact Int.le_refl _)
   rw [hl0] at this
   exact this
 ·refine .of ?_ ?_ (.inl h.root) (nx_far (.inl (by omega)))
  ·have hkk:=h.kids
   unfold Kq
   rcases (show u.X.nx=0\/u.X.nx=1 by omega) with e|e
   ·rw [e];exact hkk
   ·rw [e];show sumS Kd A.sl+bs u.X=A.sl.length
    unfold bs;rw [if_pos hl0];exact hkk
  ·exact Nat.le_trans h.lvs ln1
 ·obtain ⟨V,lv,ls,es',hD,hw⟩:=h.wh
  refine ⟨V,lv,ls,es',?_,λ x x1 x2=>.inr (hw x x1 x2)⟩
  rw [List.map_append]
  show DInv _ _ _ _ _ A V (us.map Pu.X++[u.X]) lv ls _
  rw [hX];exact hD.new
theorem Run.done (h:Run w0 S0 C j c B A us es n0 u) (hx:u.X.nx=20):Cq w0 S0 C (j+1) c A us es:=by
 have hno:u.X.holds=[]:=holds_no (by omega)
 obtain ⟨V,lv,ls,es',hD,hw⟩:=h.wh
 have hk:=h.cn.kids
 unfold Kq at hk
 rw [hx] at hk
 refine ⟨h.sn,λ ix s hs=>h.free.free ix s hs (by rw [hno];exact List.not_mem_nil),hk,?_,?_,V,lv,ls,es',hD,λ x x1 x2=>?_⟩
 ·have h1:=h.cn.lvs
  unfold Lz at h1
  rw [if_pos (.inr (.inr hx)),if_neg (by omega)] at h1
  omega
 ·rcases h.cn.root with hR|hR|⟨q,_⟩
  ·exact hR
  ·exact absurd hx hR.2.2
  ·omega
 ·rcases hw x x1 x2 with q|q
  ·rw [own_no (by omega)] at q;cases q
  ·exact q
theorem Cq.start (c:Nat) (hC:Cc C):Cq w0 S0 C 0 c (ar0 600) [] []:=by
 have e {α:Type} {P:α->Prop}:∀ x ∈ ([]:List α),P x:=λ x h=>absurd h List.not_mem_nil
 have h600:=hC.nodes
 have hD:=DInv.start (n:=600) hC.ok (by rw [h600];rfl)
 refine ⟨⟨⟨_,_,_,hD⟩,List.Pairwise.nil,e,e,e,e,e,λ s hs=>by rw [show s=⟨0,Nd.zero⟩ from List.mem_singleton.1 hs];exact Nat.zero_le _,Nat.zero_le _,e,Nat.zero_le _⟩,λ ix s hs=>?_,rfl,Nat.le_refl _,rfl,_,_,_,_,hD,λ x x1 x2=>?_⟩
 ·obtain ⟨i,_,h2,_⟩:=get_some hs
  rw [List.mem_singleton.1 (show s ∈ [(⟨0,Nd.zero⟩:Sl)] from List.mem_of_getElem? h2)]
  exact ⟨rfl,λ hh=>absurd rfl hh⟩
 ·have:x=1:=by have x2:x<=1:=x2;omega
  rw [this];exact List.mem_singleton.2 rfl
theorem Cq.report (h:Cq w0 S0 C j c A us es) (hC:Cc C):(checkM A C.nodes C.leaf C.inner C.fill C.block).sound=true/\(checkM A C.nodes C.leaf C.inner C.fill C.block).nodes=A.sl.length:=by
 obtain ⟨V,lv,ls,es',hD,hw⟩:=h.wh
 have hev:∀ s ∈ A.sl,s.word % 2=0:=λ s hs=>by
  obtain ⟨i,hi⟩:=List.mem_iff_getElem?.1 hs
  refine (h.fr ((i:Int)+1) s ?_).1
  unfold Ar.get
  rw [if_pos (by omega),show ((i:Int)+1-1).toNat=i by omega]
  exact hi
 obtain ⟨hT,_⟩:=hD.quietly hev
 rw [hT.sound hC.ok]
 refine ⟨rfl,?_⟩
 have h1:=hT.len
 have h4:=sub_len (l:=(List.range A.sl.length).map (λ (i:Nat)=>((i:Int)+1))) (l':=ids ls) (by
  refine List.pairwise_map.2 (List.Pairwise.imp ?_ List.nodup_range)
  intro a b he e;omega) (λ x hx=>by
  obtain ⟨i,hi,rfl⟩:=List.mem_map.1 hx
  have:=List.mem_range.1 hi
  exact hw ((i:Int)+1) (by omega) (by omega))
 simp only [List.length_map,List.length_range,ids] at h4
 have h5:=nodesOf_flat ls
 show ((nodesOf ls:Nat):Int)=A.sl.length
 omega
end
end Go.Proofs.Ytjcgphhpaenjkaa

import Derived.Test.YtjcgphhpaenjkaaGreatPkC1
import Derived.Test.YtjcgphhpaenjkaaGreatPkD7
set_option linter.unusedVariables false
namespace Go.Proofs.YtjcgphhpaenjkaaGreat
open Go.RowKit
def hasE (es:List En) (key:List UInt8):Bool:=es.any (λ e=>e.k==key)
theorem hasE_value {key:List UInt8}:∀ (es:List En),(valueM (es.map En.e) key).2=hasE es key:=by
 intro es
 unfold valueM hasE
 induction es with
 | nil=>rfl
 | cons e es ih=>
  rw [List.map_cons,List.find?_cons,List.any_cons]
  have e1:(e.e.1==key)=(e.k==key):=rfl
  rw [e1]
  cases he:e.k==key with
  | true=>rfl
  | false=>rw [Bool.false_or];exact ih
def Endy (leaf:Int) (A:Ar) (es:List En) (level:Int) (sep:List UInt8) (M:Mc) (tail:Nat):Prop:=
 (M.there=false/\6<=tail/\0 < level)\/(M.there=true/\A.get M.id=some ⟨M.word,M.nd⟩/\8+rest (level+1)<=tail/\(level=0->M.nd.lvl=0/\(M.nd.keys.length:Int)<=leaf/\has M.nd.keys sep=hasE es sep))
def Bud (leaf:Int) (B:Nat) (A:Ar) (m:Pm) (es:List En):Prop:=match m.nx with
 | 0=>1<=B
 | 1=>∃ i S tail:Nat,m.D=some (runM A i (Mc.new m.sep m.level))/\i < S/\(S-i)+tail<=B/\(runM A S (Mc.new m.sep m.level)).nx=.done/\(∀ k,k < S->(runM A k (Mc.new m.sep m.level)).nx≠.done)/\Endy leaf A es m.level m.sep (runM A S (Mc.new m.sep m.level)) tail
 | 2=>8+rest (m.level+1)<=B/\A.get m.id=some ⟨m.word,m.old⟩/\(m.level=0->m.old.lvl=0/\(m.old.keys.length:Int)<=leaf/\has m.old.keys m.sep=hasE es m.sep)
 | 3=>2<=B
 | 4=>1<=B
 | 5=>1<=B
 | 6=>7+rest (m.level+1)<=B
 | 7=>1<=B
 | 8=>6+rest (m.level+1)<=B
 | 9=>5+rest (m.level+1)<=B
 | 10=>4+rest (m.level+1)<=B
 | 11=>3+rest (m.level+1)<=B
 | 12=>2+rest (m.level+1)<=B
 | 13=>1+rest (m.level+1)<=B
 | 14=>6<=B
 | 15=>5<=B/\A.root=m.side
 | 16=>4<=B/\A.root=m.side
 | 17=>3<=B/\A.root=m.side
 | 18=>2<=B/\A.root=m.side
 | 19=>1<=B/\A.root=m.side
 | _=>True
section
variable {w0:World} {S0:Nat->Prop} {C:Cf} {c B:Nat} {A:Ar} {us:List Pu} {es:List En} {u:Pu} {m:Pm}
theorem FreeOk.even (h:FreeOk A m) (hno:m.holds=[]):∀ s ∈ A.sl,s.word % 2=0:=λ s hs=>by
 obtain ⟨i,hi⟩:=List.mem_iff_getElem?.1 hs
 refine (h.free ((i:Int)+1) s ?_ (by rw [hno];exact List.not_mem_nil)).1
 unfold Ar.get
 rw [if_pos (by omega),show ((i:Int)+1-1).toNat=i by omega]
 exact hi
theorem Sn14.quiet (h:Sn14 w0 S0 C c A us es) (he:∀ s ∈ A.sl,s.word % 2=0):∃ lv ls,TreeOk A C.nodes C.leaf C.inner (chkM C.nodes C.leaf C.inner C.fill C.block) lv ls/\mapOf A=es.map En.e/\(∀ u ∈ us,u.X.live->u.X.level<=lv+1)/\A.sl.length<=C.nodes:=by
 obtain ⟨V,lv,ls,hD⟩:=h.dinv
 obtain ⟨h1,h2⟩:=hD.quietly he
 refine ⟨lv,ls,h1,h2,λ u hu hl=>?_,by have:=hD.room;omega⟩
 have hmm:u.X ∈ us.map Pu.X:=List.mem_map.2 ⟨u,hu,rfl⟩
 have hE:=hD.each _ hmm
 have hk:=hE.key hl
 have h0:=h1.lv0
 rcases Int.lt_or_le 0 u.X.level with hp|hp
 ·obtain ⟨j,c',hj,hlv,_⟩:=(hE.pend hl hp).half
  omega
 ·omega
theorem Bud.start (h:Sn14 w0 S0 C c A us es) (hC:Cf14 C) (hu:u ∈ us) (hf:FreeOk A u.X) (hx:u.X.nx=1) (hd:u.X.D=some (Mc.new u.X.sep u.X.level)) (h0:0<=u.X.level):Bud C.leaf (rest u.X.level) A u.X es:=by
 obtain ⟨lv,ls,hT,hm,hlev,hlen⟩:=h.quiet (hf.even (holds_no (.inl (by omega))))
 have hl:=hlev u hu ⟨by omega,by omega⟩
 have hno:u.X.holds=[]:=holds_no (.inl (by omega))
 have two:∀ c ∈ ls,∀ e ∈ c,Two (opNd A e.1):=λ c hc e he=>by
  unfold opNd
  cases hg:A.get e.1 with
  | none=>exact λ hh=>absurd rfl hh
  | some s=>exact (hf.free e.1 s hg (by rw [hno];exact List.not_mem_nil)).2
 have hrest:=rest_at hT two (by have:=hC.nodes;omega) h0 hl
 obtain ⟨S,s1,s2,⟨s3,s4⟩,s5⟩:=(alone_n (key:=u.X.sep) hT h0 hl).fin
 have hS:0 < S:=by
  rcases Nat.eq_zero_or_pos S with hz|hz
  ·subst hz;exact absurd s2 (λ h=>nomatch h)
  ·exact hz
 unfold Bud
 rw [hx]
 refine ⟨0,S,if u.X.level=lv+1 then 6 else 8+rest (u.X.level+1),hd,hS,by omega,s2,λ k hk=>(s5 k hk).1,?_⟩
 have hlv:=hT.lv0
 by_cases he:u.X.level=lv+1
 ·rw [if_pos he]
  exact .inl ⟨s3 he,Nat.le_refl _,by omega⟩
 ·rw [if_neg he]
  obtain ⟨ch,hch,hE⟩:=s4 (by omega)
  refine .inr ⟨hE.there,hE.slot,Nat.le_refl _,λ hz=>?_⟩
  rw [hz] at hE hch ⊢
  refine ⟨hE.lvl,?_,?_⟩
  ·obtain ⟨lw,hmem,_⟩:=hE.mem
   obtain ⟨c2,k1,⟨id,k2⟩,_⟩:=map_of hT
   rw [show lv-0=lv by omega,k1] at hch
   injection hch with hch
   subst hch
   obtain ⟨c3,k3,_⟩:=k2.mem hmem
   obtain ⟨s,r,_,g1,_,g3,_⟩:=k3.at_
   rw [hE.slot] at g1
   injection g1 with g1
   subst g1
   exact ((hT.may _ g3).leaf hE.lvl).2.1
  ·have:=map_value (key:=u.X.sep) hT ⟨ch,hch,hE⟩
   rw [hm] at this
   rw [<-hasE_value,this]
end
section
variable {w0:World} {S0:Nat->Prop} {C:Cf} {c B n:Nat} {A A':Ar} {us us':List Pu} {es es':List En} {u u':Pu} {m m':Pm} {leaf x:Int} {nd:Nd} {b:Bool}
theorem rest_le (k:Int):14<=rest k:=by
 unfold rest
 repeat' split
 all_goals omega
theorem root_set:(opSetHead A x nd).2.root=A.root/\(opSetBody A x nd).2.root=A.root/\(opUnlock A x b).2.root=A.root:=by
 refine ⟨?_,?_,?_⟩
 ·unfold opSetHead;split
  ·rfl
  ·split<;>rfl
 ·unfold opSetBody;split
  ·rfl
  ·split<;>rfl
 ·unfold opUnlock;split
  ·rfl
  ·split<;>rfl
theorem Bud.mono (h:Bud leaf B A m es) {B':Nat} (hB:B<=B'):Bud leaf B' A m es:=by
 unfold Bud at h ⊢
 split
 all_goals rename_i hx
 all_goals (try rw [hx] at h)
 all_goals (try simp only at h)
 ·omega
 ·obtain ⟨i,S,tail,h1,h2,h3,h4⟩:=h
  exact ⟨i,S,tail,h1,h2,by omega,h4⟩
 ·exact ⟨by omega,h.2⟩
 all_goals first|omega|exact ⟨by omega,h.2⟩|trivial
theorem Bud.step (h:Sn14 w0 S0 C c A us es) (hC:Cf14 C) (hn:us[n]?=some u) (hc:c < 9223372036854775807) (hf:FreeOk A u.X) (hb:Bud C.leaf (B+1) A u.X es) (h':Sn14 w0 S0 C (c+1) (stepP C.leaf C.inner A u.X).2.1 us' es') (hn':us'[n]?=some u') (hX:u'.X=(stepP C.leaf C.inner A u.X).2.2) (hes:es'=map14 C A u es):Bud C.leaf B (stepP C.leaf C.inner A u.X).2.1 (stepP C.leaf C.inner A u.X).2.2 es':=by
 have hu:u ∈ us:=List.mem_of_getElem? hn
 have hu':u' ∈ us':=List.mem_of_getElem? hn'
 have ok:=h.ok hu hc
 have hnx:=(h.nx u hu).1
 have hf':FreeOk (stepP C.leaf C.inner A u.X).2.1 u'.X:=by
  obtain ⟨V,lv,ls,hD⟩:=h.dinv
  rw [hX]
  exact hf.step hD.inv (List.mem_map.2 ⟨u,hu,rfl⟩) ok hnx hC.inner.1
 have hes1:u.X.nx=1\/u.X.nx=2->es'=es:=λ hx=>by
  rw [hes]
  unfold map14
  rw [if_neg (λ hh=>by rw [no_took (by omega)] at hh;cases hh.1)]
 clear hes
 obtain ⟨m,hm⟩:∃ m,u.X=m:=⟨_,rfl⟩
 rw [hm] at ok hnx hf hb h' hX hf' hes1 ⊢
 have hr:=rest_le (m.level+1)
 obtain ⟨k,hk⟩:∃ k,m.nx=k:=⟨_,rfl⟩
 have hk20:k<=20:=hk▸hnx
 unfold Bud at hb
 rw [hk] at hb
 match k,hk,hk20,hb with
 | 0,hk,_,_=>rw [stepP_0 hk];trivial
 | 1,hk,_,hb=>
  obtain ⟨i,S,tail,hd,hi,hB,hdone,hbef,hend⟩:=hb
  rw [hes1 (.inl hk)]
  by_cases he:i+1=S
  ·have e:=stepP_1 (leaf:=C.leaf) (inner:=C.inner) hk hd (by rw [<-runM_snoc,he];exact hdone)
   rw [<-runM_snoc,he] at e
   rw [e]
   rcases hend with ⟨g1,g2,g3⟩|⟨g1,g2,g3,g4⟩
   ·have e0:(runM A S (Mc.new m.sep m.level)).outId=0:=by unfold Mc.outId;rw [g1];rfl
    rw [e0,if_neg (by decide),if_pos g3]
    show 6<=B
    omega
   ·have e0:(runM A S (Mc.new m.sep m.level)).outId=(runM A S (Mc.new m.sep m.level)).id:=by unfold Mc.outId;rw [g1];rfl
    have e1:(runM A S (Mc.new m.sep m.level)).outWord=(runM A S (Mc.new m.sep m.level)).word:=by unfold Mc.outWord;rw [g1];rfl
    have e2:(runM A S (Mc.new m.sep m.level)).outNd=(runM A S (Mc.new m.sep m.level)).nd:=by unfold Mc.outNd;rw [g1];rfl
    have hp:=get_pos g2
    rw [e0,e1,e2,if_pos (by omega)]
    exact ⟨by show 8+rest (m.level+1)<=B;omega,g2,g4⟩
  ·have e:=stepP_1a (leaf:=C.leaf) (inner:=C.inner) hk hd (by rw [<-runM_snoc];exact hbef (i+1) (by omega))
   rw [<-runM_snoc] at e
   rw [e]
   show Bud C.leaf B A {m with D:=some (runM A (i+1) (Mc.new m.sep m.level))} es
   unfold Bud
   simp only [hk]
   exact ⟨i+1,S,tail,rfl,by omega,by omega,hdone,hbef,hend⟩
 | 2,hk,_,hb=>
  obtain ⟨hB,hs,hl0⟩:=hb
  have hev:=(hf.free m.id _ hs (by rw [holds_no (.inl (by omega))];exact List.not_mem_nil)).1
  have e:stepP C.leaf C.inner A m=lockP C.leaf C.inner A m:=by unfold stepP;simp only [hk]
  rw [e]
  unfold lockP
  rw [opLock_some hs,if_pos ⟨rfl,hev⟩]
  simp only [ne_eq,not_true_eq_false,if_false,Bool.true_eq_false]
  by_cases hl:m.level=0
  ·rw [if_pos hl]
   cases hov:over (newP m) C.leaf C.inner with
   | true=>show 7+rest (m.level+1)<=B;omega
   | false=>show 2<=B;omega
  ·rw [if_neg hl]
   split
   ·show 1<=B;omega
   ·cases hov:over (newP m) C.leaf C.inner with
    | true=>show 7+rest (m.level+1)<=B;omega
    | false=>show 2<=B;omega
 | 3,hk,_,hb=>
  have hb:2<=B+1:=hb
  rw [stepP_3 hk (ok.body hk).1];show 1<=B;omega
 | 4,hk,_,hb=>
  have hg:=ok.gives (.inl hk)
  rw [hk] at hg
  rw [stepP_4 hk hg];trivial
 | 5,hk,_,hb=>
  have hg:=ok.gives (.inr (.inl hk))
  rw [hk] at hg
  rw [stepP_5 hk hg];trivial
 | 6,hk,_,hb=>
  have hb:7+rest (m.level+1)<=B+1:=hb
  have e:stepP C.leaf C.inner A m=slotP A m:=by unfold stepP;simp only [hk]
  rw [e]
  unfold slotP
  by_cases hfull:A.sl.length=A.nodes
  ·rw [alloc_full_ hfull];simp only [hk];show 1<=B;omega
  ·rw [alloc_new_ hfull];simp only [hk];show 6+rest (m.level+1)<=B;omega
 | 7,hk,_,hb=>
  have hg:=ok.gives (.inr (.inr hk))
  rw [hk] at hg
  rw [stepP_7 hk hg];split<;>trivial
 | 8,hk,_,hb=>
  have hb:6+rest (m.level+1)<=B+1:=hb
  rw [stepP_8 hk (ok.s8 hk).1];show 5+rest (m.level+1)<=B;omega
 | 9,hk,_,hb=>
  have hb:5+rest (m.level+1)<=B+1:=hb
  rw [stepP_9 hk (ok.s9 hk).1];show 4+rest (m.level+1)<=B;omega
 | 10,hk,_,hb=>
  have hb:4+rest (m.level+1)<=B+1:=hb
  rw [stepP_10 hk (ok.s10 hk)];show 3+rest (m.level+1)<=B;omega
 | 11,hk,_,hb=>
  have hb:3+rest (m.level+1)<=B+1:=hb
  rw [stepP_11 hk (ok.s11 hk).1];show 2+rest (m.level+1)<=B;omega
 | 12,hk,_,hb=>
  have hb:2+rest (m.level+1)<=B+1:=hb
  rw [stepP_12 hk (ok.s12 hk).1];show 1+rest (m.level+1)<=B;omega
 | 13,hk,_,hb=>
  have hb:1+rest (m.level+1)<=B+1:=hb
  have e:=stepP_13 (leaf:=C.leaf) (inner:=C.inner) hk (ok.s13 hk).1
  rw [e] at h' hX hf' ⊢
  simp only at h' hX hf' ⊢
  rw [<-hX]
  refine (Bud.start h' hC hu' hf' (by rw [hX];rfl) (by rw [hX];rfl) (by rw [hX];have:=ok.lev.1;show 0<=m.level+1;omega)).mono ?_
  rw [hX]
  show rest (m.level+1)<=B
  omega
 | 14,hk,_,hb=>
  have hb:6<=B+1:=hb
  rw [stepP_14 hk]
  split
  ·trivial
  ·rename_i hr;exact ⟨by omega,by simpa using hr⟩
 | 15,hk,_,hb=>
  have hb:5<=B+1/\A.root=m.side:=hb
  have e:stepP C.leaf C.inner A m=slotP A m:=by unfold stepP;simp only [hk]
  rw [e]
  unfold slotP
  by_cases hfull:A.sl.length=A.nodes
  ·rw [alloc_full_ hfull];simp only [hk];trivial
  ·rw [alloc_new_ hfull];simp only [hk];exact ⟨by omega,hb.2⟩
 | 16,hk,_,hb=>
  have hb:4<=B+1/\A.root=m.side:=hb
  rw [stepP_16 hk (ok.s16 hk)];exact ⟨by omega,(root_set (b:=true)).1.trans hb.2⟩
 | 17,hk,_,hb=>
  have hb:3<=B+1/\A.root=m.side:=hb
  rw [stepP_17 hk (ok.s17 hk)];exact ⟨by omega,(root_set (b:=true)).2.1.trans hb.2⟩
 | 18,hk,_,hb=>
  have hb:2<=B+1/\A.root=m.side:=hb
  rw [stepP_18 hk (ok.s18 hk)];exact ⟨by omega,(root_set (nd:=Nd.zero)).2.2.trans hb.2⟩
 | 19,hk,_,hb=>
  have hb:1<=B+1/\A.root=m.side:=hb
  have hg:(opGrow A m.side m.root).1=true\/(opGrow A m.side m.root).2.1≠0:=by
   unfold opGrow
   split
   ·exact .inr (by show (101:Int)≠0;decide)
   ·rw [if_pos hb.2];exact .inl rfl
  rw [stepP_19 hk,if_pos hg]
  trivial
 | 20,hk,_,_=>rw [stepP_through hk];unfold Bud;rw [hk];trivial
 | j+21,_,h,_=>exact absurd h (by omega)
end
def Fit2 (x:En):Prop:=keyFit x.k=true/\valFit x.v=true
def Tale (A0:Ar) (es0:List En) (x:En) (A:Ar) (m:Pm) (es:List En):Prop:=
 if m.nx=20 then (m.err=3/\m.there=false/\A=A0/\es=es0/\¬Fit2 x)\/(m.err=2/\m.there=false/\hasE es0 x.k=false/\A.sl=A0.sl/\A.sl.length=A.nodes/\es=es0/\Fit2 x)\/(m.err=0/\m.there=hasE es0 x.k/\es=setE x es0/\Fit2 x)
 else if 0 < m.level/\m.nx≠0 then m.there=hasE es0 x.k/\es=setE x es0
 else if m.nx<=2 then A=A0/\es=es0/\m.there=false/\(m.nx=0->¬Fit2 x)
 else es=es0/\m.there=hasE es0 x.k/\(m.nx=6\/m.nx=7->hasE es0 x.k=false/\∃ s,A0.get m.id=some s/\A=A0.put m.id ⟨s.word+1,s.nd⟩)/\(m.nx=7->A.sl.length=A.nodes)
section
variable {w0:World} {S0:Nat->Prop} {C:Cf} {c B n:Nat} {A A0 A':Ar} {us:List Pu} {es es0 es':List En} {u:Pu} {m m':Pm} {x:En} {id:Int} {s t:Sl}
theorem put_put (h:A.get id=some s):((A.put id t).put id s).sl=A.sl:=by
 obtain ⟨i,_,h2,h3⟩:=get_some h
 unfold Ar.put
 rw [h3]
 simp only [List.set_set]
 exact List.ext_getElem? λ j=>by
  rw [List.getElem?_set]
  split
  ·rename_i hij
   subst hij
   rw [h2]
   simp [(List.getElem?_eq_some_iff.1 h2).1]
  ·rfl
theorem Tale.up (h1:m.nx≠20/\m.nx≠0) (h2:0 < m.level) (h3:m.there=hasE es0 x.k) (h4:es=setE x es0):Tale A0 es0 x A m es:=by
 unfold Tale;rw [if_neg h1.1,if_pos ⟨h2,h1.2⟩];exact ⟨h3,h4⟩
theorem Tale.done3 (h1:m.nx=20) (h2:m.err=3) (h3:m.there=false) (h4:A=A0) (h5:es=es0) (hf:¬Fit2 x):Tale A0 es0 x A m es:=by
 unfold Tale;rw [if_pos h1];exact .inl ⟨h2,h3,h4,h5,hf⟩
theorem Tale.done2 (h1:m.nx=20) (h2:m.err=2) (h3:m.there=false) (h4:hasE es0 x.k=false) (h5:A.sl=A0.sl) (h6:A.sl.length=A.nodes) (h7:es=es0) (hf:Fit2 x):Tale A0 es0 x A m es:=by
 unfold Tale;rw [if_pos h1];exact .inr (.inl ⟨h2,h3,h4,h5,h6,h7,hf⟩)
theorem Tale.done0 (h1:m.nx=20) (h2:m.err=0) (h3:m.there=hasE es0 x.k) (h4:es=setE x es0) (hf:Fit2 x):Tale A0 es0 x A m es:=by
 unfold Tale;rw [if_pos h1];exact .inr (.inr ⟨h2,h3,h4,hf⟩)
theorem Tale.mid (h1:m.nx≠20) (h2:¬0 < m.level) (h3:¬m.nx<=2) (h4:es=es0) (h5:m.there=hasE es0 x.k) (h6:m.nx=6\/m.nx=7->hasE es0 x.k=false/\∃ s,A0.get m.id=some s/\A=A0.put m.id ⟨s.word+1,s.nd⟩) (h7:m.nx=7->A.sl.length=A.nodes):Tale A0 es0 x A m es:=by
 unfold Tale;rw [if_neg h1,if_neg (λ h=>h2 h.1),if_neg h3];exact ⟨h4,h5,h6,h7⟩
theorem Tale.low (h1:m.nx<=2) (h2:¬0 < m.level) (h3:A=A0) (h4:es=es0) (h5:m.there=false) (hf:m.nx=0->¬Fit2 x):Tale A0 es0 x A m es:=by
 unfold Tale;rw [if_neg (by omega),if_neg (λ h=>h2 h.1),if_pos h1];exact ⟨h3,h4,h5,hf⟩
theorem Tale.get_up (h:Tale A0 es0 x A m es) (h1:m.nx≠20/\m.nx≠0) (h2:0 < m.level):m.there=hasE es0 x.k/\es=setE x es0:=by
 unfold Tale at h;rw [if_neg h1.1,if_pos ⟨h2,h1.2⟩] at h;exact h
theorem Tale.get_low (h:Tale A0 es0 x A m es) (h1:m.nx<=2) (h2:¬(0 < m.level/\m.nx≠0)):A=A0/\es=es0/\m.there=false/\(m.nx=0->¬Fit2 x):=by
 unfold Tale at h;rw [if_neg (by omega),if_neg h2,if_pos h1] at h;exact h
theorem Tale.get_mid (h:Tale A0 es0 x A m es) (h1:m.nx≠20) (h2:¬0 < m.level) (h3:¬m.nx<=2):es=es0/\m.there=hasE es0 x.k/\(m.nx=6\/m.nx=7->hasE es0 x.k=false/\∃ s,A0.get m.id=some s/\A=A0.put m.id ⟨s.word+1,s.nd⟩)/\(m.nx=7->A.sl.length=A.nodes):=by
 unfold Tale at h;rw [if_neg h1,if_neg (λ h=>h2 h.1),if_neg h3] at h;exact h
theorem Tale.on (h:Tale A0 es0 x A m es) (h1:3<=m.nx) (h2:m.nx≠20) (h3:3<=m'.nx) (h4:m'.nx≠20) (h5:m'.level=m.level) (h6:m'.there=m.there) (h7:¬(m'.nx=6\/m'.nx=7)):Tale A0 es0 x A' m' es:=by
 by_cases hl:0 < m.level
 ·obtain ⟨g1,g2⟩:=h.get_up ⟨h2,by omega⟩ hl
  exact .up ⟨h4,by omega⟩ (by rw [h5];exact hl) (by rw [h6];exact g1) g2
 ·obtain ⟨g1,g2,_,_⟩:=h.get_mid h2 hl (by omega)
  exact .mid h4 (by rw [h5];exact hl) (by omega) g1 (by rw [h6];exact g2) (λ hh=>absurd hh h7) (λ hh=>absurd (.inr hh) h7)
theorem Tale.step (h:Sn14 w0 S0 C c A us es) (hn:us[n]?=some u) (hc:c < 9223372036854775807) (hf:FreeOk A u.X) (hb:Bud C.leaf (B+1) A u.X es) (ht:Tale A0 es0 x A u.X es) (hx:x=⟨u.kv,u.vv,u.X.key,u.X.val⟩):Tale A0 es0 x (stepP C.leaf C.inner A u.X).2.1 (stepP C.leaf C.inner A u.X).2.2 (map14 C A u es):=by
 have hu:u ∈ us:=List.mem_of_getElem? hn
 have ok:=h.ok hu hc
 have hnx:=(h.nx u hu).1
 have h5:=(h.nx u hu).2
 obtain ⟨V,lv,ls,hD⟩:=h.dinv
 have hmm:u.X ∈ us.map Pu.X:=List.mem_map.2 ⟨u,hu,rfl⟩
 have hE:=hD.each _ hmm
 have hP:=(hD.inv.each _ hmm).2.2.2
 have hlv0:=ok.lev.1
 have hxk:x.k=u.X.key:=by rw [hx]
 have hno:(stepP C.leaf C.inner A u.X).1.2=false->map14 C A u es=es:=λ hh=>by
  unfold map14;rw [if_neg (λ hc=>by rw [hh] at hc;cases hc.1)]
 have hno2:(stepP C.leaf C.inner A u.X).2.2.out.2≠0->map14 C A u es=es:=λ hh=>by
  unfold map14;rw [if_neg (λ hc=>hh hc.2)]
 have hyes:(stepP C.leaf C.inner A u.X).1.2=true->(stepP C.leaf C.inner A u.X).2.2.out.2=0->map14 C A u es=setE x es:=λ h1 h2=>by
  unfold map14;rw [if_pos ⟨h1,h2⟩,hx]
 have hsame:=λ hh=>hno (no_took (A:=A) (a1:=C.leaf) (a2:=C.inner) hh)
 have hroot:u.X.nx=19->∃ s,A.get u.X.root=some s:=λ hh=>by
  have:=hE.own u.X.root (by rw [own_root (by omega) (by omega)];exact List.mem_singleton.2 rfl)
  exact get_in this.2.1 (by rw [<-hD.vof.len];exact this.2.2)
 have hsep:=λ (hl:u.X.live)=>(hE.key hl).2.2.2
 have hfit:u.X.live->Fit2 x:=λ hl=>by rw [hx];exact ⟨(hE.key hl).1,(hE.key hl).2.1⟩
 clear hx hD hE hmm
 obtain ⟨m,hm⟩:∃ m,u.X=m:=⟨_,rfl⟩
 rw [hm] at ok hnx hf hb ht h5 hP hlv0 hxk hno hno2 hyes hsame hroot hsep hfit ⊢
 obtain ⟨k,hk⟩:∃ k,m.nx=k:=⟨_,rfl⟩
 have hk20:k<=20:=hk▸hnx
 unfold Bud at hb
 rw [hk] at hb hP
 have ends0:m.there=(m.ends 0).there:=by show _=(m.there&&decide ((0:Int)=0));simp
 match k,hk,hk20,hb,hP with
 | 0,hk,_,_,_=>
  have e:=stepP_0 (leaf:=C.leaf) (inner:=C.inner) (A:=A) hk
  obtain ⟨g1,g2,g3,g4⟩:=ht.get_low (by omega) (by omega)
  rw [hno2 (by rw [e];show (3:Int)≠0;decide),e]
  exact .done3 rfl rfl (by show (m.there&&decide ((3:Int)=0))=false;rw [g3];rfl) g1 g2 (g4 hk)
 | 1,hk,_,hb,_=>
  obtain ⟨i,S,tail,hd,hi,hB,hdone,hbef,hend⟩:=hb
  rw [hsame (by omega)]
  have key:∀ m':Pm,m'.nx=1\/m'.nx=2->m'.level=m.level->m'.there=m.there->Tale A0 es0 x A m' es:=λ m' g1 g2 g3=>by
   by_cases hl:0 < m.level
   ·obtain ⟨k1,k2⟩:=ht.get_up (by omega) hl
    exact .up (by omega) (by omega) (by rw [g3];exact k1) k2
   ·obtain ⟨k1,k2,k3,k4⟩:=ht.get_low (by omega) (by omega)
    exact .low (by omega) (by omega) k1 k2 (by rw [g3];exact k3) (λ hh=>by omega)
  by_cases he:i+1=S
  ·have e:=stepP_1 (leaf:=C.leaf) (inner:=C.inner) hk hd (by rw [<-runM_snoc,he];exact hdone)
   rw [<-runM_snoc,he] at e
   rw [e]
   rcases hend with ⟨g1,g2,g3⟩|⟨g1,g2,g3,g4⟩
   ·have e0:(runM A S (Mc.new m.sep m.level)).outId=0:=by unfold Mc.outId;rw [g1];rfl
    rw [e0,if_neg (by decide),if_pos g3]
    obtain ⟨k1,k2⟩:=ht.get_up (by omega) g3
    exact .up (by show 14≠20/\14≠0;decide) g3 k1 k2
   ·have e0:(runM A S (Mc.new m.sep m.level)).outId=(runM A S (Mc.new m.sep m.level)).id:=by unfold Mc.outId;rw [g1];rfl
    have hp:=get_pos g2
    rw [e0,if_pos (by omega)]
    exact key _ (.inr rfl) rfl rfl
  ·have e:=stepP_1a (leaf:=C.leaf) (inner:=C.inner) hk hd (by rw [<-runM_snoc];exact hbef (i+1) (by omega))
   rw [e]
   exact key _ (.inl hk) rfl rfl
 | 2,hk,_,hb,_=>
  obtain ⟨hB,hs,hl0⟩:=hb
  have hev:=(hf.free m.id _ hs (by rw [holds_no (.inl (by omega))];exact List.not_mem_nil)).1
  have e:stepP C.leaf C.inner A m=lockP C.leaf C.inner A m:=by unfold stepP;simp only [hk]
  rw [hsame (by omega),e]
  unfold lockP
  rw [opLock_some hs,if_pos ⟨rfl,hev⟩]
  simp only [ne_eq,not_true_eq_false,if_false,Bool.true_eq_false]
  by_cases hl:m.level=0
  ·rw [if_pos hl]
   obtain ⟨g1,g2,g3,g4⟩:=ht.get_low (by omega) (by omega)
   obtain ⟨k1,k2,k3⟩:=hl0 hl
   have hk':=hsep ⟨by omega,by omega⟩ hl
   have hth:has m.old.keys m.sep=hasE es0 x.k:=by rw [k3,g2,hxk,hk']
   have hnw:newP m=wth m.old m.key m.val:=by unfold newP;rw [if_pos hl]
   cases hov:over (newP m) C.leaf C.inner with
   | true=>
    refine .mid (by show 6≠20;decide) (by show ¬0 < m.level;omega) (by show ¬6<=2;decide) g2 hth (λ _=>⟨?_,⟨m.word,m.old⟩,by rw [<-g1];exact hs,by rw [<-g1];rfl⟩) (λ hh=>by have:6=7:=hh;omega)
    rw [<-hth]
    cases hh:has m.old.keys m.sep with
    | false=>rfl
    | true=>
     exfalso
     rw [hnw] at hov
     have e2:(wth m.old m.key m.val).keys=m.old.keys:=by unfold wth;rw [<-hk',hh];rfl
     unfold over at hov
     rw [wth_hd.1,if_pos k1,e2,decide_eq_true_eq] at hov
     omega
   | false=>
    exact .mid (by show 3≠20;decide) (by show ¬0 < m.level;omega) (by show ¬3<=2;decide) g2 hth (λ hh=>by have:3=6\/3=7:=hh;omega) (λ hh=>by have:3=7:=hh;omega)
  ·rw [if_neg hl]
   obtain ⟨g1,g2⟩:=ht.get_up (by omega) (by omega)
   split
   ·exact .up (by show 5≠20/\5≠0;decide) (by show 0 < m.level;omega) g1 g2
   ·cases hov:over (newP m) C.leaf C.inner with
    | true=>exact .up (by show 6≠20/\6≠0;decide) (by show 0 < m.level;omega) g1 g2
    | false=>exact .up (by show 3≠20/\3≠0;decide) (by show 0 < m.level;omega) g1 g2
 | 3,hk,_,_,_=>
  rw [hsame (by omega),stepP_3 hk (ok.body hk).1]
  exact ht.on (by omega) (by omega) (by show 3<=4;decide) (by show 4≠20;decide) rfl rfl (by show ¬(4=6\/4=7);decide)
 | 4,hk,_,_,_=>
  have hg:=ok.gives (.inl hk)
  rw [hk] at hg
  have e:=stepP_4 (leaf:=C.leaf) (inner:=C.inner) hk hg
  by_cases hl:0 < m.level
  ·obtain ⟨g1,g2⟩:=ht.get_up (by omega) hl
   rw [hno (by rw [e];exact decide_eq_false (by omega)),e]
   exact .done0 rfl rfl (ends0.symm.trans g1) g2 (hfit ⟨by omega,by omega⟩)
  ·obtain ⟨g1,g2,_,_⟩:=ht.get_mid (by omega) hl (by omega)
   rw [hyes (by rw [e];exact decide_eq_true (by omega)) (by rw [e];rfl),e]
   exact .done0 rfl rfl (ends0.symm.trans g2) (by rw [g1]) (hfit ⟨by omega,by omega⟩)
 | 5,hk,_,_,_=>
  have hg:=ok.gives (.inr (.inl hk))
  rw [hk] at hg
  have e:=stepP_5 (leaf:=C.leaf) (inner:=C.inner) hk hg
  have hl:=h5 hk
  obtain ⟨g1,g2⟩:=ht.get_up (by omega) hl
  rw [hno (by rw [e];exact decide_eq_false (by omega)),e]
  exact .done0 rfl rfl (ends0.symm.trans g1) g2 (hfit ⟨by omega,by omega⟩)
 | 6,hk,_,_,_=>
  have e:stepP C.leaf C.inner A m=slotP A m:=by unfold stepP;simp only [hk]
  rw [hsame (by omega),e]
  unfold slotP
  by_cases hfull:A.sl.length=A.nodes
  ·rw [alloc_full_ hfull];simp only [hk]
   by_cases hl:0 < m.level
   ·obtain ⟨g1,g2⟩:=ht.get_up (by omega) hl
    exact .up (by show 7≠20/\7≠0;decide) hl g1 g2
   ·obtain ⟨g1,g2,g3,_⟩:=ht.get_mid (by omega) hl (by omega)
    exact .mid (by show 7≠20;decide) hl (by show ¬7<=2;decide) g1 g2 (λ _=>g3 (.inl hk)) (λ _=>hfull)
  ·rw [alloc_new_ hfull];simp only [hk]
   exact ht.on (by omega) (by omega) (by show 3<=8;decide) (by show 8≠20;decide) rfl rfl (by show ¬(8=6\/8=7);decide)
 | 7,hk,_,_,hP=>
  have hg:=ok.gives (.inr (.inr hk))
  rw [hk] at hg
  have e:=stepP_7 (leaf:=C.leaf) (inner:=C.inner) hk hg
  by_cases hl:m.level=0
  ·rw [if_pos hl] at e
   obtain ⟨g1,g2,g3,g4⟩:=ht.get_mid (by omega) (by omega) (by omega)
   obtain ⟨k1,s,k2,k3⟩:=g3 (.inr hk)
   rw [hno2 (by rw [e];show (2:Int)≠0;decide),e]
   have hA:(opUnlock A m.id false).2.sl=A0.sl/\(opUnlock A m.id false).2.nodes=A.nodes:=by
    have hs:A.get m.id=some ⟨s.word+1,s.nd⟩:=by rw [k3];exact put_get k2 _
    have hodd:(s.word+1) % 2=1:=by
     obtain ⟨⟨s',hs',hw,_⟩,hev,_⟩:=(hP:PBase A m)
     rw [hs] at hs'
     injection hs' with hs'
     have:s'.word=s.word+1:=by rw [<-hs']
     omega
    unfold opUnlock
    rw [hs]
    simp only
    rw [if_neg (by omega)]
    have hb:back (s.word+1) false=s.word:=rfl
    rw [hb,k3]
    exact ⟨put_put k2,rfl⟩
   exact .done2 rfl rfl (by show (m.there&&decide ((2:Int)=0))=false;simp) k1 hA.1 (by show (opUnlock A m.id false).2.sl.length=(opUnlock A m.id false).2.nodes;rw [hA.1,hA.2,<-g4 hk,k3];unfold Ar.put;simp) g1 (hfit ⟨by omega,by omega⟩)
  ·rw [if_neg hl] at e
   obtain ⟨g1,g2⟩:=ht.get_up (by omega) (by omega)
   rw [hno (by rw [e]),e]
   exact .done0 rfl rfl (ends0.symm.trans g1) g2 (hfit ⟨by omega,by omega⟩)
 | 8,hk,_,_,_=>
  rw [hsame (by omega),stepP_8 hk (ok.s8 hk).1]
  exact ht.on (by omega) (by omega) (by show 3<=9;decide) (by show 9≠20;decide) rfl rfl (by show ¬(9=6\/9=7);decide)
 | 9,hk,_,_,_=>
  rw [hsame (by omega),stepP_9 hk (ok.s9 hk).1]
  exact ht.on (by omega) (by omega) (by show 3<=10;decide) (by show 10≠20;decide) rfl rfl (by show ¬(10=6\/10=7);decide)
 | 10,hk,_,_,_=>
  rw [hsame (by omega),stepP_10 hk (ok.s10 hk)]
  exact ht.on (by omega) (by omega) (by show 3<=11;decide) (by show 11≠20;decide) rfl rfl (by show ¬(11=6\/11=7);decide)
 | 11,hk,_,_,_=>
  rw [hsame (by omega),stepP_11 hk (ok.s11 hk).1]
  exact ht.on (by omega) (by omega) (by show 3<=12;decide) (by show 12≠20;decide) rfl rfl (by show ¬(12=6\/12=7);decide)
 | 12,hk,_,_,_=>
  rw [hsame (by omega),stepP_12 hk (ok.s12 hk).1]
  exact ht.on (by omega) (by omega) (by show 3<=13;decide) (by show 13≠20;decide) rfl rfl (by show ¬(13=6\/13=7);decide)
 | 13,hk,_,_,_=>
  have e:=stepP_13 (leaf:=C.leaf) (inner:=C.inner) hk (ok.s13 hk).1
  by_cases hl:0 < m.level
  ·obtain ⟨g1,g2⟩:=ht.get_up (by omega) hl
   rw [hno (by rw [e];exact decide_eq_false (by omega)),e]
   exact .up (by show 1≠20/\1≠0;decide) (by show 0 < m.level+1;omega) g1 g2
  ·obtain ⟨g1,g2,_,_⟩:=ht.get_mid (by omega) hl (by omega)
   rw [hyes (by rw [e];exact decide_eq_true (by omega)) (by rw [e];rfl),e]
   exact .up (by show 1≠20/\1≠0;decide) (by show 0 < m.level+1;omega) g2 (by rw [g1])
 | 14,hk,_,_,hP=>
  have hl:0 < m.level:=hP
  obtain ⟨g1,g2⟩:=ht.get_up (by omega) hl
  rw [hsame (by omega),stepP_14 hk]
  split
  ·exact .done0 rfl rfl (ends0.symm.trans g1) g2 (hfit ⟨by omega,by omega⟩)
  ·exact .up (by show 15≠20/\15≠0;decide) hl g1 g2
 | 15,hk,_,_,hP=>
  have hl:0 < m.level:=hP
  obtain ⟨g1,g2⟩:=ht.get_up (by omega) hl
  have e:stepP C.leaf C.inner A m=slotP A m:=by unfold stepP;simp only [hk]
  rw [hsame (by omega),e]
  unfold slotP
  by_cases hfull:A.sl.length=A.nodes
  ·rw [alloc_full_ hfull];simp only [hk];exact .done0 rfl rfl (ends0.symm.trans g1) g2 (hfit ⟨by omega,by omega⟩)
  ·rw [alloc_new_ hfull];simp only [hk];exact .up (by show 16≠20/\16≠0;decide) hl g1 g2
 | 16,hk,_,_,_=>
  rw [hsame (by omega),stepP_16 hk (ok.s16 hk)]
  exact ht.on (by omega) (by omega) (by show 3<=17;decide) (by show 17≠20;decide) rfl rfl (by show ¬(17=6\/17=7);decide)
 | 17,hk,_,_,_=>
  rw [hsame (by omega),stepP_17 hk (ok.s17 hk)]
  exact ht.on (by omega) (by omega) (by show 3<=18;decide) (by show 18≠20;decide) rfl rfl (by show ¬(18=6\/18=7);decide)
 | 18,hk,_,_,_=>
  rw [hsame (by omega),stepP_18 hk (ok.s18 hk)]
  exact ht.on (by omega) (by omega) (by show 3<=19;decide) (by show 19≠20;decide) rfl rfl (by show ¬(19=6\/19=7);decide)
 | 19,hk,_,hb,hP=>
  have hl:0 < m.level:=hP
  have hb:1<=B+1/\A.root=m.side:=hb
  obtain ⟨g1,g2⟩:=ht.get_up (by omega) hl
  obtain ⟨s,hs⟩:=hroot hk
  have hg:opGrow A m.side m.root=(true,0,{A with root:=m.root}):=by unfold opGrow;rw [hs];simp only;rw [if_pos hb.2]
  rw [hsame (by omega),stepP_19 hk,hg,if_pos (.inl rfl)]
  exact .done0 rfl rfl (ends0.symm.trans g1) g2 (hfit ⟨by omega,by omega⟩)
 | 20,hk,_,_,_=>rw [hsame (by omega),stepP_through hk];exact ht
 | j+21,_,h,_,_=>exact absurd h (by omega)
end
end Go.Proofs.YtjcgphhpaenjkaaGreat

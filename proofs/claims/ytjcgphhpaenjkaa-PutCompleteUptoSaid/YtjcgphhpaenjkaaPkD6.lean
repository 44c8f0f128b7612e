import Derived.Test.YtjcgphhpaenjkaaPkD5
set_option linter.unusedVariables false
namespace Go.Proofs.Ytjcgphhpaenjkaa
open Go.RowKit
section
variable {r:Int->Nat} {w0:World} {S0:Nat->Prop} {C:Cf} {c B n:Nat} {A A':Ar} {us us':List Pu} {es es':List En} {u u':Pu} {m m':Pm} {leaf x:Int} {nd:Nd} {b:Bool}
theorem root_set:(opSetHead A x nd).2.root=A.root/\(opSetBody A x nd).2.root=A.root/\(opUnlock A x b).2.root=A.root:=by
 refine ⟨?_,?_,?_⟩
 ·unfold opSetHead;split
  ·rfl
  ·split<;>rfl
 ·unfold opSetBody;split
  ·rfl
  ·split<;>rfl
 ·unfold opUnlock;split
  ·rfl
  ·split<;>rfl
theorem Bud.mono (h:Bud r leaf B A m es) {B':Nat} (hB:B<=B'):Bud r leaf B' A m es:=by
 unfold Bud at h ⊢
 split
 all_goals rename_i hx
 all_goals (try rw [hx] at h)
 all_goals (try simp only at h)
 ·omega
 ·obtain ⟨i,S,tail,h1,h2,h3,h4⟩:=h
  exact ⟨i,S,tail,h1,h2,by omega,h4⟩
 ·exact ⟨by omega,h.2⟩
 all_goals first|omega|exact ⟨by omega,h.2⟩|trivial
theorem Bud.step (h:Sn14 w0 S0 C c A us es) (hI:3<=C.inner) (hrl:∀ k,14<=r k) (hrn:u'.X.nx=1->Rst r C (stepP C.leaf C.inner A u.X).2.1 u'.X.level) (hn:us[n]?=some u) (hc:c < 9223372036854775807) (hf:FreeOk A u.X) (hb:Bud r C.leaf (B+1) A u.X es) (h':Sn14 w0 S0 C (c+1) (stepP C.leaf C.inner A u.X).2.1 us' es') (hn':us'[n]?=some u') (hX:u'.X=(stepP C.leaf C.inner A u.X).2.2) (hes:es'=map14 C A u es):Bud r C.leaf B (stepP C.leaf C.inner A u.X).2.1 (stepP C.leaf C.inner A u.X).2.2 es':=by
 have hu:u ∈ us:=List.mem_of_getElem? hn
 have hu':u' ∈ us':=List.mem_of_getElem? hn'
 have ok:=h.ok hu hc
 have hnx:=(h.nx u hu).1
 have hf':FreeOk (stepP C.leaf C.inner A u.X).2.1 u'.X:=by
  obtain ⟨V,lv,ls,hD⟩:=h.dinv
  rw [hX]
  exact hf.step hD.inv (List.mem_map.2 ⟨u,hu,rfl⟩) ok hnx hI
 have hes1:u.X.nx=1\/u.X.nx=2->es'=es:=λ hx=>by
  rw [hes]
  unfold map14
  rw [if_neg (λ hh=>by rw [no_took (by omega)] at hh;cases hh.1)]
 clear hes
 obtain ⟨m,hm⟩:∃ m,u.X=m:=⟨_,rfl⟩
 rw [hm] at ok hnx hf hb h' hX hf' hes1 hrn ⊢
 have hr:=hrl (m.level+1)
 obtain ⟨k,hk⟩:∃ k,m.nx=k:=⟨_,rfl⟩
 have hk20:k<=20:=hk▸hnx
 unfold Bud at hb
 rw [hk] at hb
 match k,hk,hk20,hb with
 | 0,hk,_,_=>rw [stepP_0 hk];trivial
 | 1,hk,_,hb=>
  obtain ⟨i,S,tail,hd,hi,hB,hdone,hbef,hend⟩:=hb
  rw [hes1 (.inl hk)]
  by_cases he:i+1=S
  ·have e:=stepP_1 (leaf:=C.leaf) (inner:=C.inner) hk hd (by rw [<-runM_snoc,he];exact hdone)
   rw [<-runM_snoc,he] at e
   rw [e]
   rcases hend with ⟨g1,g2,g3⟩|⟨g1,g2,g3,g4⟩
   ·have e0:(runM A S (Mc.new m.sep m.level)).outId=0:=by unfold Mc.outId;rw [g1];rfl
    rw [e0,if_neg (by decide),if_pos g3]
    show 6<=B
    omega
   ·have e0:(runM A S (Mc.new m.sep m.level)).outId=(runM A S (Mc.new m.sep m.level)).id:=by unfold Mc.outId;rw [g1];rfl
    have e1:(runM A S (Mc.new m.sep m.level)).outWord=(runM A S (Mc.new m.sep m.level)).word:=by unfold Mc.outWord;rw [g1];rfl
    have e2:(runM A S (Mc.new m.sep m.level)).outNd=(runM A S (Mc.new m.sep m.level)).nd:=by unfold Mc.outNd;rw [g1];rfl
    have hp:=get_pos g2
    rw [e0,e1,e2,if_pos (by omega)]
    exact ⟨by show 8+r (m.level+1)<=B;omega,g2,g4⟩
  ·have e:=stepP_1a (leaf:=C.leaf) (inner:=C.inner) hk hd (by rw [<-runM_snoc];exact hbef (i+1) (by omega))
   rw [<-runM_snoc] at e
   rw [e]
   show Bud r C.leaf B A {m with D:=some (runM A (i+1) (Mc.new m.sep m.level))} es
   unfold Bud
   simp only [hk]
   exact ⟨i+1,S,tail,rfl,by omega,by omega,hdone,hbef,hend⟩
 | 2,hk,_,hb=>
  obtain ⟨hB,hs,hl0⟩:=hb
  have hev:=(hf.free m.id _ hs (by rw [holds_no (.inl (by omega))];exact List.not_mem_nil)).1
  have e:stepP C.leaf C.inner A m=lockP C.leaf C.inner A m:=by unfold stepP;simp only [hk]
  rw [e]
  unfold lockP
  rw [opLock_some hs,if_pos ⟨rfl,hev⟩]
  simp only [ne_eq,not_true_eq_false,if_false,Bool.true_eq_false]
  by_cases hl:m.level=0
  ·rw [if_pos hl]
   cases hov:over (newP m) C.leaf C.inner with
   | true=>show 7+r (m.level+1)<=B;omega
   | false=>show 2<=B;omega
  ·rw [if_neg hl]
   split
   ·show 1<=B;omega
   ·cases hov:over (newP m) C.leaf C.inner with
    | true=>show 7+r (m.level+1)<=B;omega
    | false=>show 2<=B;omega
 | 3,hk,_,hb=>
  have hb:2<=B+1:=hb
  rw [stepP_3 hk (ok.body hk).1];show 1<=B;omega
 | 4,hk,_,hb=>
  have hg:=ok.gives (.inl hk)
  rw [hk] at hg
  rw [stepP_4 hk hg];trivial
 | 5,hk,_,hb=>
  have hg:=ok.gives (.inr (.inl hk))
  rw [hk] at hg
  rw [stepP_5 hk hg];trivial
 | 6,hk,_,hb=>
  have hb:7+r (m.level+1)<=B+1:=hb
  have e:stepP C.leaf C.inner A m=slotP A m:=by unfold stepP;simp only [hk]
  rw [e]
  unfold slotP
  by_cases hfull:A.sl.length=A.nodes
  ·rw [alloc_full_ hfull];simp only [hk];show 1<=B;omega
  ·rw [alloc_new_ hfull];simp only [hk];show 6+r (m.level+1)<=B;omega
 | 7,hk,_,hb=>
  have hg:=ok.gives (.inr (.inr hk))
  rw [hk] at hg
  rw [stepP_7 hk hg];split<;>trivial
 | 8,hk,_,hb=>
  have hb:6+r (m.level+1)<=B+1:=hb
  rw [stepP_8 hk (ok.s8 hk).1];show 5+r (m.level+1)<=B;omega
 | 9,hk,_,hb=>
  have hb:5+r (m.level+1)<=B+1:=hb
  rw [stepP_9 hk (ok.s9 hk).1];show 4+r (m.level+1)<=B;omega
 | 10,hk,_,hb=>
  have hb:4+r (m.level+1)<=B+1:=hb
  rw [stepP_10 hk (ok.s10 hk)];show 3+r (m.level+1)<=B;omega
 | 11,hk,_,hb=>
  have hb:3+r (m.level+1)<=B+1:=hb
  rw [stepP_11 hk (ok.s11 hk).1];show 2+r (m.level+1)<=B;omega
 | 12,hk,_,hb=>
  have hb:2+r (m.level+1)<=B+1:=hb
  rw [stepP_12 hk (ok.s12 hk).1];show 1+r (m.level+1)<=B;omega
 | 13,hk,_,hb=>
  have hb:1+r (m.level+1)<=B+1:=hb
  have e:=stepP_13 (leaf:=C.leaf) (inner:=C.inner) hk (ok.s13 hk).1
  rw [e] at h' hX hf' hrn ⊢
  simp only at h' hX hf' hrn ⊢
  rw [<-hX]
  refine (Bud.start h' (hrn (by rw [hX];rfl)) hu' hf' (by rw [hX];rfl) (by rw [hX];rfl) (by rw [hX];have:=ok.lev.1;show 0<=m.level+1;omega)).mono ?_
  rw [hX]
  show r (m.level+1)<=B
  omega
 | 14,hk,_,hb=>
  have hb:6<=B+1:=hb
  rw [stepP_14 hk]
  split
  ·trivial
  ·rename_i hr;exact ⟨by omega,by simpa using hr⟩
 | 15,hk,_,hb=>
  have hb:5<=B+1/\A.root=m.side:=hb
  have e:stepP C.leaf C.inner A m=slotP A m:=by unfold stepP;simp only [hk]
  rw [e]
  unfold slotP
  by_cases hfull:A.sl.length=A.nodes
  ·rw [alloc_full_ hfull];simp only [hk];trivial
  ·rw [alloc_new_ hfull];simp only [hk];exact ⟨by omega,hb.2⟩
 | 16,hk,_,hb=>
  have hb:4<=B+1/\A.root=m.side:=hb
  rw [stepP_16 hk (ok.s16 hk)];exact ⟨by omega,(root_set (b:=true)).1.trans hb.2⟩
 | 17,hk,_,hb=>
  have hb:3<=B+1/\A.root=m.side:=hb
  rw [stepP_17 hk (ok.s17 hk)];exact ⟨by omega,(root_set (b:=true)).2.1.trans hb.2⟩
 | 18,hk,_,hb=>
  have hb:2<=B+1/\A.root=m.side:=hb
  rw [stepP_18 hk (ok.s18 hk)];exact ⟨by omega,(root_set (nd:=Nd.zero)).2.2.trans hb.2⟩
 | 19,hk,_,hb=>
  have hb:1<=B+1/\A.root=m.side:=hb
  have hg:(opGrow A m.side m.root).1=true\/(opGrow A m.side m.root).2.1≠0:=by
   unfold opGrow
   split
   ·exact .inr (by show (101:Int)≠0;decide)
   ·rw [if_pos hb.2];exact .inl rfl
  rw [stepP_19 hk,if_pos hg]
  trivial
 | 20,hk,_,_=>rw [stepP_through hk];unfold Bud;rw [hk];trivial
 | j+21,_,h,_=>exact absurd h (by omega)
end
section
variable {r:Int->Nat} {w0:World} {S0:Nat->Prop} {C:Cf} {c B n:Nat} {A A0 A':Ar} {us:List Pu} {es es0 es':List En} {u:Pu} {m m':Pm} {x:En} {id:Int} {s t:Sl}
end
def Un (k:Nat):Nat:=match k with
 | 3=>1
 | 4=>2
 | 5=>1
 | 6=>1
 | 7=>2
 | 8=>2
 | 9=>3
 | 10=>4
 | 11=>5
 | 12=>6
 | 13=>7
 | 16=>1
 | 17=>2
 | 18=>3
 | _=>0
theorem un_le (k:Nat):Un k<=7:=by unfold Un;split<;>decide
def NoHold (k:Nat):Prop:=k<=2\/k=14\/k=15\/19<=k
section
variable {r:Int->Nat} {leaf inner:Int} {A:Ar} {m:Pm} {B:Nat} {es:List En} {d:Mc}
def Says (r:Ps) (k:Nat):Prop:=r.1.1=decide (r.2.2.nx=20)/\(NoHold r.2.2.nx\/Un k+1<=Un r.2.2.nx)
theorem Says.go {b:Bool} {k:Nat} (h1:m.nx≠20) (h2:NoHold m.nx\/Un k+1<=Un m.nx):Says ((false,b),A,m) k:=⟨(decide_eq_false h1).symm,h2⟩
theorem Says.through {b:Bool} {k:Nat} {e:Int}:Says ((true,b),A,m.ends e) k:=⟨rfl,.inl (.inr (.inr (.inr (by show 19<=20;decide))))⟩
theorem stepP_says (ok:POk A m) (hn:m.nx<=20) (hx:m.nx≠20):Says (stepP leaf inner A m) m.nx:=by
 obtain ⟨k,hk⟩:∃ k,m.nx=k:=⟨_,rfl⟩
 have hk20:k<=20:=hk▸hn
 have hgo:∀ (b:Bool) (A':Ar) (m':Pm) (j:Nat),m'.nx=j->j≠20->(NoHold j\/Un k+1<=Un j)->Says ((false,b),A',m') m.nx:=λ b A' m' j h1 h2 h3=>.go (by rw [h1];exact h2) (by rw [h1,hk];exact h3)
 match k,hk,hk20,hgo with
 | 0,hk,_,_=>rw [stepP_0 hk];exact .through
 | 1,hk,_,hgo=>
  obtain ⟨d,hd⟩:=ok.des hk
  by_cases hdn:(stepM A d).nx=.done
  ·rw [stepP_1 hk hd hdn]
   split
   ·exact hgo _ _ _ 2 rfl (by decide) (.inl (.inl (by decide)))
   ·split
    ·exact hgo _ _ _ 14 rfl (by decide) (.inl (.inr (.inl rfl)))
    ·exact .through
  ·rw [stepP_1a hk hd hdn]
   exact hgo _ _ _ 1 hk (by decide) (.inl (.inl (by decide)))
 | 2,hk,_,hgo=>
  have e:stepP leaf inner A m=lockP leaf inner A m:=by unfold stepP;simp only [hk]
  rw [e]
  unfold lockP
  simp only
  split
  ·exact .through
  ·split
   ·exact hgo _ _ _ 1 rfl (by decide) (.inl (.inl (by decide)))
   ·split
    ·split
     ·exact hgo _ _ _ 6 rfl (by decide) (.inr (by decide))
     ·exact hgo _ _ _ 3 rfl (by decide) (.inr (by decide))
    ·split
     ·exact hgo _ _ _ 5 rfl (by decide) (.inr (by decide))
     ·split
      ·exact hgo _ _ _ 6 rfl (by decide) (.inr (by decide))
      ·exact hgo _ _ _ 3 rfl (by decide) (.inr (by decide))
 | 3,hk,_,hgo=>rw [stepP_3 hk (ok.body hk).1];exact hgo _ _ _ 4 rfl (by decide) (.inr (by decide))
 | 4,hk,_,_=>
  have hg:=ok.gives (.inl hk)
  rw [hk] at hg
  rw [stepP_4 hk hg];exact .through
 | 5,hk,_,_=>
  have hg:=ok.gives (.inr (.inl hk))
  rw [hk] at hg
  rw [stepP_5 hk hg];exact .through
 | 6,hk,_,hgo=>
  have e:stepP leaf inner A m=slotP A m:=by unfold stepP;simp only [hk]
  rw [e]
  unfold slotP
  by_cases hfull:A.sl.length=A.nodes
  ·rw [alloc_full_ hfull];simp only [hk];exact Says.go (by show 7≠20;decide) (.inr (by show Un 6+1<=Un 7;decide))
  ·rw [alloc_new_ hfull];simp only [hk];exact Says.go (by show 8≠20;decide) (.inr (by show Un 6+1<=Un 8;decide))
 | 7,hk,_,_=>
  have hg:=ok.gives (.inr (.inr hk))
  rw [hk] at hg
  rw [stepP_7 hk hg];split<;>exact .through
 | 8,hk,_,hgo=>rw [stepP_8 hk (ok.s8 hk).1];exact hgo _ _ _ 9 rfl (by decide) (.inr (by decide))
 | 9,hk,_,hgo=>rw [stepP_9 hk (ok.s9 hk).1];exact hgo _ _ _ 10 rfl (by decide) (.inr (by decide))
 | 10,hk,_,hgo=>rw [stepP_10 hk (ok.s10 hk)];exact hgo _ _ _ 11 rfl (by decide) (.inr (by decide))
 | 11,hk,_,hgo=>rw [stepP_11 hk (ok.s11 hk).1];exact hgo _ _ _ 12 rfl (by decide) (.inr (by decide))
 | 12,hk,_,hgo=>rw [stepP_12 hk (ok.s12 hk).1];exact hgo _ _ _ 13 rfl (by decide) (.inr (by decide))
 | 13,hk,_,hgo=>rw [stepP_13 hk (ok.s13 hk).1];exact hgo _ _ _ 1 rfl (by decide) (.inl (.inl (by decide)))
 | 14,hk,_,hgo=>
  rw [stepP_14 hk]
  split
  ·exact .through
  ·exact hgo _ _ _ 15 rfl (by decide) (.inl (.inr (.inr (.inl rfl))))
 | 15,hk,_,hgo=>
  have e:stepP leaf inner A m=slotP A m:=by unfold stepP;simp only [hk]
  rw [e]
  unfold slotP
  by_cases hfull:A.sl.length=A.nodes
  ·rw [alloc_full_ hfull];simp only [hk];exact .through
  ·rw [alloc_new_ hfull];simp only [hk];exact Says.go (by show 16≠20;decide) (.inr (by show Un 15+1<=Un 16;decide))
 | 16,hk,_,hgo=>rw [stepP_16 hk (ok.s16 hk)];exact hgo _ _ _ 17 rfl (by decide) (.inr (by decide))
 | 17,hk,_,hgo=>rw [stepP_17 hk (ok.s17 hk)];exact hgo _ _ _ 18 rfl (by decide) (.inr (by decide))
 | 18,hk,_,hgo=>rw [stepP_18 hk (ok.s18 hk)];exact hgo _ _ _ 19 rfl (by decide) (.inl (.inr (.inr (.inr (by decide)))))
 | 19,hk,_,hgo=>
  rw [stepP_19 hk]
  split
  ·exact .through
  ·exact hgo _ _ _ 1 rfl (by decide) (.inl (.inl (by decide)))
 | 20,hk,_,_=>exact absurd hk hx
 | j+21,_,h,_=>exact absurd h (by omega)
theorem Bud.pos (h:Bud r leaf B A m es) (hn:m.nx<=20) (hx:m.nx≠20):0 < B:=by
 obtain ⟨k,hk⟩:∃ k,m.nx=k:=⟨_,rfl⟩
 have hk20:k<=20:=hk▸hn
 unfold Bud at h
 rw [hk] at h
 match k,hk,hk20,h with
 | 0,_,_,h=>have h:1<=B:=h;omega
 | 1,_,_,h=>obtain ⟨i,S,tail,_,h2,h3,_⟩:=h;omega
 | 2,_,_,h=>have h:=h.1;omega
 | 3,_,_,h=>have h:2<=B:=h;omega
 | 4,_,_,h=>have h:1<=B:=h;omega
 | 5,_,_,h=>have h:1<=B:=h;omega
 | 6,_,_,h=>have h:7+r (m.level+1)<=B:=h;omega
 | 7,_,_,h=>have h:1<=B:=h;omega
 | 8,_,_,h=>have h:6+r (m.level+1)<=B:=h;omega
 | 9,_,_,h=>have h:5+r (m.level+1)<=B:=h;omega
 | 10,_,_,h=>have h:4+r (m.level+1)<=B:=h;omega
 | 11,_,_,h=>have h:3+r (m.level+1)<=B:=h;omega
 | 12,_,_,h=>have h:2+r (m.level+1)<=B:=h;omega
 | 13,_,_,h=>have h:1+r (m.level+1)<=B:=h;omega
 | 14,_,_,h=>have h:6<=B:=h;omega
 | 15,_,_,h=>have h:=h.1;omega
 | 16,_,_,h=>have h:=h.1;omega
 | 17,_,_,h=>have h:=h.1;omega
 | 18,_,_,h=>have h:=h.1;omega
 | 19,_,_,h=>have h:=h.1;omega
 | 20,hk,_,_=>exact absurd hk hx
 | j+21,_,h,_=>exact absurd h (by omega)
theorem held_even:∀ {l:List Sl} (i:Nat),(∀ s ∈ l,s.word % 2=0)->heldFrom i l=[]
 | [],_,_=>rfl
 | s::l,i,h=>by
  unfold heldFrom
  rw [if_neg (by have:=h s List.mem_cons_self;omega)]
  exact held_even (i+1) (λ x hx=>h x (List.mem_cons_of_mem _ hx))
theorem FreeOk.held (h:FreeOk A m) (hh:NoHold m.nx):heldFrom 1 A.sl=[]:=held_even 1 (h.even (holds_no hh))
end
end Go.Proofs.Ytjcgphhpaenjkaa

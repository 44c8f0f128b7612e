import Derived.Test.YtjcgphhpaenjkaaPkB1
set_option maxHeartbeats 64000000
set_option maxRecDepth 100000
set_option linter.unusedVariables false
namespace Go.Proofs.Ytjcgphhpaenjkaa
open Go.RowKit
def Shr (G:Nat->Prop) (w w':World):Nat->Prop:=λ x=>G x/\¬Fresh w w' x
section
variable {w w':World} {G G' S N:Nat->Prop} {b p q m a:Nat} {A B:Ar} {M:Mc} {t:TypeId} {nv:Nx->Value}
theorem JX.shr {Φ:Fr} (h:JX w G Φ p A) (k:Keeps N w w') (hN:∀ x,x < w.heap.size->G x->¬N x):JX w' (Shr G w w') Φ p A:=
 h.enterN k hN (λ x hx hg=>⟨hg,λ hf=>by have:=hf.1;omega⟩) (λ x hx=>⟨h.new x (Nat.le_trans k.size hx),λ hf=>by have:=hf.2;omega⟩)
end
end Go.Proofs.Ytjcgphhpaenjkaa
namespace Go.Proofs.Ytjcgphhpaenjkaa
open Go.RowKit
structure Ob where
 P:World->Prop
 F:Nat->Prop
 W:Nat->Prop
 fr:∀ (w w':World) (N:Nat->Prop),P w->Keeps N w w'->(∀ x,x < w.heap.size->F x->¬N x)->P w'
structure Fam (w:World) (G:Nat->Prop) (l:List Ob):Prop where
 ok:∀ (i:Nat) o,l[i]?=some o->o.P w
 old:∀ (i:Nat) o,l[i]?=some o->∀ x,o.F x->x < w.heap.size
 wf:∀ (i:Nat) o,l[i]?=some o->∀ x,o.W x->o.F x
 off:∀ (i:Nat) o,l[i]?=some o->∀ x,o.F x->¬G x
 apart:∀ (i j:Nat) o u,l[i]?=some o->l[j]?=some u->i≠j->∀ x,o.W x->¬u.F x
section
variable {w w':World} {G G' N:Nat->Prop} {l:List Ob} {o o':Ob} {i:Nat}
theorem Fam.nil:Fam w G []:=⟨λ i o h=>by simp at h,λ i o h=>by simp at h,λ i o h=>by simp at h,λ i o h=>by simp at h,λ i j o u h=>by simp at h⟩
theorem Fam.keeps (h:Fam w G l) (k:Keeps N w w') (hN:∀ (i:Nat) o,l[i]?=some o->∀ x,o.F x->¬N x) (hg:∀ x,G' x->G x\/w.heap.size<=x):Fam w' G' l:=
 ⟨λ i o hi=>o.fr _ _ _ (h.ok i o hi) k (λ x _ hx=>hN i o hi x hx),λ i o hi x hx=>Nat.lt_of_lt_of_le (h.old i o hi x hx) k.size,h.wf,λ i o hi x hx hg'=>by
  rcases hg x hg' with h1|h1
  ·exact h.off i o hi x hx h1
  ·have:=h.old i o hi x hx;omega,h.apart⟩
theorem Fam.nob (h:Fam w G l) (k:Keeps Nob w w'):Fam w' G l:=h.keeps k (λ _ _ _ _ _=>id) (λ _=>.inl)
instance:Kn (λ w=>Fam w G l):=⟨λ k h=>Fam.nob h k⟩
theorem Fam.sub (h:Fam w G l) (hg:∀ x,G' x->G x):Fam w G' l:=h.keeps (Keeps.refl Nob w) (λ _ _ _ _ _=>id) (λ x hx=>.inl (hg x hx))
theorem Fam.set (h:Fam w G l) (hi:l[i]?=some o) (k:Keeps N w w') (hN:∀ x,x < w.heap.size->N x->o.W x) (hP:o'.P w') (hF:∀ x,o'.F x->o.F x\/Fresh w w' x) (hW:∀ x,o'.W x->o.W x\/Fresh w w' x) (hWF:∀ x,o'.W x->o'.F x):Fam w' (Shr G w w') (l.set i o'):=by
 have hcase:∀ (j:Nat) u,(l.set i o')[j]?=some u->(j=i/\u=o')\/(j≠i/\l[j]?=some u):=λ j u hj=>by
  rw [List.getElem?_set] at hj
  by_cases e:i=j
  ·subst e
   rw [if_pos rfl] at hj
   split at hj
   ·cases hj;exact .inl ⟨rfl,rfl⟩
   ·cases hj
  ·rw [if_neg e] at hj
   exact .inr ⟨λ h=>e h.symm,hj⟩
 refine ⟨λ j u hj=>?_,λ j u hj x hx=>?_,λ j u hj x hx=>?_,λ j u hj x hx hg=>?_,λ j j' u u' hj hj' hne x hx hx'=>?_⟩
 ·rcases hcase j u hj with ⟨rfl,rfl⟩|⟨hne,hj⟩
  ·exact hP
  ·exact u.fr _ _ _ (h.ok j u hj) k (λ x hs hx hn=>h.apart i j o u hi hj (λ e=>hne e.symm) x (hN x hs hn) hx)
 ·rcases hcase j u hj with ⟨rfl,rfl⟩|⟨hne,hj⟩
  ·rcases hF x hx with h1|h1
   ·exact Nat.lt_of_lt_of_le (h.old _ o hi x h1) k.size
   ·exact h1.2
  ·exact Nat.lt_of_lt_of_le (h.old j u hj x hx) k.size
 ·rcases hcase j u hj with ⟨rfl,rfl⟩|⟨hne,hj⟩
  ·exact hWF x hx
  ·exact h.wf j u hj x hx
 ·rcases hcase j u hj with ⟨rfl,rfl⟩|⟨hne,hj⟩
  ·rcases hF x hx with h1|h1
   ·exact h.off _ o hi x h1 hg.1
   ·exact hg.2 h1
  ·exact h.off j u hj x hx hg.1
 ·rcases hcase j u hj with ⟨rfl,rfl⟩|⟨hn1,hj1⟩
  ·rcases hcase j' u' hj' with ⟨rfl,rfl⟩|⟨hn2,hj2⟩
   ·exact hne rfl
   ·rcases hW x hx with h1|h1
    ·exact h.apart _ j' o u' hi hj2 hne x h1 hx'
    ·have:=h.old j' u' hj2 x hx';have:=h1.1;omega
  ·rcases hcase j' u' hj' with ⟨rfl,rfl⟩|⟨hn2,hj2⟩
   ·rcases hF x hx' with h1|h1
    ·exact h.apart j _ u o hj1 hi hne x hx h1
    ·have:=h.old j u hj1 x (h.wf j u hj1 x hx);have:=h1.1;omega
   ·exact h.apart j j' u u' hj1 hj2 hne x hx hx'
theorem Fam.push (h:Fam w G l) (k:Keeps Nob w w') (hP:o.P w') (hF:∀ x,o.F x->Fresh w w' x) (hWF:∀ x,o.W x->o.F x):Fam w' (Shr G w w') (l++[o]):=by
 have hcase:∀ (j:Nat) u,(l++[o])[j]?=some u->(j=l.length/\u=o)\/(j < l.length/\l[j]?=some u):=λ j u hj=>by
  by_cases e:j < l.length
  ·rw [List.getElem?_append_left e] at hj;exact .inr ⟨e,hj⟩
  ·rw [List.getElem?_append_right (by omega)] at hj
   rcases hh:j-l.length with _|n
   ·rw [hh] at hj;simp only [List.getElem?_cons_zero,Option.some.injEq] at hj
    exact .inl ⟨by omega,hj.symm⟩
   ·rw [hh] at hj;simp at hj
 refine ⟨λ j u hj=>?_,λ j u hj x hx=>?_,λ j u hj x hx=>?_,λ j u hj x hx hg=>?_,λ j j' u u' hj hj' hne x hx hx'=>?_⟩
 ·rcases hcase j u hj with ⟨rfl,rfl⟩|⟨_,hj⟩
  ·exact hP
  ·exact u.fr _ _ _ (h.ok j u hj) k (λ _ _ _=>id)
 ·rcases hcase j u hj with ⟨rfl,rfl⟩|⟨_,hj⟩
  ·exact (hF x hx).2
  ·exact Nat.lt_of_lt_of_le (h.old j u hj x hx) k.size
 ·rcases hcase j u hj with ⟨rfl,rfl⟩|⟨_,hj⟩
  ·exact hWF x hx
  ·exact h.wf j u hj x hx
 ·rcases hcase j u hj with ⟨rfl,rfl⟩|⟨_,hj⟩
  ·exact hg.2 (hF x hx)
  ·exact h.off j u hj x hx hg.1
 ·rcases hcase j u hj with ⟨e1,rfl⟩|⟨_,hj1⟩
  ·rcases hcase j' u' hj' with ⟨e2,rfl⟩|⟨_,hj2⟩
   ·exact hne (by omega)
   ·have:=h.old j' u' hj2 x hx';have:=(hF x (hWF x hx)).1;omega
  ·rcases hcase j' u' hj' with ⟨e2,rfl⟩|⟨_,hj2⟩
   ·have:=h.old j u hj1 x (h.wf j u hj1 x hx);have:=(hF x hx').1;omega
   ·exact h.apart j j' u u' hj1 hj2 hne x hx hx'
theorem Fam.snoc (h:Fam w G l) (hP:o.P w) (hlt:∀ x,o.F x->x < w.heap.size) (hG:∀ x,o.F x->¬G x) (hWF:∀ x,o.W x->o.F x) (ha:∀ (j:Nat) u,l[j]?=some u->(∀ x,o.W x->¬u.F x)/\∀ x,u.W x->¬o.F x):Fam w G (l++[o]):=by
 have hcase:∀ (j:Nat) u,(l++[o])[j]?=some u->(j=l.length/\u=o)\/(j < l.length/\l[j]?=some u):=λ j u hj=>by
  by_cases e:j < l.length
  ·rw [List.getElem?_append_left e] at hj;exact .inr ⟨e,hj⟩
  ·rw [List.getElem?_append_right (by omega)] at hj
   rcases hh:j-l.length with _|n
   ·rw [hh] at hj;simp only [List.getElem?_cons_zero,Option.some.injEq] at hj
    exact .inl ⟨by omega,hj.symm⟩
   ·rw [hh] at hj;simp at hj
 refine ⟨λ j u hj=>?_,λ j u hj x hx=>?_,λ j u hj x hx=>?_,λ j u hj x hx hg=>?_,λ j j' u u' hj hj' hne x hx hx'=>?_⟩
 ·rcases hcase j u hj with ⟨rfl,rfl⟩|⟨_,hj⟩
  ·exact hP
  ·exact h.ok j u hj
 ·rcases hcase j u hj with ⟨rfl,rfl⟩|⟨_,hj⟩
  ·exact hlt x hx
  ·exact h.old j u hj x hx
 ·rcases hcase j u hj with ⟨rfl,rfl⟩|⟨_,hj⟩
  ·exact hWF x hx
  ·exact h.wf j u hj x hx
 ·rcases hcase j u hj with ⟨rfl,rfl⟩|⟨_,hj⟩
  ·exact hG x hx hg
  ·exact h.off j u hj x hx hg
 ·rcases hcase j u hj with ⟨e1,rfl⟩|⟨_,hj1⟩
  ·rcases hcase j' u' hj' with ⟨e2,rfl⟩|⟨_,hj2⟩
   ·exact hne (by omega)
   ·exact (ha j' u' hj2).1 x hx hx'
  ·rcases hcase j' u' hj' with ⟨e2,rfl⟩|⟨_,hj2⟩
   ·exact (ha j u hj1).2 x hx hx'
   ·exact h.apart j j' u u' hj1 hj2 hne x hx hx'
end
def rowOb (e:TypeId) (size:Nat) (v:Value) (n:Nat) (xs:List Value):Ob where
 P:=λ w=>Own w (λ b=>v.ownBlock=some b) e size v n xs
 F:=λ b=>v.ownBlock=some b
 W:=λ b=>v.ownBlock=some b
 fr:=λ _ _ _ h k hd=>h.keeps k hd
section
variable {w w' w'':World} {G:Nat->Prop} {l:List Ob} {i n m size:Nat} {e:TypeId} {v v':Value} {xs ys:List Value} {S:Nat->Prop}
end
def muBlk (b:Nat) (t:TypeId) (cs:Array Value):Ob where
 P:=λ w=>Blk w b t cs
 F:=λ x=>x=b
 W:=λ x=>x=b
 fr:=λ _ _ _ h k hd=>h.keeps k (hd b h.lt rfl)
def noOb:Ob where
 P:=λ _=>True
 F:=λ _=>False
 W:=λ _=>False
 fr:=λ _ _ _ h _ _=>h
section
variable {w w':World} {G:Nat->Prop} {l:List Ob} {i:Nat} {o a:Ob}
theorem Fam.wr {o':Ob} {N:Nat->Prop} (h:Fam w Nob l) (hi:l[i]?=some o) (k:Keeps N w w') (hN:∀ x,x < w.heap.size->N x->o.W x) (hP:o'.P w') (hF:∀ x,o'.F x->o.F x\/Fresh w w' x) (hW:∀ x,o'.W x->o.W x\/Fresh w w' x) (hWF:∀ x,o'.W x->o'.F x):Fam w' Nob (l.set i o'):=
 (h.set hi k hN hP hF hW hWF).sub (λ _ h=>h.elim)
theorem Fam.add (h:Fam w Nob l) (k:Keeps Nob w w') (hP:o.P w') (hF:∀ x,o.F x->Fresh w w' x) (hWF:∀ x,o.W x->o.F x):Fam w' Nob (l++[o]):=
 (h.push k hP hF hWF).sub (λ _ h=>h.elim)
end
section
variable {w0 w w':World} {b p q:Nat} {A B A' B':Ar} {l:List Ob} {o o':Ob} {i:Nat} {N:Nat->Prop}
end
structure Du where
 x:Nat
 y:Nat
 Sx:Nat->Prop
 Sy:Nat->Prop
 A:Mc
 B:Mc
section
variable {wr w w':World} {Z N:Nat->Prop} {p q mx my:Nat} {M:Mc}
end
section
variable {w0 w w':World} {b p q:Nat} {A B:Ar} {l:List Ob} {i:Nat} {d:Du}
end
def Mc.le (M:Mc) (c:Nat):Prop:=0<=M.again/\M.again<=c/\0<=M.right/\M.right<=c
theorem Mc.le.mono {M:Mc} {c d:Nat} (h:M.le c) (hd:c<=d):M.le d:=by unfold Mc.le at *;omega
theorem Mc.le.low {M:Mc} {c:Nat} (h:M.le c) (hc:c < 9223372036854775807):M.low:=by unfold Mc.le at h;unfold Mc.low;omega
theorem Mc.le.new (k:List UInt8) (v:Int) (c:Nat):(Mc.new k v).le c:=by unfold Mc.le Mc.new;simp
theorem Mc.le.step {M:Mc} {c:Nat} (A:Ar) (h:M.le c):(stepM A M).le (c+1):=by
 unfold Mc.le at *
 unfold stepM
 split
 ·omega
 ·unfold rootM;simp only;omega
 ·split<;>(unfold latchM;simp only;omega)
 ·split<;>(unfold headM;simp only;omega)
 ·split<;>(unfold bodyM;simp only;omega)
 ·split
  ·unfold decideM
   split
   ·simp only;omega
   split
   ·simp only;omega
   split
   ·simp only;omega
   split<;>(simp only;omega)
  ·simp only;omega
end Go.Proofs.Ytjcgphhpaenjkaa
namespace Go.Proofs.Ytjcgphhpaenjkaa
open Go.RowKit
section
variable {w0 w w':World} {b p q:Nat} {A B A' B':Ar} {l ls:List Ob} {o o' u u':Ob} {i n:Nat} {N G G':Nat->Prop}
end
section
variable {S T:Nat->Prop} {w:World} {c0 c1 c2 c3 c4 c5 b:Value} {ls:List (List UInt8)} {key:List UInt8}
theorem findP (h1:Txts w S c3 ls) (h2:Byts w T b key):Calls Try.prog 41 #[.agg #[c0,c1,c2,c3,c4,c5],b] w λ e w'=>e=.returned (.tuple #[.int .i64 (below ls key),.bool (has ls key)])/\Keeps Nob w w':=by
 obtain ⟨A,c,rfl,hn1,hm1⟩:=h1.form
 have hz1:ls.length<=9223372036854775807:=Nat.le_trans hn1 hm1
 have H1:=Hd h1
 have H2:=Hd h2
 clear h1 h2 hn1 hm1
 go_enter Try.func41,Try.ntmps41
 go_wp2
 go_loopw [6,7,14] (λ b t i wr=>∃ k:Nat,k<=ls.length/\i=.int .i64 k/\b=.int .i64 (below (ls.take k) key)/\t=.bool (has (ls.take k) key)/\Keeps Nob w wr) (λ _ _ i _=>ls.length-(intOf i).toNat)
 case atStart=>exact ⟨0,Nat.zero_le _,rfl,rfl,rfl,Keeps.alloc _ _ _⟩
 case round=>
  obtain ⟨k,hk,rfl,rfl,rfl,hK⟩:=hrel
  have HK:=Hd hK
  clear hK
  have hbl:=below_take ls key k
  by_cases hlt:k < ls.length
  ·obtain ⟨x,hx⟩:∃ x,ls[k]?=some x:=⟨_,List.getElem?_eq_getElem hlt⟩
   obtain ⟨ad,rfl,_,hc⟩:=H1.out.cells hlt
   obtain ⟨u,hu,hbu⟩:=hc k x hx
   have hu':wr.cell? (ad.add k)=some u:=HK.out.cell hu id
   have HX:=Hd hx
   have HB:=Hd (below_succ (k:=key) hx)
   have HH:=Hd (has_succ (k:=key) hx)
   have HC:=Hd (cmpP (hbu.keeps HK.out (λ _ _ _=>id)) (H2.out.keeps HK.out (λ _ _ _=>id)))
   clear hc hu hbu hx
   generalize below (ls.take k) key=bl at hbl HB ⊢
   generalize has (ls.take k) key=hs at HH ⊢
   rcases cmp_cases x key with hcm|hcm|hcm
   all_goals
    have HCM:=Hd hcm
    clear hcm
    go_wp2_with (go_at_call 63;refine HC.out.mono ?_;rintro e w1 ⟨rfl,rfl⟩;rw [HCM.out])
    go_roundw
    case rel=>
     refine ⟨k+1,by omega,by go_num,?_,?_,HK.out⟩
     ·rw [HB.out,HCM.out];simp
     ·rw [HH.out,HCM.out];simp
    case measure=>simp [intOf];omega
  ·have hkk:k=ls.length:=by omega
   subst hkk
   rw [List.take_of_length_le (Nat.le_refl _)] at hbl ⊢
   go_wp2
   go_ret2
   exact ⟨rfl,HK.out⟩
end
end Go.Proofs.Ytjcgphhpaenjkaa
namespace Go.Proofs.Ytjcgphhpaenjkaa
open Go.RowKit
structure Gr where
 value:List UInt8
 there:Bool
 err:Int
structure Gc where
 D:Mc
 res:Option Gr
def keyFit (k:List UInt8):Bool:=decide (1<=k.length)&&decide (k.length<=64)
def valOf (n:Nd) (key:List UInt8):List UInt8:=if has n.keys key=true/\below n.keys key < n.vals.length then n.vals.getD (below n.keys key) [] else []
theorem decideM_key (n:Nat) (M:Mc):(decideM n M).key=M.key:=by
 unfold decideM
 repeat' split
 all_goals rfl
theorem stepM_key (A:Ar) (M:Mc):(stepM A M).key=M.key:=by
 unfold stepM
 split
 ·rfl
 ·rfl
 ·split<;>rfl
 ·split<;>rfl
 ·split<;>rfl
 ·split
  ·exact decideM_key _ _
  ·rfl
theorem decideM_level (n:Nat) (M:Mc):(decideM n M).level=M.level:=by
 unfold decideM
 repeat' split
 all_goals rfl
theorem stepM_level (A:Ar) (M:Mc):(stepM A M).level=M.level:=by
 unfold stepM
 split
 ·rfl
 ·rfl
 ·split<;>rfl
 ·split<;>rfl
 ·split<;>rfl
 ·split
  ·exact decideM_level _ _
  ·rfl
section
variable {w w':World} {t t':TypeId} {m d a:Nat} {nv:Nx->Value} {S T N:Nat->Prop} {g:Gc} {M:Mc}
theorem MW.lt (h:MW w t d a nv S M):d < w.heap.size:=by obtain ⟨⟨_,_,_,_,_,_,_,hb,_⟩,_⟩:=h;exact hb.lt
end
end Go.Proofs.Ytjcgphhpaenjkaa
namespace Go.Proofs.Ytjcgphhpaenjkaa
open Go.RowKit
section
variable {S:Nat->Prop} {w:World} {a:Value} {x:List UInt8}
end
end Go.Proofs.Ytjcgphhpaenjkaa
namespace Go.Proofs.Ytjcgphhpaenjkaa
theorem then_at {K:Act->World->Prop} {Q:Exit->Act->World->Prop} {e:Exit} {a:Act} {w:World} (h:∀ w',w'=w->Exit.then K Q e a w'):Exit.then K Q e a w:=h w rfl
end Go.Proofs.Ytjcgphhpaenjkaa
namespace Go.Proofs.Ytjcgphhpaenjkaa
open Go.RowKit
def ins {α:Type} (l:List α) (i:Nat) (x:α):List α:=l.take i++x::l.drop i
theorem ins_get {α:Type} (l:List α) (i:Nat) (x:α) (hi:i<=l.length) (j:Nat):(ins l i x)[j]?=if j < i then l[j]? else if j=i then some x else l[j-1]?:=by
 unfold ins
 have hl:(l.take i).length=i:=by rw [List.length_take];omega
 rw [List.getElem?_append,hl]
 by_cases h1:j < i
 ·rw [if_pos h1,if_pos h1,List.getElem?_take,if_pos h1]
 ·rw [if_neg h1,if_neg h1]
  by_cases h2:j=i
  ·subst h2;rw [if_pos rfl,Nat.sub_self];rfl
  ·rw [if_neg h2]
   obtain ⟨m,rfl⟩:∃ m,j=i+1+m:=⟨j-i-1,by omega⟩
   rw [show i+1+m-i=m+1 by omega,List.getElem?_cons_succ,List.getElem?_drop]
   congr 1
   omega
theorem ins_len {α:Type} (l:List α) (i:Nat) (x:α) (hi:i<=l.length):(ins l i x).length=l.length+1:=by
 unfold ins
 rw [List.length_append,List.length_take,List.length_cons,List.length_drop];omega
section
variable {S S' T M:Nat->Prop} {w w':World} {v v' u:Value} {l l':List (List UInt8)} {x:List UInt8} {i:Nat}
theorem OBy.one (h:OBy w S u x):u.oneCell'=true:=by
 obtain ⟨A,c,rfl⟩:=Own.form h;rfl
theorem OBy.keepsR (h:OBy w S u x) (h':OTx w S' v' l') (k:Keeps (λ b=>v'.ownBlock=some b) w w'):OBy w' S u x:=by
 obtain ⟨vs,h1,_⟩:=h';exact Own.keepsO h h1 (by decide) k
theorem OIn.keepsR {li:List Int} (h:OIn w S u li) (h':OTx w S' v' l') (k:Keeps (λ b=>v'.ownBlock=some b) w w'):OIn w' S u li:=by
 obtain ⟨vs,h1,_⟩:=h';exact Own.keepsO h h1 (by decide) k
theorem OTx.keepsR (h:OTx w S v l) (h':OTx w S' v' l') (hp:Prt v v') (k:Keeps (λ b=>v'.ownBlock=some b) w w'):OTx w' S v l:=by
 obtain ⟨vs,h1,h2,h3⟩:=h
 have h4:=h1.self.keeps k (λ b _ hb hb'=>hp b hb hb')
 refine ⟨vs,h4.mono λ b _ hb=>(h1.blk hb).1,h2,λ i u x hu hx=>(h3 i u x hu hx).keepsR h' k⟩
theorem otx_ins {vs:List Value} (h2:vs.length=l.length) (h3:∀ (i:Nat) u x,vs[i]?=some u->l[i]?=some x->OBy w S u x) (hu:OBy w S u x) (hi:i<=l.length) (ho:Own w S 34 1 v' (l.length+1) (vs.take i++u::vs.drop i)):OTx w S v' (ins l i x):=by
 refine ⟨ins vs i u,by rw [ins_len l i x hi];exact ho,by rw [ins_len l i x hi,ins_len vs i u (by omega)];omega,λ j a y ha hy=>?_⟩
 rw [ins_get vs i u (by omega)] at ha
 rw [ins_get l i x hi] at hy
 by_cases h1:j < i
 ·rw [if_pos h1] at ha hy;exact h3 j a y ha hy
 ·rw [if_neg h1] at ha hy
  by_cases h4:j=i
  ·rw [if_pos h4] at ha hy;cases ha;cases hy;exact hu
  ·rw [if_neg h4] at ha hy;exact h3 _ a y ha hy
theorem OTx.set_ {A:Option Addr} {c:Nat} (h:OTx w S (.slice A l.length c) l) (hi:i < l.length) (hu:OBy w S u x):∃ g o cs,A=some ⟨g,o,none⟩/\Blk w g 34 cs/\(∃ a,w.cell? ⟨g,o+i,none⟩=some a)/\OTx (w.setCell ⟨g,o+i,none⟩ u) S (.slice A l.length c) (l.set i x):=by
 obtain ⟨vs,h1,h2,h3⟩:=h
 obtain ⟨hn1,hn2,hat⟩:=h1.at_
 rcases hat with ⟨_,hc0⟩|⟨g,o,cur,rfl,hSg,hb,hoc,hcur⟩
 ·omega
 have hk:Keeps (λ b=>b=g) w (w.setCell ⟨g,o+i,none⟩ u):=Keeps.setCell w (M:=λ b=>b=g) rfl u
 refine ⟨g,o,cur,rfl,hb,⟨vs[i]'(by omega),by rw [hb.cell];exact hcur i _ (List.getElem?_eq_getElem _)⟩,vs.set i u,?_,by simp [h2],λ j a y ha hy=>?_⟩
 ·rw [List.length_set]
  refine ⟨by rw [List.length_set];omega,_,_,rfl,hn1,hn2,.inr ⟨g,o,_,rfl,hSg,hb.set_ _ _,by rw [Array.size_setIfInBounds];exact hoc,λ j a ha=>?_⟩⟩
  rw [List.getElem?_set] at ha
  rw [Array.getElem?_setIfInBounds]
  by_cases hij:i=j
  ·subst hij
   rw [if_pos rfl] at ha ⊢
   rw [if_pos (by omega)] at ha
   rw [if_pos (by omega)]
   exact ha
  ·rw [if_neg hij] at ha
   rw [if_neg (by omega)]
   exact hcur j a ha
 ·have hne:(5:TypeId)≠34:=by decide
  rw [List.getElem?_set] at ha hy
  by_cases hij:i=j
  ·subst hij
   rw [if_pos rfl,if_pos (by omega)] at ha hy
   cases ha;cases hy
   exact Own.keepsB hu hb hne hk
  ·rw [if_neg hij] at ha hy
   exact Own.keepsB (h3 j a y ha hy) hb hne hk
end
theorem ONd.keepsB {S:Nat->Prop} {w w':World} {a b c d e f:Value} {n:Nd} {g:Nat} {t:TypeId} {cs:Array Value} (h:ONd w S a b c d e f n) (hg:Blk w g t cs) (ht:Apart t) (k:Keeps (λ b=>b=g) w w'):ONd w' S a b c d e f n:=
 ⟨⟨h.1.lvl,h.1.high.keepsB hg ht k,h.1.right⟩,h.2.keys.keepsB hg ht k,h.2.vals.keepsB hg ht k,h.2.kids.keepsB hg ht k⟩
theorem Blk.keepsR {w w':World} {g:Nat} {t:TypeId} {cs:Array Value} {S':Nat->Prop} {v':Value} {l'} (h:Blk w g t cs) (h':OTx w S' v' l') (ht:t≠34) (k:Keeps (λ b=>v'.ownBlock=some b) w w'):Blk w' g t cs:=by
 obtain ⟨vs,h1,_⟩:=h'
 refine h.keeps k (λ hb=>?_)
 obtain ⟨cs',hb'⟩:=h1.ownBlk hb
 exact Blk.ne_ h hb' ht rfl
def wth (n:Nd) (key val:List UInt8):Nd:=if has n.keys key then {n with vals:=n.vals.set (below n.keys key) val} else {n with keys:=ins n.keys (below n.keys key) key,vals:=ins n.vals (min (below n.keys key) n.vals.length) val}
def jnd (n:Nd) (key:List UInt8) (kid:Int):Nd:=if has n.keys key then n else {n with keys:=ins n.keys (below n.keys key) key,kids:=ins n.kids (min (below n.keys key+1) n.kids.length) kid}
section
variable {S T M:Nat->Prop} {w w':World} {v u:Value} {n g i:Nat} {cs:Array Value} {e:TypeId}
section
variable {c0 c1 c2 c3 c4 c5:Value} {m:Nd}
end
end
section
variable {P:Program} {md:Region.Mode} {ops:Array Oper} {Q:Exit->Act->World->Prop}
theorem count_set:∀ (l:List Bool) (i:Nat),l[i]?=some false->(l.set i true).count false+1=l.count false
 | [],_,h=>by simp at h
 | b::l,0,h=>by simp at h;subst h;simp []
 | b::l,i+1,h=>by
  have:=count_set l i (by simpa using h)
  simp only [sc_,List.count_cons]
  omega
theorem getD_true {listed:Array Bool} {i:Nat} (h:listed.getD i true=false):listed.toList[i]?=some false/\i < listed.size:=by
 rw [Array.getD_eq_getD_getElem?] at h
 have h2:listed[i]?=some false:=by
  cases hx:listed[i]? with
  | none=>rw [hx] at h;simp at h
  | some b=>rw [hx] at h;simp at h;subst h;rfl
 exact ⟨by rw [Array.getElem?_toList];exact h2,(Array.getElem?_eq_some_iff.1 h2).1⟩
theorem wpAny_inv (I:Array Bool->Act->World->Prop)
  (hs:∀ listed a w i,listed.size=ops.size->I listed a w->i ∈ Region.ready md ops listed->wpOp P ops Q i (I (listed.setIfInBounds i true)) a w)
  (he:∀ listed a w,listed.size=ops.size->Region.ready md ops listed=[]->I listed a w->Q .normal a w) :
  ∀ (fuel:Nat) (listed:Array Bool) (a:Act) (w:World),listed.size=ops.size->listed.toList.count false<=fuel->I listed a w->wpAny P md ops Q fuel listed a w
 | 0,listed,a,w,hsz,hc,h=>by
  have hr:Region.ready md ops listed=[]:=by
   refine List.eq_nil_iff_forall_not_mem.2 (λ i hi=>?_)
   have h1:=(getD_true (mem_ready.1 hi).1).1
   have:0 < listed.toList.count false:=List.count_pos_iff.2 (List.mem_of_getElem? h1)
   omega
  exact ⟨hr,he listed a w hsz hr h⟩
 | fuel+1,listed,a,w,hsz,hc,h=>by
  refine ⟨λ hr=>he listed a w hsz hr h,λ i hi=>?_⟩
  have h1:=(getD_true (mem_ready.1 hi).1).1
  refine wpOp_mono (λ a' w' h'=>wpAny_inv I hs he fuel _ a' w' (by simp [hsz]) ?_ h') (hs listed a w i hsz h hi)
  rw [Array.toList_setIfInBounds]
  have:=count_set listed.toList i h1
  omega
def backB (ops:Array Oper):Bool:=(List.range ops.size).all λ i=>match ops[i]? with|some o=>o.after.toList.all (λ e=>decide (e.on < i))|none=>true
theorem ready_nil (hb:backB ops=true) {listed:Array Bool} (hsz:listed.size=ops.size) (h:Region.ready md ops listed=[]):∀ (i:Nat),i < ops.size->listed.getD i false=true:=by
 intro i
 induction i using Nat.strongRecOn with
 | _ i ih=>
  intro hi
  cases hx:listed.getD i false with
  | true=>rfl
  | false=>
   exfalso
   have hu:listed.getD i true=false:=by
    rw [Array.getD_eq_getD_getElem?,Array.getElem?_eq_getElem (by omega)] at hx ⊢
    exact hx
   have ho:ops[i]?=some ops[i]:=Array.getElem?_eq_getElem hi
   have hm:i ∈ Region.ready md ops listed:=mem_ready.2 ⟨hu,ops[i],ho,λ e he _=>by
    have h1:=List.all_eq_true.1 hb i (List.mem_range.2 hi)
    rw [ho] at h1
    have h2:=List.all_eq_true.1 h1 e (Array.mem_toList_iff.2 he)
    have h3:e.on < i:=by simpa using h2
    exact ih e.on h3 (by omega)⟩
   rw [h] at hm
   cases hm
theorem wpOp_list {i:Nat} {o:Oper} {a:Act} {w:World} {K:Act->World->Prop} (ho':ops.toList[i]?=some o) (h:wpList P ops (Behind Q K) [o] a w):wpOp P ops Q i K a w:=by
 have ho:ops[i]?=some o:=by rw [<-Array.getElem?_toList];exact ho'
 simp only [wpList] at h
 unfold wpOp
 simp only [ho]
 split
 ·rename_i hw
  rw [if_pos hw] at h
  rcases h with h|h
  ·exact .inl (Oper.wp_behind h)
  ·exact .inr ⟨h.1,letsOut_behind h.2⟩
 ·rename_i hw
  rw [if_neg hw] at h
  exact h
theorem wp_region_inv {id:Nat} {a:Act} {w:World} (J:Act->(Nat->Prop)->Act->World->Prop) (hm:P.follows .mixedOrders=true) (hb:backB ops=true)
  (h0:J a (λ _=>False) a w.drew)
  (hs:∀ (L:Nat->Prop) a' w i o,ops.toList[i]?=some o->(∀ e ∈ o.after,Region.binds .any e=true->L e.on)->¬L i->J a L a' w->wpOp P ops Q i (J a (λ k=>L k\/k=i)) a' w)
  (he:∀ (L:Nat->Prop) a' w,(∀ i,i < ops.size->L i)->J a L a' w->Q .normal a' w):(Code.region id ops true).wp P Q a w:=by
 have h0':J a (λ k=>(Array.replicate ops.size false).getD k false=true) a w.drew:=by
  have:(λ k=>(Array.replicate ops.size false).getD k false=true)=(λ _:Nat=>False):=funext λ k=>by
   rw [Array.getD_eq_getD_getElem?,Array.getElem?_replicate]
   split<;>simp
  rw [this];exact h0
 refine wp_region_any hm (wpAny_inv (md:=.any) (I:=λ listed=>J a (λ k=>listed.getD k false=true)) ?_ ?_ _ _ _ _ (by simp) (by simp) h0')
 ·intro listed a1 w1 i hsz h hi
  obtain ⟨hu,o,ho,hall⟩:=mem_ready.1 hi
  have hlt:=(getD_true hu).2
  have e:(λ k=>(listed.setIfInBounds i true).getD k false=true)=(λ k=>listed.getD k false=true\/k=i):=funext λ k=>by
   by_cases hki:k=i
   ·subst hki
    rw [Array.getD_eq_getD_getElem?,Array.getElem?_setIfInBounds,if_pos rfl,if_pos hlt]
    simp
   ·rw [getD_setf_ne (Ne.symm hki)]
    simp [hki]
  show wpOp P ops Q i (J a (λ k=>(listed.setIfInBounds i true).getD k false=true)) a1 w1
  rw [e]
  exact hs _ a1 w1 i o (by rw [Array.getElem?_toList];exact ho) hall (by rw [getD_two hu];simp) h
 ·intro listed a1 w1 hsz hr h
  exact he _ a1 w1 (ready_nil hb hsz hr) h
end
end Go.Proofs.Ytjcgphhpaenjkaa

import Derived.Test.YtjcgphhpaenjkaaGreatPkB2
import Derived.Test.YtjcgphhpaenjkaaGreatPkA5
import Derived.Test.YtjcgphhpaenjkaaGreatPkA7
import Derived.Test.YtjcgphhpaenjkaaGreatPkA0
set_option maxHeartbeats 64000000
set_option maxRecDepth 100000
namespace Go.Proofs.YtjcgphhpaenjkaaGreat
open Go.RowKit
def Shr (G:Nat->Prop) (w w':World):Nat->Prop:=λ x=>G x/\¬Fresh w w' x
section
variable {w w':World} {G G' S N:Nat->Prop} {b p q m a:Nat} {A B:Ar} {M:Mc} {t:TypeId} {nv:Nx->Value}
theorem J.shr (h:J w G b p q A B) (k:Keeps N w w') (hN:∀ x,x < w.heap.size->G x->¬N x):J w' (Shr G w w') b p q A B:=
 h.enterN k hN (λ x hx hg=>⟨hg,λ hf=>by have:=hf.1;omega⟩) (λ x hx=>⟨h.new x (Nat.le_trans k.size hx),λ hf=>by have:=hf.2;omega⟩)
theorem JX.shr {Φ:Fr} (h:JX w G Φ p A) (k:Keeps N w w') (hN:∀ x,x < w.heap.size->G x->¬N x):JX w' (Shr G w w') Φ p A:=
 h.enterN k hN (λ x hx hg=>⟨hg,λ hf=>by have:=hf.1;omega⟩) (λ x hx=>⟨h.new x (Nat.le_trans k.size hx),λ hf=>by have:=hf.2;omega⟩)
end
end Go.Proofs.YtjcgphhpaenjkaaGreat
namespace Go.Proofs.YtjcgphhpaenjkaaGreat
open Go.RowKit
structure Ob where
 P:World->Prop
 F:Nat->Prop
 W:Nat->Prop
 fr:∀ (w w':World) (N:Nat->Prop),P w->Keeps N w w'->(∀ x,x < w.heap.size->F x->¬N x)->P w'
structure Fam (w:World) (G:Nat->Prop) (l:List Ob):Prop where
 ok:∀ (i:Nat) o,l[i]?=some o->o.P w
 old:∀ (i:Nat) o,l[i]?=some o->∀ x,o.F x->x < w.heap.size
 wf:∀ (i:Nat) o,l[i]?=some o->∀ x,o.W x->o.F x
 off:∀ (i:Nat) o,l[i]?=some o->∀ x,o.F x->¬G x
 apart:∀ (i j:Nat) o u,l[i]?=some o->l[j]?=some u->i≠j->∀ x,o.W x->¬u.F x
section
variable {w w':World} {G G' N:Nat->Prop} {l:List Ob} {o o':Ob} {i:Nat}
theorem Fam.nil:Fam w G []:=⟨λ i o h=>by simp at h,λ i o h=>by simp at h,λ i o h=>by simp at h,λ i o h=>by simp at h,λ i j o u h=>by simp at h⟩
theorem Fam.keeps (h:Fam w G l) (k:Keeps N w w') (hN:∀ (i:Nat) o,l[i]?=some o->∀ x,o.F x->¬N x) (hg:∀ x,G' x->G x\/w.heap.size<=x):Fam w' G' l:=
 ⟨λ i o hi=>o.fr _ _ _ (h.ok i o hi) k (λ x _ hx=>hN i o hi x hx),λ i o hi x hx=>Nat.lt_of_lt_of_le (h.old i o hi x hx) k.size,h.wf,λ i o hi x hx hg'=>by
  rcases hg x hg' with h1|h1
  ·exact h.off i o hi x hx h1
  ·have:=h.old i o hi x hx;omega,h.apart⟩
theorem Fam.nob (h:Fam w G l) (k:Keeps Nob w w'):Fam w' G l:=h.keeps k (λ _ _ _ _ _=>id) (λ _=>.inl)
theorem Fam.arena (h:Fam w G l) (k:Keeps G w w'):Fam w' G l:=h.keeps k h.off (λ _=>.inl)
theorem Fam.sub (h:Fam w G l) (hg:∀ x,G' x->G x):Fam w G' l:=h.keeps (Keeps.refl Nob w) (λ _ _ _ _ _=>id) (λ x hx=>.inl (hg x hx))
theorem Fam.set (h:Fam w G l) (hi:l[i]?=some o) (k:Keeps N w w') (hN:∀ x,x < w.heap.size->N x->o.W x) (hP:o'.P w') (hF:∀ x,o'.F x->o.F x\/Fresh w w' x) (hW:∀ x,o'.W x->o.W x\/Fresh w w' x) (hWF:∀ x,o'.W x->o'.F x):Fam w' (Shr G w w') (l.set i o'):=by
 have hcase:∀ (j:Nat) u,(l.set i o')[j]?=some u->(j=i/\u=o')\/(j≠i/\l[j]?=some u):=λ j u hj=>by
  rw [List.getElem?_set] at hj
  by_cases e:i=j
  ·subst e
   rw [if_pos rfl] at hj
   split at hj
   ·cases hj;exact .inl ⟨rfl,rfl⟩
   ·cases hj
  ·rw [if_neg e] at hj
   exact .inr ⟨λ h=>e h.symm,hj⟩
 refine ⟨λ j u hj=>?_,λ j u hj x hx=>?_,λ j u hj x hx=>?_,λ j u hj x hx hg=>?_,λ j j' u u' hj hj' hne x hx hx'=>?_⟩
 ·rcases hcase j u hj with ⟨rfl,rfl⟩|⟨hne,hj⟩
  ·exact hP
  ·exact u.fr _ _ _ (h.ok j u hj) k (λ x hs hx hn=>h.apart i j o u hi hj (λ e=>hne e.symm) x (hN x hs hn) hx)
 ·rcases hcase j u hj with ⟨rfl,rfl⟩|⟨hne,hj⟩
  ·rcases hF x hx with h1|h1
   ·exact Nat.lt_of_lt_of_le (h.old _ o hi x h1) k.size
   ·exact h1.2
  ·exact Nat.lt_of_lt_of_le (h.old j u hj x hx) k.size
 ·rcases hcase j u hj with ⟨rfl,rfl⟩|⟨hne,hj⟩
  ·exact hWF x hx
  ·exact h.wf j u hj x hx
 ·rcases hcase j u hj with ⟨rfl,rfl⟩|⟨hne,hj⟩
  ·rcases hF x hx with h1|h1
   ·exact h.off _ o hi x h1 hg.1
   ·exact hg.2 h1
  ·exact h.off j u hj x hx hg.1
 ·rcases hcase j u hj with ⟨rfl,rfl⟩|⟨hn1,hj1⟩
  ·rcases hcase j' u' hj' with ⟨rfl,rfl⟩|⟨hn2,hj2⟩
   ·exact hne rfl
   ·rcases hW x hx with h1|h1
    ·exact h.apart _ j' o u' hi hj2 hne x h1 hx'
    ·have:=h.old j' u' hj2 x hx';have:=h1.1;omega
  ·rcases hcase j' u' hj' with ⟨rfl,rfl⟩|⟨hn2,hj2⟩
   ·rcases hF x hx' with h1|h1
    ·exact h.apart j _ u o hj1 hi hne x hx h1
    ·have:=h.old j u hj1 x (h.wf j u hj1 x hx);have:=h1.1;omega
   ·exact h.apart j j' u u' hj1 hj2 hne x hx hx'
theorem Fam.push (h:Fam w G l) (k:Keeps Nob w w') (hP:o.P w') (hF:∀ x,o.F x->Fresh w w' x) (hWF:∀ x,o.W x->o.F x):Fam w' (Shr G w w') (l++[o]):=by
 have hcase:∀ (j:Nat) u,(l++[o])[j]?=some u->(j=l.length/\u=o)\/(j < l.length/\l[j]?=some u):=λ j u hj=>by
  by_cases e:j < l.length
  ·rw [List.getElem?_append_left e] at hj;exact .inr ⟨e,hj⟩
  ·rw [List.getElem?_append_right (by omega)] at hj
   rcases hh:j-l.length with _|n
   ·rw [hh] at hj;simp only [List.getElem?_cons_zero,Option.some.injEq] at hj
    exact .inl ⟨by omega,hj.symm⟩
   ·rw [hh] at hj;simp at hj
 refine ⟨λ j u hj=>?_,λ j u hj x hx=>?_,λ j u hj x hx=>?_,λ j u hj x hx hg=>?_,λ j j' u u' hj hj' hne x hx hx'=>?_⟩
 ·rcases hcase j u hj with ⟨rfl,rfl⟩|⟨_,hj⟩
  ·exact hP
  ·exact u.fr _ _ _ (h.ok j u hj) k (λ _ _ _=>id)
 ·rcases hcase j u hj with ⟨rfl,rfl⟩|⟨_,hj⟩
  ·exact (hF x hx).2
  ·exact Nat.lt_of_lt_of_le (h.old j u hj x hx) k.size
 ·rcases hcase j u hj with ⟨rfl,rfl⟩|⟨_,hj⟩
  ·exact hWF x hx
  ·exact h.wf j u hj x hx
 ·rcases hcase j u hj with ⟨rfl,rfl⟩|⟨_,hj⟩
  ·exact hg.2 (hF x hx)
  ·exact h.off j u hj x hx hg.1
 ·rcases hcase j u hj with ⟨e1,rfl⟩|⟨_,hj1⟩
  ·rcases hcase j' u' hj' with ⟨e2,rfl⟩|⟨_,hj2⟩
   ·exact hne (by omega)
   ·have:=h.old j' u' hj2 x hx';have:=(hF x (hWF x hx)).1;omega
  ·rcases hcase j' u' hj' with ⟨e2,rfl⟩|⟨_,hj2⟩
   ·have:=h.old j u hj1 x (h.wf j u hj1 x hx);have:=(hF x hx').1;omega
   ·exact h.apart j j' u u' hj1 hj2 hne x hx hx'
theorem Fam.snoc (h:Fam w G l) (hP:o.P w) (hlt:∀ x,o.F x->x < w.heap.size) (hG:∀ x,o.F x->¬G x) (hWF:∀ x,o.W x->o.F x) (ha:∀ (j:Nat) u,l[j]?=some u->(∀ x,o.W x->¬u.F x)/\∀ x,u.W x->¬o.F x):Fam w G (l++[o]):=by
 have hcase:∀ (j:Nat) u,(l++[o])[j]?=some u->(j=l.length/\u=o)\/(j < l.length/\l[j]?=some u):=λ j u hj=>by
  by_cases e:j < l.length
  ·rw [List.getElem?_append_left e] at hj;exact .inr ⟨e,hj⟩
  ·rw [List.getElem?_append_right (by omega)] at hj
   rcases hh:j-l.length with _|n
   ·rw [hh] at hj;simp only [List.getElem?_cons_zero,Option.some.injEq] at hj
    exact .inl ⟨by omega,hj.symm⟩
   ·rw [hh] at hj;simp at hj
 refine ⟨λ j u hj=>?_,λ j u hj x hx=>?_,λ j u hj x hx=>?_,λ j u hj x hx hg=>?_,λ j j' u u' hj hj' hne x hx hx'=>?_⟩
 ·rcases hcase j u hj with ⟨rfl,rfl⟩|⟨_,hj⟩
  ·exact hP
  ·exact h.ok j u hj
 ·rcases hcase j u hj with ⟨rfl,rfl⟩|⟨_,hj⟩
  ·exact hlt x hx
  ·exact h.old j u hj x hx
 ·rcases hcase j u hj with ⟨rfl,rfl⟩|⟨_,hj⟩
  ·exact hWF x hx
  ·exact h.wf j u hj x hx
 ·rcases hcase j u hj with ⟨rfl,rfl⟩|⟨_,hj⟩
  ·exact hG x hx hg
  ·exact h.off j u hj x hx hg
 ·rcases hcase j u hj with ⟨e1,rfl⟩|⟨_,hj1⟩
  ·rcases hcase j' u' hj' with ⟨e2,rfl⟩|⟨_,hj2⟩
   ·exact hne (by omega)
   ·exact (ha j' u' hj2).1 x hx hx'
  ·rcases hcase j' u' hj' with ⟨e2,rfl⟩|⟨_,hj2⟩
   ·exact (ha j u hj1).2 x hx hx'
   ·exact h.apart j j' u u' hj1 hj2 hne x hx hx'
end
def rowOb (e:TypeId) (size:Nat) (v:Value) (n:Nat) (xs:List Value):Ob where
 P:=λ w=>Own w (λ b=>v.ownBlock=some b) e size v n xs
 F:=λ b=>v.ownBlock=some b
 W:=λ b=>v.ownBlock=some b
 fr:=λ _ _ _ h k hd=>h.keeps k hd
section
variable {w w' w'':World} {G:Nat->Prop} {l:List Ob} {i n m size:Nat} {e:TypeId} {v v':Value} {xs ys:List Value} {S:Nat->Prop}
end
def blkOb (b:Nat) (t:TypeId) (cs:Array Value):Ob where
 P:=λ w=>Blk w b t cs
 F:=λ x=>x=b
 W:=λ _=>False
 fr:=λ _ _ _ h k hd=>h.keeps k (hd b h.lt rfl)
def muBlk (b:Nat) (t:TypeId) (cs:Array Value):Ob where
 P:=λ w=>Blk w b t cs
 F:=λ x=>x=b
 W:=λ x=>x=b
 fr:=λ _ _ _ h k hd=>h.keeps k (hd b h.lt rfl)
def noOb:Ob where
 P:=λ _=>True
 F:=λ _=>False
 W:=λ _=>False
 fr:=λ _ _ _ h _ _=>h
section
variable {w w':World} {G:Nat->Prop} {l:List Ob} {i:Nat} {o a:Ob}
theorem Fam.wr {o':Ob} {N:Nat->Prop} (h:Fam w Nob l) (hi:l[i]?=some o) (k:Keeps N w w') (hN:∀ x,x < w.heap.size->N x->o.W x) (hP:o'.P w') (hF:∀ x,o'.F x->o.F x\/Fresh w w' x) (hW:∀ x,o'.W x->o.W x\/Fresh w w' x) (hWF:∀ x,o'.W x->o'.F x):Fam w' Nob (l.set i o'):=
 (h.set hi k hN hP hF hW hWF).sub (λ _ h=>h.elim)
theorem Fam.add (h:Fam w Nob l) (k:Keeps Nob w w') (hP:o.P w') (hF:∀ x,o.F x->Fresh w w' x) (hWF:∀ x,o.W x->o.F x):Fam w' Nob (l++[o]):=
 (h.push k hP hF hWF).sub (λ _ h=>h.elim)
end
def Su (w0 w:World) (b p q:Nat) (A B:Ar) (l:List Ob):Prop:=
 ∃ G,J w G b p q A B/\Fam w G l/\(∀ x,G x->w0.heap.size<=x)/\(∀ (i:Nat) o,l[i]?=some o->∀ x,o.W x->w0.heap.size<=x)/\Keeps (From w0.heap.size) w0 w
section
variable {w0 w w':World} {b p q:Nat} {A B A' B':Ar} {l:List Ob} {o o':Ob} {i:Nat} {N:Nat->Prop}
theorem Su.kept (h:Su w0 w b p q A B l):Keeps Nob w0 w:=by
 obtain ⟨_,_,_,_,_,h⟩:=h
 exact h.mono (λ x hx hf=>absurd hx (Nat.not_lt.2 hf))
theorem Su.size (h:Su w0 w b p q A B l):w0.heap.size<=w.heap.size:=h.kept.size
theorem Su.blk (h:Su w0 w b p q A B l):Blk w b 52 #[pV p,pV q]:=by
 obtain ⟨_,h,_⟩:=h;exact h.blk
theorem Su.get (h:Su w0 w b p q A B l) (hi:l[i]?=some o):o.P w:=by
 obtain ⟨_,_,h,_⟩:=h;exact h.ok i o hi
theorem Su.nob (h:Su w0 w b p q A B l) (k:Keeps Nob w w'):Su w0 w' b p q A B l:=by
 obtain ⟨G,hJ,hF,hg,hw,hk⟩:=h
 exact ⟨G,hJ.nob k,hF.nob k,hg,hw,hk.trans k (λ _ _ h=>h.elim)⟩
theorem Su.arena (h:Su w0 w b p q A B l):∃ G,J w G b p q A B/\(∀ x,G x->w0.heap.size<=x)/\∀ w' A' B',J w' G b p q A' B'->Keeps G w w'->Su w0 w' b p q A' B' l:=by
 obtain ⟨G,hJ,hF,hg,hw,hk⟩:=h
 exact ⟨G,hJ,hg,λ w' A' B' hJ' k=>⟨G,hJ',hF.arena k,hg,hw,hk.trans k (λ x _ h=>hg x h)⟩⟩
theorem Su.set (h:Su w0 w b p q A B l) (hi:l[i]?=some o) (k:Keeps N w w') (hN:∀ x,x < w.heap.size->N x->o.W x) (hP:o'.P w') (hF:∀ x,o'.F x->o.F x\/Fresh w w' x) (hW:∀ x,o'.W x->o.W x\/Fresh w w' x) (hWF:∀ x,o'.W x->o'.F x):Su w0 w' b p q A B (l.set i o'):=by
 have hsz:=h.size
 obtain ⟨G,hJ,hf,hg,hw,hk⟩:=h
 refine ⟨Shr G w w',hJ.shr k (λ x hx hgx hn=>hf.off i o hi x (hf.wf i o hi x (hN x hx hn)) hgx),hf.set hi k hN hP hF hW hWF,λ x hx=>hg x hx.1,λ j u hj x hx=>?_,hk.trans k (λ x hx hn=>hw i o hi x (hN x (Nat.lt_of_lt_of_le hx hk.size) hn))⟩
 rw [List.getElem?_set] at hj
 by_cases e:i=j
 ·subst e
  rw [if_pos rfl] at hj
  split at hj
  ·cases hj
   rcases hW x hx with h1|h1
   ·exact hw _ o hi x h1
   ·exact Nat.le_trans hsz h1.1
  ·cases hj
 ·rw [if_neg e] at hj
  exact hw j u hj x hx
theorem Su.put (h:Su w0 w b p q A B l) (hi:l[i]?=some o) (k:Keeps Nob w w') (hP:o'.P w') (hF:∀ x,o'.F x->Fresh w w' x) (hWF:∀ x,o'.W x->o'.F x):Su w0 w' b p q A B (l.set i o'):=
 h.set hi k (λ _ _ h=>h.elim) hP (λ x hx=>.inr (hF x hx)) (λ x hx=>.inr (hF x (hWF x hx))) hWF
theorem Su.push (h:Su w0 w b p q A B l) (k:Keeps Nob w w') (hP:o.P w') (hF:∀ x,o.F x->Fresh w w' x) (hWF:∀ x,o.W x->o.F x):Su w0 w' b p q A B (l++[o]):=by
 have hsz:=h.size
 obtain ⟨G,hJ,hf,hg,hw,hk⟩:=h
 refine ⟨Shr G w w',hJ.shr k (λ x hx hgx hn=>hn),hf.push k hP hF hWF,λ x hx=>hg x hx.1,λ j u hj x hx=>?_,hk.trans k (λ x hx hn=>hn.elim)⟩
 by_cases e:j < l.length
 ·rw [List.getElem?_append_left e] at hj;exact hw j u hj x hx
 ·rw [List.getElem?_append_right (by omega)] at hj
  rcases hh:j-l.length with _|n
  ·rw [hh] at hj;simp only [List.getElem?_cons_zero,Option.some.injEq] at hj
   subst hj
   exact Nat.le_trans hsz (hF x (hWF x hx)).1
  ·rw [hh] at hj;simp at hj
theorem Su.blkPut {g:Nat} {t:TypeId} {cs:Array Value} (h:Su w0 w b p q A B l) (hi:l[i]?=some o) (k:Keeps Nob w w') (hb:Blk w' g t cs) (hg:w.heap.size<=g):Su w0 w' b p q A B (l.set i (blkOb g t cs)):=
 h.put hi k hb (λ x hx=>by rw [show x=g from hx];exact ⟨hg,hb.lt⟩) (λ x hx=>hx.elim)
theorem Su.rowPut {n size:Nat} {e:TypeId} {v:Value} {xs:List Value} (h:Su w0 w b p q A B l) (hi:l[i]?=some o) (k:Keeps Nob w w') (ho:Own w' (Fresh w w') e size v n xs):Su w0 w' b p q A B (l.set i (rowOb e size v n xs)):=
 h.put hi k ho.self (λ x hx=>(ho.blk hx).1) (λ _=>id)
theorem Su.app {n m size:Nat} {e:TypeId} {v v':Value} {xs ys:List Value} (h:Su w0 w b p q A B l) (hi:l[i]?=some (rowOb e size v n xs)) (k:Keeps (λ b=>v.ownBlock=some b) w w') (ho:Own w' (λ b=>v.ownBlock=some b\/Fresh w w' b) e size v' m ys):Su w0 w' b p q A B (l.set i (rowOb e size v' m ys)):=
 h.set hi k (λ _ _=>id) ho.self (λ x hx=>(ho.blk hx).1) (λ x hx=>(ho.blk hx).1) (λ _=>id)
end
structure Du where
 x:Nat
 y:Nat
 Sx:Nat->Prop
 Sy:Nat->Prop
 A:Mc
 B:Mc
section
variable {wr w w':World} {Z N:Nat->Prop} {p q mx my:Nat} {M:Mc}
end
section
variable {w0 w w':World} {b p q:Nat} {A B:Ar} {l:List Ob} {i:Nat} {d:Du}
end
def Mc.le (M:Mc) (c:Nat):Prop:=0<=M.again/\M.again<=c/\0<=M.right/\M.right<=c
theorem Mc.le.mono {M:Mc} {c d:Nat} (h:M.le c) (hd:c<=d):M.le d:=by unfold Mc.le at *;omega
theorem Mc.le.low {M:Mc} {c:Nat} (h:M.le c) (hc:c < 9223372036854775807):M.low:=by unfold Mc.le at h;unfold Mc.low;omega
theorem Mc.le.new (k:List UInt8) (v:Int) (c:Nat):(Mc.new k v).le c:=by unfold Mc.le Mc.new;simp
theorem Mc.le.step {M:Mc} {c:Nat} (A:Ar) (h:M.le c):(stepM A M).le (c+1):=by
 unfold Mc.le at *
 unfold stepM
 split
 ·omega
 ·unfold rootM;simp only;omega
 ·split<;>(unfold latchM;simp only;omega)
 ·split<;>(unfold headM;simp only;omega)
 ·split<;>(unfold bodyM;simp only;omega)
 ·split
  ·unfold decideM
   split
   ·simp only;omega
   split
   ·simp only;omega
   split
   ·simp only;omega
   split<;>(simp only;omega)
  ·simp only;omega
end Go.Proofs.YtjcgphhpaenjkaaGreat
namespace Go.Proofs.YtjcgphhpaenjkaaGreat
open Go.RowKit
def grpOb (l:List Ob):Ob where
 P:=λ w=>Fam w Nob l
 F:=λ x=>∃ (i:Nat) (o:Ob),l[i]?=some o/\o.F x
 W:=λ x=>∃ (i:Nat) (o:Ob),l[i]?=some o/\o.W x
 fr:=λ _ _ _ h k hd=>h.keeps k (λ i o hi x hx hn=>hd x (h.old i o hi x hx) ⟨i,o,hi,hx⟩ hn) (λ _ h=>h.elim)
structure Turns (w w':World) (G':Nat->Prop) (u u':Ob):Prop where
 ok:u'.P w'
 F:∀ x,u'.F x->u.F x\/Fresh w w' x
 off:∀ x,u'.F x->¬G' x
 W:∀ x,u'.W x->u.W x\/Fresh w w' x
 wf:∀ x,u'.W x->u'.F x
section
variable {w0 w w':World} {b p q:Nat} {A B A' B':Ar} {l ls:List Ob} {o o' u u':Ob} {i n:Nat} {N G G':Nat->Prop}
theorem grp_turn (h:Fam w Nob ls) (hn:ls[n]?=some u) (k:Keeps (λ x=>G x\/u.W x) w w') (hoff:∀ (j:Nat) v,ls[j]?=some v->∀ x,v.F x->¬G x) (hsub:∀ x,G' x->G x) (t:Turns w w' G' u u'):Turns w w' G' (grpOb ls) (grpOb (ls.set n u')):=by
 have hcase:∀ (j:Nat) v,(ls.set n u')[j]?=some v->(j=n/\v=u')\/(j≠n/\ls[j]?=some v):=λ j v hj=>by
  rw [List.getElem?_set] at hj
  by_cases e:n=j
  ·subst e
   rw [if_pos rfl] at hj
   split at hj
   ·cases hj;exact .inl ⟨rfl,rfl⟩
   ·cases hj
  ·rw [if_neg e] at hj
   exact .inr ⟨λ h=>e h.symm,hj⟩
 refine ⟨⟨λ j v hj=>?_,λ j v hj x hx=>?_,λ j v hj x hx=>?_,λ j v hj x hx=>id,λ j j' v v' hj hj' hne x hx hx'=>?_⟩,?_,?_,?_,?_⟩
 ·rcases hcase j v hj with ⟨rfl,rfl⟩|⟨hne,hj⟩
  ·exact t.ok
  ·refine v.fr _ _ _ (h.ok j v hj) k (λ x _ hx hN=>?_)
   rcases hN with hN|hN
   ·exact hoff j v hj x hx hN
   ·exact h.apart n j u v hn hj (λ e=>hne e.symm) x hN hx
 ·rcases hcase j v hj with ⟨rfl,rfl⟩|⟨hne,hj⟩
  ·rcases t.F x hx with h1|h1
   ·exact Nat.lt_of_lt_of_le (h.old _ u hn x h1) k.size
   ·exact h1.2
  ·exact Nat.lt_of_lt_of_le (h.old j v hj x hx) k.size
 ·rcases hcase j v hj with ⟨rfl,rfl⟩|⟨hne,hj⟩
  ·exact t.wf x hx
  ·exact h.wf j v hj x hx
 ·rcases hcase j v hj with ⟨rfl,rfl⟩|⟨hn1,hj1⟩
  ·rcases hcase j' v' hj' with ⟨rfl,rfl⟩|⟨hn2,hj2⟩
   ·exact hne rfl
   ·rcases t.W x hx with h1|h1
    ·exact h.apart _ j' u v' hn hj2 hne x h1 hx'
    ·have:=h.old j' v' hj2 x hx';have:=h1.1;omega
  ·rcases hcase j' v' hj' with ⟨rfl,rfl⟩|⟨hn2,hj2⟩
   ·rcases t.F x hx' with h1|h1
    ·exact h.apart j _ v u hj1 hn hne x hx h1
    ·have:=h.old j v hj1 x (h.wf j v hj1 x hx);have:=h1.1;omega
   ·exact h.apart j j' v v' hj1 hj2 hne x hx hx'
 ·rintro x ⟨j,v,hj,hx⟩
  rcases hcase j v hj with ⟨rfl,rfl⟩|⟨hne,hj⟩
  ·exact (t.F x hx).imp (λ h=>⟨_,u,hn,h⟩) id
  ·exact .inl ⟨j,v,hj,hx⟩
 ·rintro x ⟨j,v,hj,hx⟩
  rcases hcase j v hj with ⟨rfl,rfl⟩|⟨hne,hj⟩
  ·exact t.off x hx
  ·exact λ hg=>hoff j v hj x hx (hsub x hg)
 ·rintro x ⟨j,v,hj,hx⟩
  rcases hcase j v hj with ⟨rfl,rfl⟩|⟨hne,hj⟩
  ·exact (t.W x hx).imp (λ h=>⟨_,u,hn,h⟩) id
  ·exact .inl ⟨j,v,hj,hx⟩
 ·rintro x ⟨j,v,hj,hx⟩
  rcases hcase j v hj with ⟨rfl,rfl⟩|⟨hne,hj'⟩
  ·exact ⟨j,v,hj,t.wf x hx⟩
  ·exact ⟨j,v,hj,h.wf j v hj' x hx⟩
theorem Su.turn (h:Su w0 w b p q A B l) (hi:l[i]?=some o):∃ G,J w G b p q A B/\(∀ x,o.F x->¬G x)/\(∀ x,G x->w0.heap.size<=x)/\(∀ x,o.F x->x < w.heap.size)/\(∀ x,o.W x->w0.heap.size<=x/\o.F x)/\o.P w/\
  ∀ w' A' B' o' G',J w' G' b p q A' B'->(∀ x,G' x->G x)->Keeps (λ x=>G x\/o.W x) w w'->Turns w w' G' o o'->Su w0 w' b p q A' B' (l.set i o'):=by
 have hsz:=h.size
 obtain ⟨G,hJ,hF,hg,hw,hk⟩:=h
 refine ⟨G,hJ,hF.off i o hi,hg,hF.old i o hi,λ x hx=>⟨hw i o hi x hx,hF.wf i o hi x hx⟩,hF.ok i o hi,λ w' A' B' o' G' hJ' hsub k t=>⟨G',hJ',?_,λ x hx=>hg x (hsub x hx),λ j v hj x hx=>?_,hk.trans k (λ x _ hx=>hx.elim (hg x) (hw i o hi x))⟩⟩
 ·have t0:=grp_turn (hF.sub (λ _ h=>h.elim)) hi k hF.off hsub t
  have f0:Fam w' Nob (l.set i o'):=t0.ok
  exact ⟨f0.ok,f0.old,f0.wf,λ j v hj x hx=>t0.off x ⟨j,v,hj,hx⟩,f0.apart⟩
 ·rw [List.getElem?_set] at hj
  by_cases e:i=j
  ·subst e
   rw [if_pos rfl] at hj
   split at hj
   ·cases hj
    rcases t.W x hx with h1|h1
    ·exact hw _ o hi x h1
    ·exact Nat.le_trans hsz h1.1
   ·cases hj
  ·rw [if_neg e] at hj
   exact hw j v hj x hx
theorem Su.turnG (h:Su w0 w b p q A B l) (hi:l[i]?=some (grpOb ls)) (hn:ls[n]?=some u):∃ G,J w G b p q A B/\(∀ x,u.F x->¬G x)/\(∀ x,G x->w0.heap.size<=x)/\(∀ x,u.F x->x < w.heap.size)/\(∀ x,u.W x->w0.heap.size<=x/\u.F x)/\u.P w/\
  ∀ w' A' B' u' G',J w' G' b p q A' B'->(∀ x,G' x->G x)->Keeps (λ x=>G x\/u.W x) w w'->Turns w w' G' u u'->Su w0 w' b p q A' B' (l.set i (grpOb (ls.set n u'))):=by
 obtain ⟨G,hJ,hoff,hg,hold,hW,hP,back⟩:=h.turn hi
 have hf:Fam w Nob ls:=hP
 refine ⟨G,hJ,λ x hx=>hoff x ⟨n,u,hn,hx⟩,hg,λ x hx=>hf.old n u hn x hx,λ x hx=>⟨(hW x ⟨n,u,hn,hx⟩).1,hf.wf n u hn x hx⟩,hf.ok n u hn,λ w' A' B' u' G' hJ' hsub k t=>back w' A' B' _ G' hJ' hsub (k.mono (λ x _ hx=>hx.imp id (λ h=>⟨n,u,hn,h⟩))) (grp_turn hf hn k (λ j v hj x hx=>hoff x ⟨j,v,hj,hx⟩) hsub t)⟩
theorem Su.pushG (h:Su w0 w b p q A B l) (hi:l[i]?=some (grpOb ls)) (k:Keeps Nob w w') (hP:o.P w') (hF:∀ x,o.F x->Fresh w w' x) (hWF:∀ x,o.W x->o.F x):Su w0 w' b p q A B (l.set i (grpOb (ls++[o]))):=by
 have hf:Fam w Nob ls:=h.get hi
 have hcase:∀ (j:Nat) v,(ls++[o])[j]?=some v->ls[j]?=some v\/v=o:=λ j v hj=>by
  by_cases e:j < ls.length
  ·rw [List.getElem?_append_left e] at hj;exact .inl hj
  ·rw [List.getElem?_append_right (by omega)] at hj
   rcases hh:j-ls.length with _|m
   ·rw [hh] at hj;simp at hj;exact .inr hj.symm
   ·rw [hh] at hj;simp at hj
 refine h.set (N:=Nob) hi k (λ _ _ h=>h.elim) (hf.add k hP hF hWF) ?_ ?_ ?_
 ·rintro x ⟨j,v,hj,hx⟩
  rcases hcase j v hj with h1|rfl
  ·exact .inl ⟨j,v,h1,hx⟩
  ·exact .inr (hF x hx)
 ·rintro x ⟨j,v,hj,hx⟩
  rcases hcase j v hj with h1|rfl
  ·exact .inl ⟨j,v,h1,hx⟩
  ·exact .inr (hF x (hWF x hx))
 ·rintro x ⟨j,v,hj,hx⟩
  rcases hcase j v hj with h1|rfl
  ·exact ⟨j,v,hj,hf.wf j v h1 x hx⟩
  ·exact ⟨j,v,hj,hWF x hx⟩
end
section
variable {S T:Nat->Prop} {w:World} {c0 c1 c2 c3 c4 c5 b:Value} {ls:List (List UInt8)} {key:List UInt8}
theorem findP (h1:Txts w S c3 ls) (h2:Byts w T b key):Calls Tryz.prog 150 #[.agg #[c0,c1,c2,c3,c4,c5],b] w λ e w'=>e=.returned (.tuple #[.int .i64 (below ls key),.bool (has ls key)])/\Keeps Nob w w':=by
 obtain ⟨A,c,rfl,hn1,hm1⟩:=h1.form
 have hz1:ls.length<=9223372036854775807:=Nat.le_trans hn1 hm1
 have H1:=Hd h1
 have H2:=Hd h2
 clear h1 h2 hn1 hm1
 go_enter Tryz.func150,Tryz.ntmps150
 go_wp2
 go_loopw [6,7,14] (λ b t i wr=>∃ k:Nat,k<=ls.length/\i=.int .i64 k/\b=.int .i64 (below (ls.take k) key)/\t=.bool (has (ls.take k) key)/\Keeps Nob w wr) (λ _ _ i _=>ls.length-(intOf i).toNat)
 case atStart=>exact ⟨0,Nat.zero_le _,rfl,rfl,rfl,Keeps.alloc _ _ _⟩
 case round=>
  obtain ⟨k,hk,rfl,rfl,rfl,hK⟩:=hrel
  have HK:=Hd hK
  clear hK
  have hbl:=below_take ls key k
  by_cases hlt:k < ls.length
  ·obtain ⟨x,hx⟩:∃ x,ls[k]?=some x:=⟨_,List.getElem?_eq_getElem hlt⟩
   obtain ⟨ad,rfl,_,hc⟩:=H1.out.cells hlt
   obtain ⟨u,hu,hbu⟩:=hc k x hx
   have hu':wr.cell? (ad.add k)=some u:=HK.out.cell hu id
   have HX:=Hd hx
   have HB:=Hd (below_succ (k:=key) hx)
   have HH:=Hd (has_succ (k:=key) hx)
   have HC:=Hd (cmpP (hbu.keeps HK.out (λ _ _ _=>id)) (H2.out.keeps HK.out (λ _ _ _=>id)))
   clear hc hu hbu hx
   generalize below (ls.take k) key=bl at hbl HB ⊢
   generalize has (ls.take k) key=hs at HH ⊢
   rcases cmp_cases x key with hcm|hcm|hcm
   all_goals
    have HCM:=Hd hcm
    clear hcm
    go_wp2_with (go_at_call 88;refine HC.out.mono ?_;rintro e w1 ⟨rfl,rfl⟩;rw [HCM.out])
    go_roundw
    case rel=>
     refine ⟨k+1,by omega,by go_num,?_,?_,HK.out⟩
     ·rw [HB.out,HCM.out];simp
     ·rw [HH.out,HCM.out];simp
    case measure=>simp [intOf];omega
  ·have hkk:k=ls.length:=by omega
   subst hkk
   rw [List.take_of_length_le (Nat.le_refl _)] at hbl ⊢
   go_wp2
   go_ret2
   exact ⟨rfl,HK.out⟩
end
end Go.Proofs.YtjcgphhpaenjkaaGreat
namespace Go.Proofs.YtjcgphhpaenjkaaGreat
open Go.RowKit
structure Gr where
 value:List UInt8
 there:Bool
 err:Int
structure Gc where
 D:Mc
 res:Option Gr
def keyFit (k:List UInt8):Bool:=decide (1<=k.length)&&decide (k.length<=64)
theorem decideM_key (n:Nat) (M:Mc):(decideM n M).key=M.key:=by
 unfold decideM
 repeat' split
 all_goals rfl
theorem stepM_key (A:Ar) (M:Mc):(stepM A M).key=M.key:=by
 unfold stepM
 split
 ·rfl
 ·rfl
 ·split<;>rfl
 ·split<;>rfl
 ·split<;>rfl
 ·split
  ·exact decideM_key _ _
  ·rfl
theorem decideM_level (n:Nat) (M:Mc):(decideM n M).level=M.level:=by
 unfold decideM
 repeat' split
 all_goals rfl
theorem stepM_level (A:Ar) (M:Mc):(stepM A M).level=M.level:=by
 unfold stepM
 split
 ·rfl
 ·rfl
 ·split<;>rfl
 ·split<;>rfl
 ·split<;>rfl
 ·split
  ·exact decideM_level _ _
  ·rfl
section
variable {w w':World} {t t':TypeId} {m d a:Nat} {nv:Nx->Value} {S T N:Nat->Prop} {g:Gc} {M:Mc}
theorem MW.lt (h:MW w t d a nv S M):d < w.heap.size:=by obtain ⟨⟨_,_,_,_,_,_,_,hb,_⟩,_⟩:=h;exact hb.lt
end
end Go.Proofs.YtjcgphhpaenjkaaGreat
namespace Go.Proofs.YtjcgphhpaenjkaaGreat
open Go.RowKit
section
variable {S:Nat->Prop} {w:World} {a:Value} {x:List UInt8}
theorem keyFitR (h:Byts w S a x):Calls Tryz.prog 27 #[a] w λ e w'=>e=.returned (.bool (keyFit x))/\w=w':=by
 obtain ⟨A,c,rfl,hn,hm⟩:=h.form
 have hz:x.length<=9223372036854775807:=Nat.le_trans hn hm
 clear h hn hm
 unfold keyFit
 by_cases h1:(1:Int)<=x.length
 ·by_cases h2:(x.length:Int)<=64
  ·go_enter Tryz.func27,Tryz.ntmps27
   go_wp2
   go_ret
   have h3:1<=x.length:=by omega
   have h4:x.length<=64:=by omega
   exact ⟨by simp [h3,h4],rfl⟩
  ·go_enter Tryz.func27,Tryz.ntmps27
   go_wp2
   go_ret
   have h4:¬x.length<=64:=by omega
   exact ⟨by simp [h4],rfl⟩
 ·go_enter Tryz.func27,Tryz.ntmps27
  go_wp2
  go_ret
  have h3:¬1<=x.length:=by omega
  exact ⟨by simp [h3],rfl⟩
end
end Go.Proofs.YtjcgphhpaenjkaaGreat
namespace Go.Proofs.YtjcgphhpaenjkaaGreat
theorem then_at {K:Act->World->Prop} {Q:Exit->Act->World->Prop} {e:Exit} {a:Act} {w:World} (h:∀ w',w'=w->Exit.then K Q e a w'):Exit.then K Q e a w:=h w rfl
end Go.Proofs.YtjcgphhpaenjkaaGreat

import Derived.Test.YtjcgphhpaenjkaaGreatPkA6
import Derived.Test.YtjcgphhpaenjkaaGreatPkA5
import Derived.Test.YtjcgphhpaenjkaaGreatPkC3
import Derived.Test.YtjcgphhpaenjkaaGreatPkA7
import Derived.Test.YtjcgphhpaenjkaaGreatPkB3
import Derived.Test.YtjcgphhpaenjkaaGreatPkA9
set_option linter.unusedVariables false
namespace Go.Proofs.YtjcgphhpaenjkaaGreat
open Go.RowKit
def Wd (n:Nd):Prop:=K64 n.right/\∀ k ∈ n.kids,K64 k
def Wide64 (A:Ar):Prop:=∀ s ∈ A.sl,Wd s.nd
section
variable {A:Ar} {ix:Int}
theorem wdd_put {t:Sl} (h:Wide64 A) (ht:Wd t.nd):Wide64 (A.put ix t):=λ s hs=>by
 rcases List.mem_or_eq_of_mem_set hs with h1|h1
 ·exact h s h1
 ·rw [h1];exact ht
theorem wdd_get {t:Sl} (h:Wide64 A) (hg:A.get ix=some t):Wd t.nd:=by
 obtain ⟨_,_,h2,_⟩:=get_some hg
 exact h t (List.mem_of_getElem? h2)
theorem wdd_lock {wd:Nat} (h:Wide64 A):Wide64 (opLock A ix wd).2.2:=by
 unfold opLock;split
 ·exact h
 ·rename_i s hg
  split
  ·exact wdd_put h (show Wd s.nd from wdd_get h hg)
  ·exact h
theorem wdd_unlock {c:Bool} (h:Wide64 A):Wide64 (opUnlock A ix c).2:=by
 unfold opUnlock;split
 ·exact h
 ·rename_i s hg
  split
  ·exact h
  ·exact wdd_put h (show Wd s.nd from wdd_get h hg)
theorem wdd_setHead {n:Nd} (h:Wide64 A) (hn:Wd n):Wide64 (opSetHead A ix n).2:=by
 unfold opSetHead;split
 ·exact h
 ·rename_i s hg
  split
  ·exact h
  ·exact wdd_put h ⟨hn.1,(wdd_get h hg).2⟩
theorem wdd_setBody {n:Nd} (h:Wide64 A) (hn:Wd n):Wide64 (opSetBody A ix n).2:=by
 unfold opSetBody;split
 ·exact h
 ·rename_i s hg
  split
  ·exact h
  ·exact wdd_put h ⟨(wdd_get h hg).1,hn.2⟩
theorem wdd_grow {o:Int} (h:Wide64 A):Wide64 (opGrow A o ix).2.2:=by
 unfold opGrow;split
 ·exact h
 ·split<;>exact h
theorem wd_zero:Wd Nd.zero:=⟨by unfold K64;decide,λ k hk=>by simp [Nd.zero] at hk⟩
theorem wdd_alloc (h:Wide64 A):Wide64 (opAlloc A).2.2:=by
 unfold opAlloc;split
 ·exact h
 ·intro s hs
  rcases List.mem_append.1 hs with hs|hs
  ·exact h s hs
  ·simp at hs;subst hs;exact wd_zero
end
section
variable {a0 a1 a2 a3 a4 lv:Int} {A V:Ar} {ps:List Pm} {m:Pm} {ls:List Ch} {es:List Ent} {i:Nat} {n:Nd}
theorem k64_small {x:Int} (h1:0<=x) (h2:x<=65536):K64 x:=by
 unfold K64 Lit.wf
 rw [Bool.and_eq_true,decide_eq_true_eq,decide_eq_true_eq]
 exact ⟨by rw [show IntKind.i64.min=-9223372036854775808 from rfl];omega,by rw [show IntKind.i64.max=9223372036854775807 from rfl];omega⟩
theorem May.wd (h:May n a0 a1 a2) (ha:a0<=65536):Wd n:=by
 refine ⟨k64_small h.right.1 (by have:=h.right.2;omega),λ k hk=>?_⟩
 by_cases hl:n.lvl=0
 ·rw [(h.leaf hl).2.2.1] at hk;cases hk
 ·have:=(h.inner hl).2.1 k hk
  exact k64_small (by omega) (by omega)
theorem DInv.wide (h:DInv a0 a1 a2 a3 a4 A V ps lv ls es) (hm:ps[i]?=some m) (hn:m.nx<=20) (hw:Wide64 A) (h1:2<=a1) (h2:3<=a2) (ha:a0<=65536):Wide64 (stepP a1 a2 A m).2.1:=by
 have hmm:=List.mem_of_getElem? hm
 have hE:=h.each m hmm
 have hnw:3<=m.nx->m.nx<=13->m.nx≠5->May m.nw a0 (a1+1) (a2+1)/\(m.nx≠3->m.nx≠4->over m.nw a1 a2=true)/\∃ lw,lowBad lw m.nw=false:=λ g1 g2 g3=>by
  obtain ⟨n1,n2,n3,n4⟩:=hE.nw (by omega)
  obtain ⟨j,c,lw,hg⟩:=h.grip hmm g1 g2
  obtain ⟨w1,_,_,_,w5,_⟩:=h.newMay hmm g1 g2 (hE.at_ (by omega) g2).2 hg
  rw [<-n1] at w1 w5
  exact ⟨w1,n4,lw,w5⟩
 have hhalf:8<=m.nx->m.nx<=13->Wd m.left/\Wd m.right:=λ g1 g2=>by
  obtain ⟨w1,w2,lw,w3⟩:=hnw (by omega) g2 (by omega)
  obtain ⟨eL,eR,_⟩:=hE.halves g1 g2
  obtain ⟨f1,f2,f3⟩:=hE.own m.fresh (by rw [own_fresh g1 g2];exact List.mem_singleton.2 rfl)
  have hr:=h.room
  have hv:=h.vof.len
  have H:=halves_ok w1 (w2 (by omega) (by omega)) h1 h2 (x:=m.fresh) ⟨f2,by omega⟩ w3
  rw [eL,eR]
  exact ⟨H.mayL.wd ha,H.mayR.wd ha⟩
 have hrt:16<=m.nx->m.nx<=19->Wd (rootNd m):=λ g1 g2=>by
  have h3:0 < m.level:=by
   have:=(h.inv.each m hmm).2.2.2
   have hcase:m.nx=16\/m.nx=17\/m.nx=18\/m.nx=19:=by omega
   rcases hcase with e|e|e|e<;>rw [e] at this<;>first|exact this|exact this.1
  have hp:=(hE.pend ⟨by omega,by omega⟩ h3).ids
  have hr:=h.room
  have hv:=h.vof.len
  have m1:=h.tree.met.2 _ hp.1
  have m2:=h.tree.met.2 _ hp.2
  refine ⟨k64_small (Int.le_refl _) (by show (0:Int)<=65536;decide),λ k hk=>?_⟩
  rcases List.mem_cons.1 (show k ∈ [m.side,m.half] from hk) with e|hk
  ·rw [e];exact k64_small (by omega) (by omega)
  ·rw [List.mem_singleton.1 hk];exact k64_small (by omega) (by omega)
 have hon:∀ (B:Ar) (e:Int) (k:Nat),(onP B m e k).2.1=B:=λ B e k=>by unfold onP;split<;>rfl
 have hgives:Wide64 (givesP A m).2.1:=by
  have:=wdd_unlock (ix:=m.id) (c:=decide (m.nx=4)) hw
  unfold givesP
  simp only
  split
  ·exact this
  ·split
   ·exact this
   ·exact this
 have hslot:Wide64 (slotP A m).2.1:=by
  have:=wdd_alloc hw
  unfold slotP
  simp only
  split
  ·exact this
  ·split
   ·exact this
   ·split
    ·exact this
    ·exact this
 unfold stepP
 split
 any_goals exact hgives
 any_goals exact hslot
 ·exact hw
 ·unfold downP
  split
  ·exact hw
  ·split
   ·simp only
    split
    ·exact hw
    ·split
     ·exact hw
     ·exact hw
   ·exact hw
 ·have:=wdd_lock (ix:=m.id) (wd:=m.word) hw
  unfold lockP
  simp only
  split
  ·exact this
  ·split
   ·exact this
   ·split
    ·exact this
    ·split
     ·exact this
     ·exact this
 ·show Wide64 (onP (opSetBody A m.id m.nw).2 m (opSetBody A m.id m.nw).1 4).2.1;rw [hon];exact wdd_setBody hw ((hnw (by omega) (by omega) (by omega)).1.wd ha)
 ·show Wide64 (onP (opSetHead A m.fresh m.right).2 m (opSetHead A m.fresh m.right).1 9).2.1;rw [hon];exact wdd_setHead hw (hhalf (by omega) (by omega)).2
 ·show Wide64 (onP (opSetBody A m.fresh m.right).2 m (opSetBody A m.fresh m.right).1 10).2.1;rw [hon];exact wdd_setBody hw (hhalf (by omega) (by omega)).2
 ·show Wide64 (onP (opUnlock A m.fresh true).2 m (opUnlock A m.fresh true).1 11).2.1;rw [hon];exact wdd_unlock hw
 ·show Wide64 (onP (opSetHead A m.id m.left).2 m (opSetHead A m.id m.left).1 12).2.1;rw [hon];exact wdd_setHead hw (hhalf (by omega) (by omega)).1
 ·show Wide64 (onP (opSetBody A m.id m.left).2 m (opSetBody A m.id m.left).1 13).2.1;rw [hon];exact wdd_setBody hw (hhalf (by omega) (by omega)).1
 ·have:=wdd_unlock (ix:=m.id) (c:=true) hw
  simp only
  split
  ·exact this
  ·exact this
 ·split
  ·exact hw
  ·exact hw
 ·show Wide64 (onP (opSetHead A m.root (rootNd m)).2 m (opSetHead A m.root (rootNd m)).1 17).2.1;rw [hon];exact wdd_setHead hw (hrt (by omega) (by omega))
 ·show Wide64 (onP (opSetBody A m.root (rootNd m)).2 m (opSetBody A m.root (rootNd m)).1 18).2.1;rw [hon];exact wdd_setBody hw (hrt (by omega) (by omega))
 ·show Wide64 (onP (opUnlock A m.root true).2 m (opUnlock A m.root true).1 19).2.1;rw [hon];exact wdd_unlock hw
 ·have:=wdd_grow (ix:=m.root) (o:=m.side) hw
  simp only
  split
  ·exact this
  ·exact this
 ·exact hw
theorem DInv.rootIn (h:DInv a0 a1 a2 a3 a4 A V ps lv ls es):1<=A.root/\A.root<=A.sl.length:=by
 obtain ⟨c,hc⟩:∃ c,ls[0]?=some c:=⟨_,List.getElem?_eq_getElem (by have:=h.tree.ti.len;have:=h.tree.lv0;omega)⟩
 obtain ⟨r,e⟩:=(h.tree.ti.top c hc).head_
 have hin:V.root ∈ ids ls:=mem_ids.2 ⟨0,c,[],hc,by rw [e];exact List.mem_cons_self⟩
 have:=h.tree.met.2 _ hin
 rw [h.vof.root,<-h.vof.len]
 exact this
end
def rpV (r:Rp):Array Value:=#[.bool r.sound,.int .i64 r.node,.int .i64 r.err,.int .i64 r.levels,.int .i64 r.nodes,.int .i64 r.entries]
section
variable {w:World} {S:Nat->Prop} {v:Value} {l:List Int} {x:Int}
end
section
variable {w w':World} {l:List Ob} {i n m size:Nat} {o:Ob} {e t:TypeId} {v v':Value} {xs ys:List Value} {g:Nat} {cs:Array Value}
theorem Fam.nob0 (h:Fam w Nob l) (k:Keeps Nob w w'):Fam w' Nob l:=h.nob k
theorem Fam.alloc' (h:Fam w Nob l) (hg:g=w.heap.size):Fam (w.alloc (.cells cs t)) Nob (l++[muBlk g t cs]):=by
 subst hg
 exact h.add (Keeps.alloc _ _ _) (Blk.new _ _ _) (λ x hx=>by rw [show x=w.heap.size from hx];exact ⟨Nat.le_refl _,by simp⟩) (λ _ h=>h)
theorem Fam.allocAt (h:Fam w Nob l) (hi:l[i]?=some o) (k:Keeps Nob w w') (hb:Blk w' g t cs) (hg:w.heap.size<=g):Fam w' Nob (l.set i (muBlk g t cs)):=
 h.wr hi k (λ _ _ h=>h.elim) hb (λ x hx=>.inr (by rw [show x=g from hx];exact ⟨hg,hb.lt⟩)) (λ x hx=>.inr (by rw [show x=g from hx];exact ⟨hg,hb.lt⟩)) (λ _ h=>h)
theorem Fam.nilRow (h:Fam w Nob l) (e:TypeId) (size:Nat):Fam w Nob (l++[rowOb e size (.slice none 0 0) 0 []]):=
 h.add (Keeps.refl _ _) (Own.nil _ _ _ _) (λ x hx=>by cases hx) (λ _ h=>h)
theorem Fam.addNo (h:Fam w Nob l):Fam w Nob (l++[noOb]):=h.add (Keeps.refl _ _) trivial (λ x h=>h.elim) (λ x h=>h.elim)
theorem Fam.app0 (h:Fam w Nob l) (hi:l[i]?=some (rowOb e size v n xs)) (k:Keeps (λ b=>v.ownBlock=some b) w w') (ho:Own w' (λ b=>v.ownBlock=some b\/Fresh w w' b) e size v' m ys):Fam w' Nob (l.set i (rowOb e size v' m ys)):=
 h.wr hi k (λ _ _ h=>h) ho.self (λ x hx=>(ho.blk hx).1) (λ x hx=>(ho.blk hx).1) (λ _ h=>h)
theorem Fam.setBlk {cs':Array Value} (h:Fam w Nob l) (hi:l[i]?=some (muBlk g t cs)) (k:Keeps (λ x=>x=g) w w') (hb:Blk w' g t cs'):Fam w' Nob (l.set i (muBlk g t cs')):=
 h.wr hi k (λ x _ e=>e) hb (λ x hx=>.inl hx) (λ x hx=>.inl hx) (λ _ h=>h)
theorem Fam.swap {o':Ob} (h:Fam w Nob l) (hi:l[i]?=some o) (hP:o'.P w) (hF:∀ x,o'.F x->o.F x) (hw:∀ x,¬o'.W x):Fam w Nob (l.set i o'):=
 h.wr hi (Keeps.refl Nob w) (λ _ _ h=>h.elim) hP (λ x hx=>.inl (hF x hx)) (λ x hx=>absurd hx (hw x)) (λ x hx=>absurd hx (hw x))
end
structure Fo (w0 w:World) (l:List Ob):Prop where
 fam:Fam w Nob l
 own:∀ (i:Nat) o,l[i]?=some o->∀ x,o.W x->w0.heap.size<=x
 kept:Keeps Nob w0 w
section
variable {w0 w w':World} {l:List Ob} {i n m size g:Nat} {o o':Ob} {e t:TypeId} {v v':Value} {xs ys:List Value} {cs cs':Array Value} {N:Nat->Prop}
theorem Fo.nil (w:World):Fo w w []:=⟨Fam.nil,λ i o h=>by simp at h,Keeps.refl _ _⟩
theorem Fo.get (h:Fo w0 w l) (hi:l[i]?=some o):o.P w:=h.fam.ok i _ hi
theorem Fo.nob (h:Fo w0 w l) (k:Keeps Nob w w'):Fo w0 w' l:=⟨h.fam.nob k,h.own,h.kept.trans k (λ _ _ h=>h)⟩
theorem Fo.wr (h:Fo w0 w l) (hi:l[i]?=some o) (k:Keeps N w w') (hN:∀ x,x < w.heap.size->N x->o.W x) (hP:o'.P w') (hF:∀ x,o'.F x->o.F x\/Fresh w w' x) (hW:∀ x,o'.W x->o.W x\/Fresh w w' x) (hWF:∀ x,o'.W x->o'.F x):Fo w0 w' (l.set i o'):=by
 refine ⟨h.fam.wr hi k hN hP hF hW hWF,λ j u hj x hx=>?_,h.kept.trans k (λ x hx hn=>?_)⟩
 ·rw [List.getElem?_set] at hj
  split at hj
  ·split at hj
   ·cases hj
    rcases hW x hx with h1|h1
    ·exact h.own i _ hi x h1
    ·exact Nat.le_trans h.kept.size h1.1
   ·cases hj
  ·exact h.own j u hj x hx
 ·have h1:=h.own i _ hi x (hN x (Nat.lt_of_lt_of_le hx h.kept.size) hn)
  exact absurd hx (Nat.not_lt.2 h1)
theorem Fo.push (h:Fo w0 w l) (k:Keeps Nob w w') (hP:o.P w') (hF:∀ x,o.F x->Fresh w w' x) (hWF:∀ x,o.W x->o.F x):Fo w0 w' (l++[o]):=by
 refine ⟨h.fam.add k hP hF hWF,λ j u hj x hx=>?_,h.kept.trans k (λ _ _ h=>h)⟩
 rcases List.getElem?_append (l₁:=l) (l₂:=[o]) (i:=j)▸hj with hj
 split at hj
 ·exact h.own j u hj x hx
 ·rcases hh:j-l.length with _|r
  ·rw [hh] at hj;simp at hj;subst hj
   exact Nat.le_trans h.kept.size (hF x (hWF x hx)).1
  ·rw [hh] at hj;simp at hj
theorem Fo.put (h:Fo w0 w l) (hi:l[i]?=some o) (k:Keeps Nob w w') (hP:o'.P w') (hF:∀ x,o'.F x->Fresh w w' x) (hWF:∀ x,o'.W x->o'.F x):Fo w0 w' (l.set i o'):=
 h.wr hi k (λ _ _ h=>h.elim) hP (λ x hx=>.inr (hF x hx)) (λ x hx=>.inr (hF x (hWF x hx))) hWF
theorem Fo.no (h:Fo w0 w l):Fo w0 w (l++[noOb]):=h.push (Keeps.refl _ _) trivial (λ x h=>h.elim) (λ x h=>h.elim)
theorem Fo.nilRow (h:Fo w0 w l) (e:TypeId) (size:Nat):Fo w0 w (l++[rowOb e size (.slice none 0 0) 0 []]):=
 h.push (Keeps.refl _ _) (Own.nil _ _ _ _) (λ x hx=>by cases hx) (λ x h=>h)
theorem Fo.blkPut (h:Fo w0 w l) (hi:l[i]?=some o) (k:Keeps Nob w w') (hb:Blk w' g t cs) (hg:w.heap.size<=g):Fo w0 w' (l.set i (muBlk g t cs)):=
 h.put hi k hb (λ x hx=>by rw [show x=g from hx];exact ⟨hg,hb.lt⟩) (λ _ h=>h)
theorem Fo.blkSet (h:Fo w0 w l) (hi:l[i]?=some (muBlk g t cs)) (k:Keeps (λ x=>x=g) w w') (hb:Blk w' g t cs'):Fo w0 w' (l.set i (muBlk g t cs')):=
 h.wr hi k (λ x _ e=>e) hb (λ x hx=>.inl hx) (λ x hx=>.inl hx) (λ _ h=>h)
theorem Fo.app (h:Fo w0 w l) (hi:l[i]?=some (rowOb e size v n xs)) (k:Keeps (λ b=>v.ownBlock=some b) w w') (ho:Own w' (λ b=>v.ownBlock=some b\/Fresh w w' b) e size v' m ys):Fo w0 w' (l.set i (rowOb e size v' m ys)):=
 h.wr hi k (λ _ _ h=>h) ho.self (λ x hx=>(ho.blk hx).1) (λ x hx=>(ho.blk hx).1) (λ _ h=>h)
theorem Fo.grow (h:Fo w0 w l) (hi:l[i]?=some o) (k:Keeps Nob w w') (hP:o'.P w') (hF:∀ x,o'.F x->o.F x\/Fresh w w' x) (hW:∀ x,¬o'.W x):Fo w0 w' (l.set i o'):=
 h.wr hi k (λ _ _ h=>h.elim) hP hF (λ x hx=>absurd hx (hW x)) (λ x hx=>absurd hx (hW x))
end
theorem mapM_len (A:Ar):∀ (f:Nat) (id:Int) (met:List Int) (leaf:Bool) (out:List Ent),out.length<=(mapM A f id met leaf out).length
 | 0,_,_,_,_=>Nat.le_refl _
 | f+1,id,met,leaf,out=>by
  unfold mapM
  split
  ·exact Nat.le_refl _
  ·split
   ·exact Nat.le_refl _
   ·split
    ·split
     ·exact Nat.le_refl _
     ·exact mapM_len A f _ _ _ _
    ·refine Nat.le_trans ?_ (mapM_len A f _ _ _ _)
     simp
theorem entsM_len (vals:List (List UInt8)):∀ (i:Nat) (ks:List (List UInt8)),(entsM vals i ks).length=ks.length
 | _,[]=>rfl
 | i,_::ks=>by rw [entsM,List.length_cons,entsM_len vals (i+1) ks,List.length_cons]
theorem entsM_at (vals:List (List UInt8)):∀ (i:Nat) (ks:List (List UInt8)) (j:Nat) (k:List UInt8),ks[j]?=some k->(entsM vals i ks)[j]?=some (k,vals.getD (i+j) [])
 | _,[],j,k,h=>by simp at h
 | i,x::ks,0,k,h=>by simp at h;subst h;rfl
 | i,x::ks,j+1,k,h=>by
  have:=entsM_at vals (i+1) ks j k (by simpa using h)
  rw [show i+(j+1)=i+1+j by omega]
  simpa [entsM] using this
theorem ents_len (n:Nd):(ents n).length=n.keys.length:=entsM_len _ _ _
theorem ents_at {n:Nd} {j:Nat} {k:List UInt8} (h:n.keys[j]?=some k):(ents n)[j]?=some (k,n.vals.getD j []):=by
 have:=entsM_at n.vals 0 n.keys j k h
 rw [Nat.zero_add] at this
 exact this
theorem mapM_succ {A:Ar} {met:List Int} (h:met.length<=A.sl.length) (id:Int) (leaf:Bool) (out:List Ent):mapM A (A.sl.length+1-met.length) id met leaf out=match A.get id with
  | none=>out
  | some s=>
   if met.contains id=true then out
   else if 0 < s.nd.lvl then (if s.nd.kids.length=0\/(leaf||decide (s.nd.lvl<=0))=true then out else mapM A (A.sl.length-met.length) (s.nd.kids.getD 0 0) (met++[id]) (leaf||decide (s.nd.lvl<=0)) out)
   else mapM A (A.sl.length-met.length) s.nd.right (met++[id]) (leaf||decide (s.nd.lvl<=0)) (out++ents s.nd):=by
 rw [show A.sl.length+1-met.length=(A.sl.length-met.length)+1 by omega,mapM]
 rfl
def MapAt (w:World) (S:Nat->Prop) (v:Value) (R:List Ent):Prop:=∃ l:List En,Own w S 46 2 v l.length (enCells l)/\(∀ x ∈ l,Byts w S x.kv x.k/\Byts w S x.vv x.v)/\l.map En.e=R
end Go.Proofs.YtjcgphhpaenjkaaGreat

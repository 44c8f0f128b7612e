import Derived.Test.YtjcgphhpaenjkaaPkE6
set_option maxHeartbeats 64000000
set_option maxRecDepth 100000
set_option linter.unusedVariables false
namespace Go.Proofs.Ytjcgphhpaenjkaa
open Go.RowKit
section
variable {a0 a1 a2 a3 a4 lv:Int} {A V:Ar} {ps:List Pm} {m:Pm} {ls:List Ch} {es:List Ent} {i:Nat} {n:Nd}
theorem k64_small {x:Int} (h1:0<=x) (h2:x<=65536):K64 x:=by
 unfold K64 Lit.wf
 rw [Bool.and_eq_true,decide_eq_true_eq,decide_eq_true_eq]
 exact ⟨by rw [show IntKind.i64.min=-9223372036854775808 from rfl];omega,by rw [show IntKind.i64.max=9223372036854775807 from rfl];omega⟩
theorem May.wd (h:May n a0 a1 a2) (ha:a0<=65536):Wd n:=by
 refine ⟨k64_small h.right.1 (by have:=h.right.2;omega),λ k hk=>?_⟩
 by_cases hl:n.lvl=0
 ·rw [(h.leaf hl).2.2.1] at hk;cases hk
 ·have:=(h.inner hl).2.1 k hk
  exact k64_small (by omega) (by omega)
theorem DInv.wide (h:DInv a0 a1 a2 a3 a4 A V ps lv ls es) (hm:ps[i]?=some m) (hn:m.nx<=20) (hw:Wide64 A) (h1:2<=a1) (h2:3<=a2) (ha:a0<=65536):Wide64 (stepP a1 a2 A m).2.1:=by
 have hmm:=List.mem_of_getElem? hm
 have hE:=h.each m hmm
 have hnw:3<=m.nx->m.nx<=13->m.nx≠5->May m.nw a0 (a1+1) (a2+1)/\(m.nx≠3->m.nx≠4->over m.nw a1 a2=true)/\∃ lw,lowBad lw m.nw=false:=λ g1 g2 g3=>by
  obtain ⟨n1,n2,n3,n4⟩:=hE.nw (by omega)
  obtain ⟨j,c,lw,hg⟩:=h.grip hmm g1 g2
  obtain ⟨w1,_,_,_,w5,_⟩:=h.newMay hmm g1 g2 (hE.at_ (by omega) g2).2 hg
  rw [<-n1] at w1 w5
  exact ⟨w1,n4,lw,w5⟩
 have hhalf:8<=m.nx->m.nx<=13->Wd m.left/\Wd m.right:=λ g1 g2=>by
  obtain ⟨w1,w2,lw,w3⟩:=hnw (by omega) g2 (by omega)
  obtain ⟨eL,eR,_⟩:=hE.halves g1 g2
  obtain ⟨f1,f2,f3⟩:=hE.own m.fresh (by rw [own_fresh g1 g2];exact List.mem_singleton.2 rfl)
  have hr:=h.room
  have hv:=h.vof.len
  have H:=halves_ok w1 (w2 (by omega) (by omega)) h1 h2 (x:=m.fresh) ⟨f2,by omega⟩ w3
  rw [eL,eR]
  exact ⟨H.mayL.wd ha,H.mayR.wd ha⟩
 have hrt:16<=m.nx->m.nx<=19->Wd (rootNd m):=λ g1 g2=>by
  have h3:0 < m.level:=by
   have:=(h.inv.each m hmm).2.2.2
   have hcase:m.nx=16\/m.nx=17\/m.nx=18\/m.nx=19:=by omega
   rcases hcase with e|e|e|e<;>rw [e] at this<;>first|exact this|exact this.1
  have hp:=(hE.pend ⟨by omega,by omega⟩ h3).ids
  have hr:=h.room
  have hv:=h.vof.len
  have m1:=h.tree.met.2 _ hp.1
  have m2:=h.tree.met.2 _ hp.2
  refine ⟨k64_small (Int.le_refl _) (by show (0:Int)<=65536;decide),λ k hk=>?_⟩
  rcases List.mem_cons.1 (show k ∈ [m.side,m.half] from hk) with e|hk
  ·rw [e];exact k64_small (by omega) (by omega)
  ·rw [List.mem_singleton.1 hk];exact k64_small (by omega) (by omega)
 have hon:∀ (B:Ar) (e:Int) (k:Nat),(onP B m e k).2.1=B:=λ B e k=>by unfold onP;split<;>rfl
 have hgives:Wide64 (givesP A m).2.1:=by
  have:=wdd_unlock (ix:=m.id) (c:=decide (m.nx=4)) hw
  unfold givesP
  simp only
  split
  ·exact this
  ·split
   ·exact this
   ·exact this
 have hslot:Wide64 (slotP A m).2.1:=by
  have:=wdd_alloc hw
  unfold slotP
  simp only
  split
  ·exact this
  ·split
   ·exact this
   ·split
    ·exact this
    ·exact this
 unfold stepP
 split
 any_goals exact hgives
 any_goals exact hslot
 ·exact hw
 ·unfold downP
  split
  ·exact hw
  ·split
   ·simp only
    split
    ·exact hw
    ·split
     ·exact hw
     ·exact hw
   ·exact hw
 ·have:=wdd_lock (ix:=m.id) (wd:=m.word) hw
  unfold lockP
  simp only
  split
  ·exact this
  ·split
   ·exact this
   ·split
    ·exact this
    ·split
     ·exact this
     ·exact this
 ·show Wide64 (onP (opSetBody A m.id m.nw).2 m (opSetBody A m.id m.nw).1 4).2.1;rw [hon];exact wdd_setBody hw ((hnw (by omega) (by omega) (by omega)).1.wd ha)
 ·show Wide64 (onP (opSetHead A m.fresh m.right).2 m (opSetHead A m.fresh m.right).1 9).2.1;rw [hon];exact wdd_setHead hw (hhalf (by omega) (by omega)).2
 ·show Wide64 (onP (opSetBody A m.fresh m.right).2 m (opSetBody A m.fresh m.right).1 10).2.1;rw [hon];exact wdd_setBody hw (hhalf (by omega) (by omega)).2
 ·show Wide64 (onP (opUnlock A m.fresh true).2 m (opUnlock A m.fresh true).1 11).2.1;rw [hon];exact wdd_unlock hw
 ·show Wide64 (onP (opSetHead A m.id m.left).2 m (opSetHead A m.id m.left).1 12).2.1;rw [hon];exact wdd_setHead hw (hhalf (by omega) (by omega)).1
 ·show Wide64 (onP (opSetBody A m.id m.left).2 m (opSetBody A m.id m.left).1 13).2.1;rw [hon];exact wdd_setBody hw (hhalf (by omega) (by omega)).1
 ·have:=wdd_unlock (ix:=m.id) (c:=true) hw
  simp only
  split
  ·exact this
  ·exact this
 ·split
  ·exact hw
  ·exact hw
 ·show Wide64 (onP (opSetHead A m.root (rootNd m)).2 m (opSetHead A m.root (rootNd m)).1 17).2.1;rw [hon];exact wdd_setHead hw (hrt (by omega) (by omega))
 ·show Wide64 (onP (opSetBody A m.root (rootNd m)).2 m (opSetBody A m.root (rootNd m)).1 18).2.1;rw [hon];exact wdd_setBody hw (hrt (by omega) (by omega))
 ·show Wide64 (onP (opUnlock A m.root true).2 m (opUnlock A m.root true).1 19).2.1;rw [hon];exact wdd_unlock hw
 ·have:=wdd_grow (ix:=m.root) (o:=m.side) hw
  simp only
  split
  ·exact this
  ·exact this
 ·exact hw
end
structure Alc (w0:World) (S0:Nat->Prop) (C:Cf) (j n0:Nat) (c:Nat) (w:World) (R:Nat->Prop) (p m B:Nat) (A:Ar) (us:List Pu) (es:List En) (u:Pu):Prop where
 run:Run w0 S0 C j c B A us es n0 u
 ln:LnR R w p m C A u.X
 wide:Wide64 A
 sz:us.length=n0+1
section
variable {w w' w0:World} {p m j n0 c B:Nat} {C:Cf} {A:Ar} {R:Nat->Prop} {S0:Nat->Prop} {es:List En} {us:List Pu} {u:Pu}
theorem Alc.step (h:Alc w0 S0 C j n0 c w R p m (B+1) A us es u) (hC:Cc C) (hj:j<=59) (hc:c < 9223372036854775807) (hx:u.X.nx≠20) :
  Calls Try.prog 9 #[pV m] w λ e w'=>∃ b A' us' es' u',e=.returned (.tuple #[.bool (decide (u'.X.nx=20)),.bool b])/\Alc w0 S0 C j n0 (c+1) w' R p m B A' us' es' u'/\(NoHold u'.X.nx\/Un u.X.nx+1<=Un u'.X.nx)/\Keeps (λ x=>¬R x) w w':=by
 have hu:=List.mem_of_getElem? h.run.at_
 have ok:=h.run.sn.ok hu hc
 have hnx:=(h.run.sn.nx u hu).1
 refine (h.ln.step ok hnx).mono ?_
 rintro e w' ⟨rfl,hl,hk⟩
 obtain ⟨g1,g2⟩:=stepP_says (leaf:=C.leaf) (inner:=C.inner) ok hnx hx
 obtain ⟨u',hu'⟩:∃ u':Pu,u'={u with X:=(stepP C.leaf C.inner A u.X).2.2}:=⟨_,rfl⟩
 have hX:u'.X=(stepP C.leaf C.inner A u.X).2.2:=by rw [hu']
 have hS:=h.run.step hC hj hc hX (by rw [hu']) (by rw [hu'])
 refine ⟨_,_,us.set n0 u',_,u',by rw [g1,hX],⟨hS,by rw [hX];exact hl,?_,by rw [List.length_set];exact h.sz⟩,by rw [hX];exact g2,hk⟩
 obtain ⟨V,lv,ls,hD⟩:=h.run.sn.dinv
 exact hD.wide (i:=n0) (by rw [List.getElem?_map,h.run.at_];rfl) hnx h.wide hC.leaf.1 hC.inner.1 (by have:=hC.nodes;omega)
theorem Alc.nob (h:Alc w0 S0 C j n0 c w R p m B A us es u) (k:Keeps Nob w w'):Alc w0 S0 C j n0 c w' R p m B A us es u:=⟨h.run,h.ln.nob k,h.wide,h.sz⟩
theorem aloneC (h:Alc w0 S0 C j n0 c w R p m 988 A us es u) (hC:Cc C) (hj:j<=59) (hc:c < 9223372036854770000) (hx:u.X.nx≠20) (hun:Un u.X.nx=0) :
  Calls Try.prog 12 #[pV p,pV m,.int .i64 1000] w λ e w'=>∃ n B:Nat,∃ A' us' es' u',e=.returned (.int .i64 n)/\n<=988/\u'.X.nx=20/\Alc w0 S0 C j n0 (c+n) w' R p m B A' us' es' u'/\Keeps (λ x=>¬R x) w w':=by
 have H:=Hd h
 clear h
 unfold pV
 go_enter Try.func12,Try.ntmps12
 go_wp2
 go_loopw [7,8,9] (λ nv unv tv wr=>∃ n un B:Nat,∃ A' us' es' u',nv=.int .i64 n/\unv=.int .i64 un/\tv=.bool (decide (u'.X.nx=20))/\n+B<=988/\un<=Un u'.X.nx/\Alc w0 S0 C j n0 (c+n) wr R p m B A' us' es' u'/\Keeps (λ x=>¬R x) w wr) (λ nv _ _ _=>1000-(intOf nv).toNat)
 case atStart=>exact ⟨0,0,988,A,us,es,u,rfl,rfl,by rw [decide_eq_false hx],Nat.le_refl _,Nat.zero_le _,H.out,Keeps.refl _ _⟩
 case round=>
  obtain ⟨n,un,B,A',us',es',u',rfl,rfl,rfl,hnB,hunl,ha,hkr⟩:=hrel
  have HA:=Hd ha
  have HK:=Hd hkr
  clear ha hkr
  by_cases h20:u'.X.nx=20
  ·rw [decide_eq_true h20]
   go_wp2
   go_ret
   exact ⟨n,B,A',us',es',u',rfl,by omega,h20,HA.out,HK.out⟩
  ·rw [decide_eq_false h20]
   have hu:=List.mem_of_getElem? HA.out.run.at_
   have hBp:=HA.out.run.bud.pos (HA.out.run.sn.nx u' hu).1 h20
   obtain ⟨B,rfl⟩:∃ b,B=b+1:=⟨B-1,by omega⟩
   have FS:=HA.out.step hC hj (by omega) h20
   have hul:=un_le u'.X.nx
   unfold pV at FS
   clear hu hBp
   go_wp2_with (go_at_call 9;refine FS.mono ?_;rintro e w1 ⟨b1,A2,us2,es2,u2,rfl,ha,hh,hk⟩)
   have HA2:=Hd ha
   replace HK:=tq_ HK hk
   have HH:=Hd hh
   have FH:=ha.ln.arena.held
   unfold pV at FH
   clear FS ha hh hk HA
   refine FH.mono ?_
   rintro e w2 ⟨hv,rfl,ho,hk⟩
   replace HA2:=Hd (HA2.out.nob hk)
   replace HK:=tr_ HK hk
   obtain ⟨XA,xc,rfl⟩:=Own.form ho
   clear FH ho hk
   obtain ⟨L,hL⟩:∃ L,heldFrom 1 A2.sl=L:=⟨_,rfl⟩
   rw [hL]
   cases L with
   | nil=>
    rw [List.length_nil]
    go_wp2
    go_roundw
    case rel=>exact ⟨n+1,0,B,A2,us2,es2,u2,by go_num,rfl,rfl,by omega,Nat.zero_le _,HA2.out,HK.out⟩
    case measure=>simp [intOf];omega
   | cons l0 L=>
    have hun2:un+1<=Un u2.X.nx:=by
     rcases HH.out with h1|h1
     ·rw [HA2.out.run.free.held h1] at hL;cases hL
     ·omega
    have hul2:=un_le u2.X.nx
    rw [List.length_cons]
    clear hL
    have hun8:(un:Int)+1<=8:=by omega
    go_wp2
    go_roundw
    case rel=>exact ⟨n+1,un+1,B,A2,us2,es2,u2,by go_num,by go_num,rfl,by omega,hun2,HA2.out,HK.out⟩
    case measure=>simp [intOf];omega
end
structure Fo (w0 w:World) (l:List Ob):Prop where
 fam:Fam w Nob l
 own:∀ (i:Nat) o,l[i]?=some o->∀ x,o.W x->w0.heap.size<=x
 kept:Keeps Nob w0 w
section
variable {w0 w w':World} {l:List Ob} {i n m size g:Nat} {o o':Ob} {e t:TypeId} {v v':Value} {xs ys:List Value} {cs cs':Array Value} {N:Nat->Prop}
theorem Fo.nil (w:World):Fo w w []:=⟨Fam.nil,λ i o h=>by simp at h,Keeps.refl _ _⟩
theorem Fo.get (h:Fo w0 w l) (hi:l[i]?=some o):o.P w:=h.fam.ok i _ hi
theorem Fo.nob (h:Fo w0 w l) (k:Keeps Nob w w'):Fo w0 w' l:=⟨h.fam.nob k,h.own,h.kept.trans k (λ _ _ h=>h)⟩
theorem Fo.wr (h:Fo w0 w l) (hi:l[i]?=some o) (k:Keeps N w w') (hN:∀ x,x < w.heap.size->N x->o.W x) (hP:o'.P w') (hF:∀ x,o'.F x->o.F x\/Fresh w w' x) (hW:∀ x,o'.W x->o.W x\/Fresh w w' x) (hWF:∀ x,o'.W x->o'.F x):Fo w0 w' (l.set i o'):=by
 refine ⟨h.fam.wr hi k hN hP hF hW hWF,λ j u hj x hx=>?_,h.kept.trans k (λ x hx hn=>?_)⟩
 ·rw [List.getElem?_set] at hj
  split at hj
  ·split at hj
   ·cases hj
    rcases hW x hx with h1|h1
    ·exact h.own i _ hi x h1
    ·exact Nat.le_trans h.kept.size h1.1
   ·cases hj
  ·exact h.own j u hj x hx
 ·have h1:=h.own i _ hi x (hN x (Nat.lt_of_lt_of_le hx h.kept.size) hn)
  exact absurd hx (Nat.not_lt.2 h1)
theorem Fo.push (h:Fo w0 w l) (k:Keeps Nob w w') (hP:o.P w') (hF:∀ x,o.F x->Fresh w w' x) (hWF:∀ x,o.W x->o.F x):Fo w0 w' (l++[o]):=by
 refine ⟨h.fam.add k hP hF hWF,λ j u hj x hx=>?_,h.kept.trans k (λ _ _ h=>h)⟩
 rcases List.getElem?_append (l₁:=l) (l₂:=[o]) (i:=j)▸hj with hj
 split at hj
 ·exact h.own j u hj x hx
 ·rcases hh:j-l.length with _|r
  ·rw [hh] at hj;simp at hj;subst hj
   exact Nat.le_trans h.kept.size (hF x (hWF x hx)).1
  ·rw [hh] at hj;simp at hj
theorem Fo.put (h:Fo w0 w l) (hi:l[i]?=some o) (k:Keeps Nob w w') (hP:o'.P w') (hF:∀ x,o'.F x->Fresh w w' x) (hWF:∀ x,o'.W x->o'.F x):Fo w0 w' (l.set i o'):=
 h.wr hi k (λ _ _ h=>h.elim) hP (λ x hx=>.inr (hF x hx)) (λ x hx=>.inr (hF x (hWF x hx))) hWF
theorem Fo.no (h:Fo w0 w l):Fo w0 w (l++[noOb]):=h.push (Keeps.refl _ _) trivial (λ x h=>h.elim) (λ x h=>h.elim)
theorem Fo.nilRow (h:Fo w0 w l) (e:TypeId) (size:Nat):Fo w0 w (l++[rowOb e size (.slice none 0 0) 0 []]):=
 h.push (Keeps.refl _ _) (Own.nil _ _ _ _) (λ x hx=>by cases hx) (λ x h=>h)
theorem Fo.blkPut (h:Fo w0 w l) (hi:l[i]?=some o) (k:Keeps Nob w w') (hb:Blk w' g t cs) (hg:w.heap.size<=g):Fo w0 w' (l.set i (muBlk g t cs)):=
 h.put hi k hb (λ x hx=>by rw [show x=g from hx];exact ⟨hg,hb.lt⟩) (λ _ h=>h)
theorem Fo.blkSet (h:Fo w0 w l) (hi:l[i]?=some (muBlk g t cs)) (k:Keeps (λ x=>x=g) w w') (hb:Blk w' g t cs'):Fo w0 w' (l.set i (muBlk g t cs')):=
 h.wr hi k (λ x _ e=>e) hb (λ x hx=>.inl hx) (λ x hx=>.inl hx) (λ _ h=>h)
theorem Fo.app (h:Fo w0 w l) (hi:l[i]?=some (rowOb e size v n xs)) (k:Keeps (λ b=>v.ownBlock=some b) w w') (ho:Own w' (λ b=>v.ownBlock=some b\/Fresh w w' b) e size v' m ys):Fo w0 w' (l.set i (rowOb e size v' m ys)):=
 h.wr hi k (λ _ _ h=>h) ho.self (λ x hx=>(ho.blk hx).1) (λ x hx=>(ho.blk hx).1) (λ _ h=>h)
theorem Fo.grow (h:Fo w0 w l) (hi:l[i]?=some o) (k:Keeps Nob w w') (hP:o'.P w') (hF:∀ x,o'.F x->o.F x\/Fresh w w' x) (hW:∀ x,¬o'.W x):Fo w0 w' (l.set i o'):=
 h.wr hi k (λ _ _ h=>h.elim) hP hF (λ x hx=>absurd hx (hW x)) (λ x hx=>absurd hx (hW x))
end
theorem mapM_len (A:Ar):∀ (f:Nat) (id:Int) (met:List Int) (leaf:Bool) (out:List Ent),out.length<=(mapM A f id met leaf out).length
 | 0,_,_,_,_=>Nat.le_refl _
 | f+1,id,met,leaf,out=>by
  unfold mapM
  split
  ·exact Nat.le_refl _
  ·split
   ·exact Nat.le_refl _
   ·split
    ·split
     ·exact Nat.le_refl _
     ·exact mapM_len A f _ _ _ _
    ·refine Nat.le_trans ?_ (mapM_len A f _ _ _ _)
     simp
theorem entsM_len (vals:List (List UInt8)):∀ (i:Nat) (ks:List (List UInt8)),(entsM vals i ks).length=ks.length
 | _,[]=>rfl
 | i,_::ks=>by rw [entsM,List.length_cons,entsM_len vals (i+1) ks,List.length_cons]
theorem entsM_at (vals:List (List UInt8)):∀ (i:Nat) (ks:List (List UInt8)) (j:Nat) (k:List UInt8),ks[j]?=some k->(entsM vals i ks)[j]?=some (k,vals.getD (i+j) [])
 | _,[],j,k,h=>by simp at h
 | i,x::ks,0,k,h=>by simp at h;subst h;rfl
 | i,x::ks,j+1,k,h=>by
  have:=entsM_at vals (i+1) ks j k (by simpa using h)
  rw [show i+(j+1)=i+1+j by omega]
  simpa [entsM] using this
theorem ents_len (n:Nd):(ents n).length=n.keys.length:=entsM_len _ _ _
theorem ents_at {n:Nd} {j:Nat} {k:List UInt8} (h:n.keys[j]?=some k):(ents n)[j]?=some (k,n.vals.getD j []):=by
 have:=entsM_at n.vals 0 n.keys j k h
 rw [Nat.zero_add] at this
 exact this
theorem mapM_succ {A:Ar} {met:List Int} (h:met.length<=A.sl.length) (id:Int) (leaf:Bool) (out:List Ent):mapM A (A.sl.length+1-met.length) id met leaf out=match A.get id with
  | none=>out
  | some s=>
   if met.contains id=true then out
   else if 0 < s.nd.lvl then (if s.nd.kids.length=0\/(leaf||decide (s.nd.lvl<=0))=true then out else mapM A (A.sl.length-met.length) (s.nd.kids.getD 0 0) (met++[id]) (leaf||decide (s.nd.lvl<=0)) out)
   else mapM A (A.sl.length-met.length) s.nd.right (met++[id]) (leaf||decide (s.nd.lvl<=0)) (out++ents s.nd):=by
 rw [show A.sl.length+1-met.length=(A.sl.length-met.length)+1 by omega,mapM]
 rfl
end Go.Proofs.Ytjcgphhpaenjkaa

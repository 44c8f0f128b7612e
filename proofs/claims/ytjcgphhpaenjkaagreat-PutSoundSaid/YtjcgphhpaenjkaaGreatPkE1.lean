import Derived.Test.YtjcgphhpaenjkaaGreatPkD8
import Derived.Test.YtjcgphhpaenjkaaGreatPkD9
import Derived.Test.YtjcgphhpaenjkaaGreatPkE0
import Derived.Test.YtjcgphhpaenjkaaGreatPkA6
import Derived.Test.YtjcgphhpaenjkaaGreatPkA5
import Derived.Test.YtjcgphhpaenjkaaGreatPkC3
import Derived.Test.YtjcgphhpaenjkaaGreatPkA7
import Derived.Test.YtjcgphhpaenjkaaGreatPkB3
import Derived.BigQuiet
import Derived.Test.YtjcgphhpaenjkaaGreatPkD6
import Derived.Deep.Cut
import Derived.Test.YtjcgphhpaenjkaaGreatPkA8
namespace Go.Proofs.YtjcgphhpaenjkaaGreat
open Go.RowKit
def pus0 (us:List Pu):List Value:=us.flatMap (λ u=>[.pointer none,.pointer none,u.kv,u.vv])
theorem pus0_at:∀ (us:List Pu) (i:Nat) (u:Pu),us[i]?=some u->(pus0 us)[i*4+2]?=some u.kv/\(pus0 us)[i*4+3]?=some u.vv
 | [],i,u,h=>by simp at h
 | e::l,0,u,h=>by simp at h;subst h;exact ⟨rfl,rfl⟩
 | e::l,i+1,u,h=>by
  have:=pus0_at l i u (by simpa using h)
  rw [show (i+1)*4=i*4+1+1+1+1 by omega]
  exact this
theorem pus0_set:∀ (us:List Pu) (i:Nat) (u e:Pu),us[i]?=some u->e.kv=u.kv->e.vv=u.vv->pus0 (us.set i e)=pus0 us
 | [],i,u,e,h,_,_=>rfl
 | c::l,0,u,e,h,h3,h4=>by simp at h;subst h;simp only [pus0,sb_,List.flatMap_cons,h3,h4]
 | c::l,i+1,u,e,h,h3,h4=>by
  have:=pus0_set l i u e (by simpa using h) h3 h4
  simp only [pus0,sc_,List.flatMap_cons] at *
  rw [this]
theorem pus0_snoc (us:List Pu) (u:Pu):pus0 (us++[u])=pus0 us++[.pointer none,.pointer none,u.kv,u.vv]:=by simp [pus0]
def pms (us:List Pu):List Value:=us.map (λ u=>.pointer (some ⟨u.mx,0,none⟩))
theorem pms_at {us:List Pu} {i:Nat} {u:Pu} (h:us[i]?=some u):(pms us)[i]?=some (.pointer (some ⟨u.mx,0,none⟩)):=by unfold pms;rw [List.getElem?_map,h];rfl
theorem pms_set {us:List Pu} {i:Nat} {u e:Pu} (h:us[i]?=some u) (hm:e.mx=u.mx):pms (us.set i e)=pms us:=by
 unfold pms
 rw [List.map_set,hm]
 exact set_self14 (by rw [List.getElem?_map,h];rfl)
theorem pms_snoc (us:List Pu) (u:Pu):pms (us++[u])=pms us++[.pointer (some ⟨u.mx,0,none⟩)]:=by simp [pms]
def l8 (b14 b p:Nat) (C:Cf) (pv qv mv:Value) (us:List Pu) (es:List En) (sa sb:Ob):List Ob:=
 muBlk b14 37 (w14 b C pv (.slice none 0 0) (.slice none 0 0))::rowOb 111 4 pv us.length (pus0 us)::rowOb 107 1 qv us.length (pms us)::rowOb 46 2 mv es.length (enCells es)::grpOb (us.map (puX p C))::sa::sb::[]
section
variable {w0 w w':World} {b14 b p q n c:Nat} {A B:Ar} {C:Cf} {pv qv mv kv vv:Value} {us:List Pu} {es:List En} {sa sb:Ob} {S0:Nat->Prop} {key val:List UInt8} {u:Pu}
theorem Su.start8 (h:Su w0 w b p q A B (l14_0 b14 b C)):Su w0 w b p q A B (l8 b14 b p C (.slice none 0 0) (.slice none 0 0) (.slice none 0 0) [] [] (grpOb []) (grpOb [])):=by
 have h1:=h.trunc 7
 have h2:=h1.rowPut (i:=2) (e:=107) (size:=1) (n:=0) (v:=.slice none 0 0) (xs:=[]) rfl (Keeps.refl _ _) (Own.nil _ _ _ _)
 exact h2
theorem Su.new8 (h:Su w0 w b p q A B (l8 b14 b p C pv qv mv us es sa sb)) (hk:Byts w S0 kv key) (hv:Byts w S0 vv val) (hz:Sm 0 1 key.length) (hzv:Sm 0 1 val.length):Calls Tryz.prog 47 #[pV p,.agg #[.int .i64 C.nodes,.int .i64 C.leaf,.int .i64 C.inner,.int .i64 C.fill,.int .i64 C.block],kv,vv] w λ e w'=>∃ u:Pu,e=.returned (pV u.mx)/\(u.X=Pm.new key val/\u.kv=kv/\u.vv=vv)/\Su w0 w' b p q A B (muBlk b14 37 (w14 b C pv (.slice none 0 0) (.slice none 0 0))::rowOb 111 4 pv us.length (pus0 us)::rowOb 107 1 qv us.length (pms us)::rowOb 46 2 mv es.length (enCells es)::grpOb ((us++[u]).map (puX p C))::sa::sb::[]):=by
 refine (pnewX (p:=p) (C:=C) hk hv hz hzv).mono ?_
 rintro e w' ⟨m,dm,S',rfl,hX,hF,hkk⟩
 refine ⟨⟨m,dm,m,dm,S',S',Pm.new key val,Pm.new key val,kv,vv⟩,rfl,⟨rfl,rfl,rfl⟩,?_⟩
 rw [List.map_append]
 exact h.pushG (i:=4) (o:=pxOb p m dm S' C (Pm.new key val)) rfl hkk hX hF (λ x hx=>hx.imp id .inl)
end
def Wd (n:Nd):Prop:=K64 n.right/\∀ k ∈ n.kids,K64 k
def Wide64 (A:Ar):Prop:=∀ s ∈ A.sl,Wd s.nd
section
variable {A:Ar} {ix:Int}
theorem wdd_put {t:Sl} (h:Wide64 A) (ht:Wd t.nd):Wide64 (A.put ix t):=λ s hs=>by
 rcases List.mem_or_eq_of_mem_set hs with h1|h1
 ·exact h s h1
 ·rw [h1];exact ht
theorem wdd_get {t:Sl} (h:Wide64 A) (hg:A.get ix=some t):Wd t.nd:=by
 obtain ⟨_,_,h2,_⟩:=get_some hg
 exact h t (List.mem_of_getElem? h2)
theorem wdd_lock {wd:Nat} (h:Wide64 A):Wide64 (opLock A ix wd).2.2:=by
 unfold opLock;split
 ·exact h
 ·rename_i s hg
  split
  ·exact wdd_put h (show Wd s.nd from wdd_get h hg)
  ·exact h
theorem wdd_unlock {c:Bool} (h:Wide64 A):Wide64 (opUnlock A ix c).2:=by
 unfold opUnlock;split
 ·exact h
 ·rename_i s hg
  split
  ·exact h
  ·exact wdd_put h (show Wd s.nd from wdd_get h hg)
theorem wdd_setHead {n:Nd} (h:Wide64 A) (hn:Wd n):Wide64 (opSetHead A ix n).2:=by
 unfold opSetHead;split
 ·exact h
 ·rename_i s hg
  split
  ·exact h
  ·exact wdd_put h ⟨hn.1,(wdd_get h hg).2⟩
theorem wdd_setBody {n:Nd} (h:Wide64 A) (hn:Wd n):Wide64 (opSetBody A ix n).2:=by
 unfold opSetBody;split
 ·exact h
 ·rename_i s hg
  split
  ·exact h
  ·exact wdd_put h ⟨(wdd_get h hg).1,hn.2⟩
theorem wdd_grow {o:Int} (h:Wide64 A):Wide64 (opGrow A o ix).2.2:=by
 unfold opGrow;split
 ·exact h
 ·split<;>exact h
theorem wd_zero:Wd Nd.zero:=⟨by unfold K64;decide,λ k hk=>by simp [Nd.zero] at hk⟩
theorem wdd_alloc (h:Wide64 A):Wide64 (opAlloc A).2.2:=by
 unfold opAlloc;split
 ·exact h
 ·intro s hs
  rcases List.mem_append.1 hs with hs|hs
  ·exact h s hs
  ·simp at hs;subst hs;exact wd_zero
end
section
variable {a0 a1 a2 a3 a4 lv:Int} {A V:Ar} {ps:List Pm} {m:Pm} {ls:List Ch} {es:List Ent} {i:Nat} {n:Nd}
theorem k64_small {x:Int} (h1:0<=x) (h2:x<=65536):K64 x:=by
 unfold K64 Lit.wf
 rw [Bool.and_eq_true,decide_eq_true_eq,decide_eq_true_eq]
 exact ⟨by rw [show IntKind.i64.min=-9223372036854775808 from rfl];omega,by rw [show IntKind.i64.max=9223372036854775807 from rfl];omega⟩
theorem May.wd (h:May n a0 a1 a2) (ha:a0<=65536):Wd n:=by
 refine ⟨k64_small h.right.1 (by have:=h.right.2;omega),λ k hk=>?_⟩
 by_cases hl:n.lvl=0
 ·rw [(h.leaf hl).2.2.1] at hk;cases hk
 ·have:=(h.inner hl).2.1 k hk
  exact k64_small (by omega) (by omega)
theorem DInv.wide (h:DInv a0 a1 a2 a3 a4 A V ps lv ls es) (hm:ps[i]?=some m) (hn:m.nx<=20) (hw:Wide64 A) (h1:2<=a1) (h2:3<=a2) (ha:a0<=65536):Wide64 (stepP a1 a2 A m).2.1:=by
 have hmm:=List.mem_of_getElem? hm
 have hE:=h.each m hmm
 have hnw:3<=m.nx->m.nx<=13->m.nx≠5->May m.nw a0 (a1+1) (a2+1)/\(m.nx≠3->m.nx≠4->over m.nw a1 a2=true)/\∃ lw,lowBad lw m.nw=false:=λ g1 g2 g3=>by
  obtain ⟨n1,n2,n3,n4⟩:=hE.nw (by omega)
  obtain ⟨j,c,lw,hg⟩:=h.grip hmm g1 g2
  obtain ⟨w1,_,_,_,w5,_⟩:=h.newMay hmm g1 g2 (hE.at_ (by omega) g2).2 hg
  rw [<-n1] at w1 w5
  exact ⟨w1,n4,lw,w5⟩
 have hhalf:8<=m.nx->m.nx<=13->Wd m.left/\Wd m.right:=λ g1 g2=>by
  obtain ⟨w1,w2,lw,w3⟩:=hnw (by omega) g2 (by omega)
  obtain ⟨eL,eR,_⟩:=hE.halves g1 g2
  obtain ⟨f1,f2,f3⟩:=hE.own m.fresh (by rw [own_fresh g1 g2];exact List.mem_singleton.2 rfl)
  have hr:=h.room
  have hv:=h.vof.len
  have H:=halves_ok w1 (w2 (by omega) (by omega)) h1 h2 (x:=m.fresh) ⟨f2,by omega⟩ w3
  rw [eL,eR]
  exact ⟨H.mayL.wd ha,H.mayR.wd ha⟩
 have hrt:16<=m.nx->m.nx<=19->Wd (rootNd m):=λ g1 g2=>by
  have h3:0 < m.level:=by
   have:=(h.inv.each m hmm).2.2.2
   have hcase:m.nx=16\/m.nx=17\/m.nx=18\/m.nx=19:=by omega
   rcases hcase with e|e|e|e<;>rw [e] at this<;>first|exact this|exact this.1
  have hp:=(hE.pend ⟨by omega,by omega⟩ h3).ids
  have hr:=h.room
  have hv:=h.vof.len
  have m1:=h.tree.met.2 _ hp.1
  have m2:=h.tree.met.2 _ hp.2
  refine ⟨k64_small (Int.le_refl _) (by show (0:Int)<=65536;decide),λ k hk=>?_⟩
  rcases List.mem_cons.1 (show k ∈ [m.side,m.half] from hk) with e|hk
  ·rw [e];exact k64_small (by omega) (by omega)
  ·rw [List.mem_singleton.1 hk];exact k64_small (by omega) (by omega)
 have hon:∀ (B:Ar) (e:Int) (k:Nat),(onP B m e k).2.1=B:=λ B e k=>by unfold onP;split<;>rfl
 have hgives:Wide64 (givesP A m).2.1:=by
  have:=wdd_unlock (ix:=m.id) (c:=decide (m.nx=4)) hw
  unfold givesP
  simp only
  split
  ·exact this
  ·split
   ·exact this
   ·exact this
 have hslot:Wide64 (slotP A m).2.1:=by
  have:=wdd_alloc hw
  unfold slotP
  simp only
  split
  ·exact this
  ·split
   ·exact this
   ·split
    ·exact this
    ·exact this
 unfold stepP
 split
 any_goals exact hgives
 any_goals exact hslot
 ·exact hw
 ·unfold downP
  split
  ·exact hw
  ·split
   ·simp only
    split
    ·exact hw
    ·split
     ·exact hw
     ·exact hw
   ·exact hw
 ·have:=wdd_lock (ix:=m.id) (wd:=m.word) hw
  unfold lockP
  simp only
  split
  ·exact this
  ·split
   ·exact this
   ·split
    ·exact this
    ·split
     ·exact this
     ·exact this
 ·show Wide64 (onP (opSetBody A m.id m.nw).2 m (opSetBody A m.id m.nw).1 4).2.1;rw [hon];exact wdd_setBody hw ((hnw (by omega) (by omega) (by omega)).1.wd ha)
 ·show Wide64 (onP (opSetHead A m.fresh m.right).2 m (opSetHead A m.fresh m.right).1 9).2.1;rw [hon];exact wdd_setHead hw (hhalf (by omega) (by omega)).2
 ·show Wide64 (onP (opSetBody A m.fresh m.right).2 m (opSetBody A m.fresh m.right).1 10).2.1;rw [hon];exact wdd_setBody hw (hhalf (by omega) (by omega)).2
 ·show Wide64 (onP (opUnlock A m.fresh true).2 m (opUnlock A m.fresh true).1 11).2.1;rw [hon];exact wdd_unlock hw
 ·show Wide64 (onP (opSetHead A m.id m.left).2 m (opSetHead A m.id m.left).1 12).2.1;rw [hon];exact wdd_setHead hw (hhalf (by omega) (by omega)).1
 ·show Wide64 (onP (opSetBody A m.id m.left).2 m (opSetBody A m.id m.left).1 13).2.1;rw [hon];exact wdd_setBody hw (hhalf (by omega) (by omega)).1
 ·have:=wdd_unlock (ix:=m.id) (c:=true) hw
  simp only
  split
  ·exact this
  ·exact this
 ·split
  ·exact hw
  ·exact hw
 ·show Wide64 (onP (opSetHead A m.root (rootNd m)).2 m (opSetHead A m.root (rootNd m)).1 17).2.1;rw [hon];exact wdd_setHead hw (hrt (by omega) (by omega))
 ·show Wide64 (onP (opSetBody A m.root (rootNd m)).2 m (opSetBody A m.root (rootNd m)).1 18).2.1;rw [hon];exact wdd_setBody hw (hrt (by omega) (by omega))
 ·show Wide64 (onP (opUnlock A m.root true).2 m (opUnlock A m.root true).1 19).2.1;rw [hon];exact wdd_unlock hw
 ·have:=wdd_grow (ix:=m.root) (o:=m.side) hw
  simp only
  split
  ·exact this
  ·exact this
 ·exact hw
theorem DInv.rootIn (h:DInv a0 a1 a2 a3 a4 A V ps lv ls es):1<=A.root/\A.root<=A.sl.length:=by
 obtain ⟨c,hc⟩:∃ c,ls[0]?=some c:=⟨_,List.getElem?_eq_getElem (by have:=h.tree.ti.len;have:=h.tree.lv0;omega)⟩
 obtain ⟨r,e⟩:=(h.tree.ti.top c hc).head_
 have hin:V.root ∈ ids ls:=mem_ids.2 ⟨0,c,[],hc,by rw [e];exact List.mem_cons_self⟩
 have:=h.tree.met.2 _ hin
 rw [h.vof.root,<-h.vof.len]
 exact this
end
def rpV (r:Rp):Array Value:=#[.bool r.sound,.int .i64 r.node,.int .i64 r.err,.int .i64 r.levels,.int .i64 r.nodes,.int .i64 r.entries]
section
variable {w:World} {S:Nat->Prop} {v:Value} {l:List Int} {x:Int}
end
section
variable {w w':World} {l:List Ob} {i n m size:Nat} {o:Ob} {e t:TypeId} {v v':Value} {xs ys:List Value} {g:Nat} {cs:Array Value}
theorem Fam.nob0 (h:Fam w Nob l) (k:Keeps Nob w w'):Fam w' Nob l:=h.nob k
theorem Fam.alloc' (h:Fam w Nob l) (hg:g=w.heap.size):Fam (w.alloc (.cells cs t)) Nob (l++[muBlk g t cs]):=by
 subst hg
 exact h.add (Keeps.alloc _ _ _) (Blk.new _ _ _) (λ x hx=>by rw [show x=w.heap.size from hx];exact ⟨Nat.le_refl _,by simp⟩) (λ _ h=>h)
theorem Fam.allocAt (h:Fam w Nob l) (hi:l[i]?=some o) (k:Keeps Nob w w') (hb:Blk w' g t cs) (hg:w.heap.size<=g):Fam w' Nob (l.set i (muBlk g t cs)):=
 h.wr hi k (λ _ _ h=>h.elim) hb (λ x hx=>.inr (by rw [show x=g from hx];exact ⟨hg,hb.lt⟩)) (λ x hx=>.inr (by rw [show x=g from hx];exact ⟨hg,hb.lt⟩)) (λ _ h=>h)
theorem Fam.nilRow (h:Fam w Nob l) (e:TypeId) (size:Nat):Fam w Nob (l++[rowOb e size (.slice none 0 0) 0 []]):=
 h.add (Keeps.refl _ _) (Own.nil _ _ _ _) (λ x hx=>by cases hx) (λ _ h=>h)
theorem Fam.addNo (h:Fam w Nob l):Fam w Nob (l++[noOb]):=h.add (Keeps.refl _ _) trivial (λ x h=>h.elim) (λ x h=>h.elim)
theorem Fam.app0 (h:Fam w Nob l) (hi:l[i]?=some (rowOb e size v n xs)) (k:Keeps (λ b=>v.ownBlock=some b) w w') (ho:Own w' (λ b=>v.ownBlock=some b\/Fresh w w' b) e size v' m ys):Fam w' Nob (l.set i (rowOb e size v' m ys)):=
 h.wr hi k (λ _ _ h=>h) ho.self (λ x hx=>(ho.blk hx).1) (λ x hx=>(ho.blk hx).1) (λ _ h=>h)
theorem Fam.setBlk {cs':Array Value} (h:Fam w Nob l) (hi:l[i]?=some (muBlk g t cs)) (k:Keeps (λ x=>x=g) w w') (hb:Blk w' g t cs'):Fam w' Nob (l.set i (muBlk g t cs')):=
 h.wr hi k (λ x _ e=>e) hb (λ x hx=>.inl hx) (λ x hx=>.inl hx) (λ _ h=>h)
theorem Fam.swap {o':Ob} (h:Fam w Nob l) (hi:l[i]?=some o) (hP:o'.P w) (hF:∀ x,o'.F x->o.F x) (hw:∀ x,¬o'.W x):Fam w Nob (l.set i o'):=
 h.wr hi (Keeps.refl Nob w) (λ _ _ h=>h.elim) hP (λ x hx=>.inl (hF x hx)) (λ x hx=>absurd hx (hw x)) (λ x hx=>absurd hx (hw x))
end
section
variable {P:Program} {ops:Array Oper} {Q:Exit->Act->World->Prop} {md:Region.Mode} {k:Nat} {C:World->Prop}
theorem wpCanon_skip {i:Nat} {rest:List Nat} {listed:Array Bool} {a:Act} {w:World} {o:Oper} (ho':ops.toList[i]?=some o)
  (hr:early md ops k i o=true) (hw:Region.wanted o (yielded ops a.tmps)=false) (h:wpCanon P md ops Q k C rest (listed.setIfInBounds i true) (a.put o.dst undef) w):wpCanon P md ops Q k C (i::rest) listed a w:=by
 have ho:ops[i]?=some o:=by rw [<-Array.getElem?_toList];exact ho'
 simp only [wpCanon,ho]
 rw [if_pos hr]
 exact ⟨undef,.inr ⟨hw,rfl⟩,h⟩
end
section
variable {S T:Nat->Prop} {w:World} {a c0 c1 c2 c3 c4 c5:Value} {n:Nd} {x:List UInt8}
end
section
variable {S T:Nat->Prop} {w:World} {a c0 c1 c2 c3 c4 c5:Value} {n:Nd} {x:List UInt8}
end
section
variable {S T:Nat->Prop} {w:World} {a c0 c1 c2 c3 c4 c5:Value} {n:Nd} {x:List UInt8}
end
abbrev oL (b:Nat) (x y:Value):Ob:=muBlk b 169 #[x,y]
section
variable {w:World} {M D:Nat->Prop} {q:Nat} {L:Value} {xs:List Value} {A:Ar} {a0 a1 a2 a3 a4 first level:Int} {mv:Value} {met0:List Int}
end
def kidsIn (down:Ch) (low:List UInt8) (n:Nd) (k:Nat):Bool:=(List.range k).all (λ k=>kidOk down (n.kids.getD k 0) (wantLow low n k))
theorem kidsIn_succ {down:Ch} {low:List UInt8} {n:Nd} {k:Nat}:kidsIn down low n (k+1)=(kidsIn down low n k&&kidOk down (n.kids.getD k 0) (wantLow low n k)):=by
 unfold kidsIn
 rw [List.range_succ,List.all_append]
 simp
theorem kidsIn_not {down:Ch} {low:List UInt8} {n:Nd} {k:Nat} (hk:k < n.kids.length) (h:kidOk down (n.kids.getD k 0) (wantLow low n k)=false):nodeKids down low n=false:=by
 unfold nodeKids
 rw [List.all_eq_false]
 exact ⟨k,List.mem_range.2 hk,by rw [h];decide⟩
theorem kidsM_drop {A:Ar} {down up:Ch} {i:Nat} {id:Int} {low:List UInt8} (h:up[i]?=some (id,low)):kidsM A down (up.drop i)=if nodeKids down low (opNd A id)=true then kidsM A down (up.drop (i+1)) else .wrong id 113:=by
 obtain ⟨hi,e⟩:=List.getElem?_eq_some_iff.1 h
 rw [List.drop_eq_getElem_cons hi,e]
 rfl
section
variable {w:World} {M D F F':Nat->Prop} {q:Nat} {L:Value} {xs:List Value} {A:Ar} {up down:Ch} {Uv Uw Nv Nw:Value}
end
section
variable {w w':World} {l:List Ob} {i j n m size:Nat} {a b:Ob} {e:TypeId} {v v':Value} {xs ys:List Value} {F M D:Nat->Prop} {q:Nat} {L Lv Lw:Value} {zs:List Value} {A:Ar} {c:Ch}
theorem Fam.two {G:Nat->Prop} (h:Fam w G l) (hi:l[i]?=some a) (hj:l[j]?=some b) (hij:i≠j):Fam w G [a,b]:=by
 have hcase:∀ (k:Nat) u,[a,b][k]?=some u->(k=0/\u=a)\/(k=1/\u=b):=λ k u hk=>by
  match k,hk with
  | 0,hk=>simp at hk;exact .inl ⟨rfl,hk.symm⟩
  | 1,hk=>simp at hk;exact .inr ⟨rfl,hk.symm⟩
  | k+2,hk=>simp at hk
 refine ⟨λ k u hk=>?_,λ k u hk=>?_,λ k u hk=>?_,λ k u hk=>?_,λ k k' u u' hk hk' hne=>?_⟩
 ·rcases hcase k u hk with ⟨_,rfl⟩|⟨_,rfl⟩
  ·exact h.ok i _ hi
  ·exact h.ok j _ hj
 ·rcases hcase k u hk with ⟨_,rfl⟩|⟨_,rfl⟩
  ·exact h.old i _ hi
  ·exact h.old j _ hj
 ·rcases hcase k u hk with ⟨_,rfl⟩|⟨_,rfl⟩
  ·exact h.wf i _ hi
  ·exact h.wf j _ hj
 ·rcases hcase k u hk with ⟨_,rfl⟩|⟨_,rfl⟩
  ·exact h.off i _ hi
  ·exact h.off j _ hj
 ·rcases hcase k u hk with ⟨rfl,rfl⟩|⟨rfl,rfl⟩
  ·rcases hcase k' u' hk' with ⟨rfl,rfl⟩|⟨rfl,rfl⟩
   ·exact absurd rfl hne
   ·exact h.apart i j _ _ hi hj hij
  ·rcases hcase k' u' hk' with ⟨rfl,rfl⟩|⟨rfl,rfl⟩
   ·exact h.apart j i _ _ hj hi (λ e=>hij e.symm)
   ·exact absurd rfl hne
theorem Chn.nodes {chk:Nd->Int} {a0 a1 a2 level first:Int} {low:List UInt8} (hmay:∀ n,chk n=0->May n a0 a1 a2) (h:Chn A chk level first low c):∀ x ∈ c,∃ s,A.get x.1=some s/\s.nd.kids.length<=s.nd.keys.length+1:=λ x hx=>by
 obtain ⟨c',h',_⟩:=h.mem hx
 obtain ⟨s,r,_,hs,hl,hk,_⟩:=h'.at_
 refine ⟨s,hs,?_⟩
 have hm:=hmay _ hk
 by_cases h0:s.nd.lvl=0
 ·rw [(hm.leaf h0).2.2.1];simp
 ·rw [(hm.inner h0).2.2.2.1];exact Nat.le_refl _
end
section
variable {A:Ar} {c:Ch}
theorem Own.at2 {w:World} {S:Nat->Prop} {e:TypeId} {size n c j:Nat} {A:Option Addr} {xs:List Value} {y:Value} (h:Own w S e size (.slice A n c) n xs) (hn:0 < n) (hj:xs[j]?=some y):∃ g o,A=some ⟨g,o,none⟩/\w.cell? ⟨g,o+j,none⟩=some y:=by
 obtain ⟨_,_,hf⟩:=h.at_
 rcases hf with ⟨_,e⟩|⟨g',o',cur,e,_,hb,_,hx⟩
 ·omega
 ·exact ⟨g',o',e,by rw [hb.cell];exact hx _ _ hj⟩
end
end Go.Proofs.YtjcgphhpaenjkaaGreat

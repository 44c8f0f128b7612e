import Derived.Test.YtjcgphhpaenjkaaPkD7
import Derived.Deep.Cut
set_option linter.unusedVariables false
namespace Go.Proofs.Ytjcgphhpaenjkaa
open Go.RowKit
def Ln (w0 w:World) (p m:Nat) (C:Cf) (A:Ar) (P:Pm):Prop:=
 ∃ G dm S,JX w G Fr.no p A/\PX w m dm p S C P/\(∀ x,x=m\/x=dm\/S x->¬G x)/\(∀ x,S x->x < w.heap.size)/\(∀ x,G x\/x=m\/x=dm->w0.heap.size<=x)/\Keeps Nob w0 w
def La (w0 w:World) (p:Nat) (A:Ar):Prop:=∃ G,JX w G Fr.no p A/\(∀ x,G x->w0.heap.size<=x)/\Keeps Nob w0 w
section
variable {w0 w w':World} {p m:Nat} {C:Cf} {A:Ar} {P:Pm} {S:Nat->Prop} {kv vv:Value} {key val:List UInt8}
theorem Ln.arena (h:Ln w0 w p m C A P):La w0 w p A:=by
 obtain ⟨G,dm,S,hJ,hP,off,old,hlo,hk⟩:=h
 exact ⟨G,hJ,λ x hx=>hlo x (.inl hx),hk⟩
theorem La.nob (h:La w0 w p A) (k:Keeps Nob w w'):La w0 w' p A:=by
 obtain ⟨G,hJ,hlo,hk⟩:=h
 exact ⟨G,hJ.nob k,hlo,hk.trans k (λ _ _ h=>h)⟩
theorem Ln.step (h:Ln w0 w p m C A P) (ok:POk A P) (hn:P.nx<=20):Calls Try.prog 9 #[pV m] w λ e w'=>e=.returned (.tuple #[.bool (stepP C.leaf C.inner A P).1.1,.bool (stepP C.leaf C.inner A P).1.2])/\Ln w0 w' p m C (stepP C.leaf C.inner A P).2.1 (stepP C.leaf C.inner A P).2.2:=by
 obtain ⟨G,dm,S,hJ,hP,off,old,hlo,hk⟩:=h
 refine (stepPX hJ off hP ok old hn).mono ?_
 rintro e w' ⟨rfl,G',dm',S',hJ',hs,hk',hP',hF,hD⟩
 have hm:=hP.lt
 have hsz:=hk'.size
 have hsz0:=hk.size
 refine ⟨rfl,G',dm',S',hJ',hP',λ x hx hg=>?_,λ x hx=>?_,λ x hx=>?_,hk.trans hk' (λ x h0 hx=>?_)⟩
 ·rcases hx with hx|hx
  ·exact off x (.inl hx) (hs x hg)
  ·rcases hF x hx with h1|h1
   ·exact off x h1 (hs x hg)
   ·exact h1.2 hg
 ·rcases hF x (.inr hx) with h1|h1
  ·rcases h1 with rfl|rfl|h1
   ·omega
   ·have h2:¬w'.heap.size<=x:=λ h=>off x (.inr (.inl rfl)) (hJ.new x (by omega))
    omega
   ·have:=old x h1;omega
  ·exact h1.1.2
 ·rcases hx with hx|hx|hx
  ·exact hlo x (.inl (hs x hx))
  ·exact hlo x (.inr (.inl hx))
  ·rcases hD with h1|h1
   ·exact hlo x (.inr (.inr (hx.trans h1)))
   ·have h2:=h1.1;omega
 ·exact absurd h0 (Nat.not_lt.2 (hlo x hx))
theorem La.put (h:La w0 w p A) (hk:Byts w S kv key) (hv:Byts w S vv val) (hz:Sm 0 1 key.length) (hzv:Sm 0 1 val.length):Calls Try.prog 8 #[pV p,.agg #[.int .i64 C.nodes,.int .i64 C.leaf,.int .i64 C.inner,.int .i64 C.fill,.int .i64 C.block],kv,vv] w λ e w'=>∃ m,e=.returned (pV m)/\Ln w0 w' p m C A (Pm.new key val):=by
 obtain ⟨G,hJ,hlo,hk0⟩:=h
 refine (pnewX hk hv hz hzv).mono ?_
 rintro e w' ⟨m,dm,S',rfl,hP,hF,hk'⟩
 have hsz0:=hk0.size
 refine ⟨m,rfl,Shr G w w',dm,S',hJ.shr hk' (λ _ _ _ h=>h),hP,λ x hx hg=>hg.2 (hF x hx),λ x hx=>(hF x (.inr (.inr hx))).2,λ x hx=>?_,hk0.trans hk' (λ _ _ h=>h)⟩
 rcases hx with hx|hx|hx
 ·exact hlo x hx.1
 ·have:=(hF x (.inl hx)).1;omega
 ·have:=(hF x (.inr (.inl hx))).1;omega
theorem La.new (n:Nat) (h1:1<=n) (h2:n<=65536) (w:World):Calls Try.prog 7 #[iV n] w λ e w'=>∃ p,e=.returned (.tuple #[pV p,iV 0])/\La w w' p (ar0 n):=by
 refine (new_ok w h1 h2).mono ?_
 rintro e w' ⟨rfl,hX,hk⟩
 exact ⟨_,rfl,From w.heap.size,⟨⟨_,_,hX,λ x hx=>⟨hx.1,id⟩,λ x hx=>hx.elim⟩,trivial,λ x hx=>hx.elim,λ x hx=>Nat.le_trans hk.size hx,λ s hs=>by rw [show s=⟨0,Nd.zero⟩ from List.mem_singleton.1 hs];exact sm_zero⟩,λ x hx=>hx,hk⟩
end
def Wd (n:Nd):Prop:=K64 n.right/\∀ k ∈ n.kids,K64 k
def Wide64 (A:Ar):Prop:=∀ s ∈ A.sl,Wd s.nd
section
variable {A:Ar} {ix:Int}
theorem wdd_put {t:Sl} (h:Wide64 A) (ht:Wd t.nd):Wide64 (A.put ix t):=λ s hs=>by
 rcases List.mem_or_eq_of_mem_set hs with h1|h1
 ·exact h s h1
 ·rw [h1];exact ht
theorem wdd_get {t:Sl} (h:Wide64 A) (hg:A.get ix=some t):Wd t.nd:=by
 obtain ⟨_,_,h2,_⟩:=get_some hg
 exact h t (List.mem_of_getElem? h2)
theorem wdd_lock {wd:Nat} (h:Wide64 A):Wide64 (opLock A ix wd).2.2:=by
 unfold opLock;split
 ·exact h
 ·rename_i s hg
  split
  ·exact wdd_put h (show Wd s.nd from wdd_get h hg)
  ·exact h
theorem wdd_unlock {c:Bool} (h:Wide64 A):Wide64 (opUnlock A ix c).2:=by
 unfold opUnlock;split
 ·exact h
 ·rename_i s hg
  split
  ·exact h
  ·exact wdd_put h (show Wd s.nd from wdd_get h hg)
theorem wdd_setHead {n:Nd} (h:Wide64 A) (hn:Wd n):Wide64 (opSetHead A ix n).2:=by
 unfold opSetHead;split
 ·exact h
 ·rename_i s hg
  split
  ·exact h
  ·exact wdd_put h ⟨hn.1,(wdd_get h hg).2⟩
theorem wdd_setBody {n:Nd} (h:Wide64 A) (hn:Wd n):Wide64 (opSetBody A ix n).2:=by
 unfold opSetBody;split
 ·exact h
 ·rename_i s hg
  split
  ·exact h
  ·exact wdd_put h ⟨(wdd_get h hg).1,hn.2⟩
theorem wdd_grow {o:Int} (h:Wide64 A):Wide64 (opGrow A o ix).2.2:=by
 unfold opGrow;split
 ·exact h
 ·split<;>exact h
theorem wd_zero:Wd Nd.zero:=⟨by unfold K64;decide,λ k hk=>by simp [Nd.zero] at hk⟩
theorem wdd_alloc (h:Wide64 A):Wide64 (opAlloc A).2.2:=by
 unfold opAlloc;split
 ·exact h
 ·intro s hs
  rcases List.mem_append.1 hs with hs|hs
  ·exact h s hs
  ·simp at hs;subst hs;exact wd_zero
end
def rpV (r:Rp):Array Value:=#[.bool r.sound,.int .i64 r.node,.int .i64 r.err,.int .i64 r.levels,.int .i64 r.nodes,.int .i64 r.entries]
section
variable {w:World} {S:Nat->Prop} {v:Value} {l:List Int} {x:Int}
end
section
variable {w w':World} {l:List Ob} {i n m size:Nat} {o:Ob} {e t:TypeId} {v v':Value} {xs ys:List Value} {g:Nat} {cs:Array Value}
theorem Fam.nob0 (h:Fam w Nob l) (k:Keeps Nob w w'):Fam w' Nob l:=h.nob k
theorem Fam.alloc' (h:Fam w Nob l) (hg:g=w.heap.size):Fam (w.alloc (.cells cs t)) Nob (l++[muBlk g t cs]):=by
 subst hg
 exact h.add (Keeps.alloc _ _ _) (Blk.new _ _ _) (λ x hx=>by rw [show x=w.heap.size from hx];exact ⟨Nat.le_refl _,by simp⟩) (λ _ h=>h)
theorem Fam.allocAt (h:Fam w Nob l) (hi:l[i]?=some o) (k:Keeps Nob w w') (hb:Blk w' g t cs) (hg:w.heap.size<=g):Fam w' Nob (l.set i (muBlk g t cs)):=
 h.wr hi k (λ _ _ h=>h.elim) hb (λ x hx=>.inr (by rw [show x=g from hx];exact ⟨hg,hb.lt⟩)) (λ x hx=>.inr (by rw [show x=g from hx];exact ⟨hg,hb.lt⟩)) (λ _ h=>h)
theorem Fam.nilRow (h:Fam w Nob l) (e:TypeId) (size:Nat):Fam w Nob (l++[rowOb e size (.slice none 0 0) 0 []]):=
 h.add (Keeps.refl _ _) (Own.nil _ _ _ _) (λ x hx=>by cases hx) (λ _ h=>h)
theorem Fam.addNo (h:Fam w Nob l):Fam w Nob (l++[noOb]):=h.add (Keeps.refl _ _) trivial (λ x h=>h.elim) (λ x h=>h.elim)
theorem Fam.app0 (h:Fam w Nob l) (hi:l[i]?=some (rowOb e size v n xs)) (k:Keeps (λ b=>v.ownBlock=some b) w w') (ho:Own w' (λ b=>v.ownBlock=some b\/Fresh w w' b) e size v' m ys):Fam w' Nob (l.set i (rowOb e size v' m ys)):=
 h.wr hi k (λ _ _ h=>h) ho.self (λ x hx=>(ho.blk hx).1) (λ x hx=>(ho.blk hx).1) (λ _ h=>h)
theorem Fam.setBlk {cs':Array Value} (h:Fam w Nob l) (hi:l[i]?=some (muBlk g t cs)) (k:Keeps (λ x=>x=g) w w') (hb:Blk w' g t cs'):Fam w' Nob (l.set i (muBlk g t cs')):=
 h.wr hi k (λ x _ e=>e) hb (λ x hx=>.inl hx) (λ x hx=>.inl hx) (λ _ h=>h)
theorem Fam.swap {o':Ob} (h:Fam w Nob l) (hi:l[i]?=some o) (hP:o'.P w) (hF:∀ x,o'.F x->o.F x) (hw:∀ x,¬o'.W x):Fam w Nob (l.set i o'):=
 h.wr hi (Keeps.refl Nob w) (λ _ _ h=>h.elim) hP (λ x hx=>.inl (hF x hx)) (λ x hx=>absurd hx (hw x)) (λ x hx=>absurd hx (hw x))
end
section
variable {P:Program} {ops:Array Oper} {Q:Exit->Act->World->Prop} {md:Region.Mode} {k:Nat} {C:World->Prop}
theorem wpCanon_skip {i:Nat} {rest:List Nat} {listed:Array Bool} {a:Act} {w:World} {o:Oper} (ho':ops.toList[i]?=some o)
  (hr:early md ops k i o=true) (hw:Region.wanted o (yielded ops a.tmps)=false) (h:wpCanon P md ops Q k C rest (listed.setIfInBounds i true) (a.put o.dst undef) w):wpCanon P md ops Q k C (i::rest) listed a w:=by
 have ho:ops[i]?=some o:=by rw [<-Array.getElem?_toList];exact ho'
 simp only [wpCanon,ho]
 rw [if_pos hr]
 exact ⟨undef,.inr ⟨hw,rfl⟩,h⟩
end
section
variable {S T:Nat->Prop} {w:World} {a c0 c1 c2 c3 c4 c5:Value} {n:Nd} {x:List UInt8}
end
section
variable {S T:Nat->Prop} {w:World} {a c0 c1 c2 c3 c4 c5:Value} {n:Nd} {x:List UInt8}
end
section
variable {S T:Nat->Prop} {w:World} {a c0 c1 c2 c3 c4 c5:Value} {n:Nd} {x:List UInt8}
end
section
variable {w:World} {M D:Nat->Prop} {q:Nat} {L:Value} {xs:List Value} {A:Ar} {a0 a1 a2 a3 a4 first level:Int} {mv:Value} {met0:List Int}
end
def kidsIn (down:Ch) (low:List UInt8) (n:Nd) (k:Nat):Bool:=(List.range k).all (λ k=>kidOk down (n.kids.getD k 0) (wantLow low n k))
theorem kidsIn_succ {down:Ch} {low:List UInt8} {n:Nd} {k:Nat}:kidsIn down low n (k+1)=(kidsIn down low n k&&kidOk down (n.kids.getD k 0) (wantLow low n k)):=by
 unfold kidsIn
 rw [List.range_succ,List.all_append]
 simp
theorem kidsIn_not {down:Ch} {low:List UInt8} {n:Nd} {k:Nat} (hk:k < n.kids.length) (h:kidOk down (n.kids.getD k 0) (wantLow low n k)=false):nodeKids down low n=false:=by
 unfold nodeKids
 rw [List.all_eq_false]
 exact ⟨k,List.mem_range.2 hk,by rw [h];decide⟩
theorem kidsM_drop {A:Ar} {down up:Ch} {i:Nat} {id:Int} {low:List UInt8} (h:up[i]?=some (id,low)):kidsM A down (up.drop i)=if nodeKids down low (opNd A id)=true then kidsM A down (up.drop (i+1)) else .wrong id 113:=by
 obtain ⟨hi,e⟩:=List.getElem?_eq_some_iff.1 h
 rw [List.drop_eq_getElem_cons hi,e]
 rfl
section
variable {w:World} {M D F F':Nat->Prop} {q:Nat} {L:Value} {xs:List Value} {A:Ar} {up down:Ch} {Uv Uw Nv Nw:Value}
end
section
variable {w w':World} {l:List Ob} {i j n m size:Nat} {a b:Ob} {e:TypeId} {v v':Value} {xs ys:List Value} {F M D:Nat->Prop} {q:Nat} {L Lv Lw:Value} {zs:List Value} {A:Ar} {c:Ch}
theorem Fam.two {G:Nat->Prop} (h:Fam w G l) (hi:l[i]?=some a) (hj:l[j]?=some b) (hij:i≠j):Fam w G [a,b]:=by
 have hcase:∀ (k:Nat) u,[a,b][k]?=some u->(k=0/\u=a)\/(k=1/\u=b):=λ k u hk=>by
  match k,hk with
  | 0,hk=>simp at hk;exact .inl ⟨rfl,hk.symm⟩
  | 1,hk=>simp at hk;exact .inr ⟨rfl,hk.symm⟩
  | k+2,hk=>simp at hk
 refine ⟨λ k u hk=>?_,λ k u hk=>?_,λ k u hk=>?_,λ k u hk=>?_,λ k k' u u' hk hk' hne=>?_⟩
 ·rcases hcase k u hk with ⟨_,rfl⟩|⟨_,rfl⟩
  ·exact h.ok i _ hi
  ·exact h.ok j _ hj
 ·rcases hcase k u hk with ⟨_,rfl⟩|⟨_,rfl⟩
  ·exact h.old i _ hi
  ·exact h.old j _ hj
 ·rcases hcase k u hk with ⟨_,rfl⟩|⟨_,rfl⟩
  ·exact h.wf i _ hi
  ·exact h.wf j _ hj
 ·rcases hcase k u hk with ⟨_,rfl⟩|⟨_,rfl⟩
  ·exact h.off i _ hi
  ·exact h.off j _ hj
 ·rcases hcase k u hk with ⟨rfl,rfl⟩|⟨rfl,rfl⟩
  ·rcases hcase k' u' hk' with ⟨rfl,rfl⟩|⟨rfl,rfl⟩
   ·exact absurd rfl hne
   ·exact h.apart i j _ _ hi hj hij
  ·rcases hcase k' u' hk' with ⟨rfl,rfl⟩|⟨rfl,rfl⟩
   ·exact h.apart j i _ _ hj hi (λ e=>hij e.symm)
   ·exact absurd rfl hne
theorem Chn.nodes {chk:Nd->Int} {a0 a1 a2 level first:Int} {low:List UInt8} (hmay:∀ n,chk n=0->May n a0 a1 a2) (h:Chn A chk level first low c):∀ x ∈ c,∃ s,A.get x.1=some s/\s.nd.kids.length<=s.nd.keys.length+1:=λ x hx=>by
 obtain ⟨c',h',_⟩:=h.mem hx
 obtain ⟨s,r,_,hs,hl,hk,_⟩:=h'.at_
 refine ⟨s,hs,?_⟩
 have hm:=hmay _ hk
 by_cases h0:s.nd.lvl=0
 ·rw [(hm.leaf h0).2.2.1];simp
 ·rw [(hm.inner h0).2.2.2.1];exact Nat.le_refl _
end
section
variable {A:Ar} {c:Ch}
theorem Own.at2 {w:World} {S:Nat->Prop} {e:TypeId} {size n c j:Nat} {A:Option Addr} {xs:List Value} {y:Value} (h:Own w S e size (.slice A n c) n xs) (hn:0 < n) (hj:xs[j]?=some y):∃ g o,A=some ⟨g,o,none⟩/\w.cell? ⟨g,o+j,none⟩=some y:=by
 obtain ⟨_,_,hf⟩:=h.at_
 rcases hf with ⟨_,e⟩|⟨g',o',cur,e,_,hb,_,hx⟩
 ·omega
 ·exact ⟨g',o',e,by rw [hb.cell];exact hx _ _ hj⟩
end
def wrongV (id err:Int):Value:=.iface 85 (.agg #[.int .i64 id,.int .i64 err])
theorem needOk (w:World) (id err:Int):Calls Try.prog 54 #[.bool true,.int .i64 id,.int .i64 err] w λ e w'=>e=.returned (.tuple #[])/\w'=w:=by
 go_enter Try.func54,Try.ntmps54
 go_wp2
 exact ⟨rfl,_,results_none rfl _ _ _,rfl,rfl⟩
theorem needNo (w:World) (id err:Int):Calls Try.prog 54 #[.bool false,.int .i64 id,.int .i64 err] w λ e w'=>e=.panicked [{v:=wrongV id err,recovered:=false}]/\w'=w:=by
 unfold wrongV
 go_enter Try.func54,Try.ntmps54
 go_wp2
 exact ⟨rfl,rfl,rfl⟩
section
variable {w:World} {M D:Nat->Prop} {p:Nat} {slots:Value} {ids:List Nat} {A:Ar} {ix:Int}
theorem opErr_is (A:Ar) (ix:Int):(opErr A ix=0/\(A.get ix).isSome=true)\/(opErr A ix=101/\(A.get ix).isSome=false):=by
 rcases hg:A.get ix with _|s
 ·exact .inr ⟨opErr_none hg,rfl⟩
 ·exact .inl ⟨opErr_some hg,rfl⟩
theorem readO (h:ArW w M D p slots ids A) (hsm:∀ s ∈ A.sl,NdSm 0 s.nd):Calls Try.prog 35 #[pV p,.int .i64 ix] w λ e w'=>∃ X1 k1 X3 k3 X4 k4 X5 k5,e=.returned (.tuple #[.agg #[.int .i64 (opNd A ix).lvl,.slice X1 (opNd A ix).high.length k1,.int .i64 (opNd A ix).right,.slice X3 (opNd A ix).keys.length k3,.slice X4 (opNd A ix).vals.length k4,.slice X5 (opNd A ix).kids.length k5],.bool (A.get ix).isSome])/\ONd w' (Fresh w w') (.int .i64 (opNd A ix).lvl) (.slice X1 (opNd A ix).high.length k1) (.int .i64 (opNd A ix).right) (.slice X3 (opNd A ix).keys.length k3) (.slice X4 (opNd A ix).vals.length k4) (.slice X5 (opNd A ix).kids.length k5) (opNd A ix)/\Keeps Nob w w':=by
 have H:=Hd h
 have HS:=Hd hsm
 clear h hsm
 have FH:=λ wx (h:ArW wx M D p slots ids A)=>headX (ix:=ix) h HS.out
 have FB:=λ wx (h:ArW wx M D p slots ids A)=>bodyX (ix:=ix) h HS.out
 unfold pV iV at FH FB
 rcases opErr_is A ix with ⟨h1,h2⟩|⟨h1,h2⟩<;>rw [h2]<;>rw [h1] at FH FB<;>clear h1 h2
 ·go_enter Try.func35,Try.ntmps35
  go_wp2_with fail
  obtain ⟨P,hP⟩:∃ N,w.heap.size=N:=⟨_,rfl⟩
  rw [hP]
  refine calls_at (λ w1 hw=>?_)
  have k1:Keeps Nob w w1:=by rw [hw];exact Keeps.alloc _ _ _
  have HB:Hid (Blk w1 P 75 #[.int .i64 0,.slice none 0 0,.int .i64 0,.slice none 0 0,.slice none 0 0,.slice none 0 0]):=by rw [hw,<-hP];exact Hd (Blk.new _ _ _)
  have hlt:=HB.out.lt
  clear hw
  refine (FH _ (H.out.keeps k1 (λ _ _ _ h=>h) (λ _ _ _ h=>h))).mono ?_
  rintro e w2 ⟨d0,d1,d2,rfl,hh,k2⟩
  replace HB:=Hd (HB.out.keeps k2 (λ h=>h))
  have HH:=Hd hh
  have K:=Hd (k1.trans k2 (λ _ _ h=>h))
  have HP:=Hd (And.intro hlt (And.intro k1.size k2.size))
  clear hh k1 k2 hlt
  obtain ⟨X1,k1,e1⟩:=Own.form HH.out.high
  have e0:=HH.out.lvl
  have e2:=HH.out.right
  unfold iV at e0 e2
  subst e0 e1 e2
  have f0:=((Blk.new w2 62 #[.int .i64 0,.slice none 0 0,.int .i64 0])).frozen 0
  have z0:=((Blk.new w2 62 #[.int .i64 0,.slice none 0 0,.int .i64 0])).cell 0
  have f1:=λ (v0:Value)=>(((Blk.new w2 62 #[.int .i64 0,.slice none 0 0,.int .i64 0])).set_ 0 v0).frozen 1
  have z1:=λ (v0:Value)=>(((Blk.new w2 62 #[.int .i64 0,.slice none 0 0,.int .i64 0])).set_ 0 v0).cell 1
  have f2:=λ (v0 v1:Value)=>((((Blk.new w2 62 #[.int .i64 0,.slice none 0 0,.int .i64 0])).set_ 0 v0).set_ 1 v1).frozen 2
  have z2:=λ (v0 v1:Value)=>((((Blk.new w2 62 #[.int .i64 0,.slice none 0 0,.int .i64 0])).set_ 0 v0).set_ 1 v1).cell 2
  go_wp2_with fail
  clear f0 z0 f1 z1 f2 z2
  obtain ⟨Q,hQ⟩:∃ N,w2.heap.size=N:=⟨_,rfl⟩
  rw [hQ]
  refine calls_at (λ w3 hw=>?_)
  have k2:Keeps Nob w2 w3:=by rw [hw];exact Keeps.alloc _ _ _
  have HC:Hid (Blk w3 Q 62 #[.int .i64 (opNd A ix).lvl,.slice X1 (opNd A ix).high.length k1,.int .i64 (opNd A ix).right]):=by rw [hw,<-hQ];exact Hd (Blk.new _ _ _)
  clear hw
  replace K:=Hd (K.out.trans k2 (λ _ _ h=>h))
  refine (FB _ (H.out.keeps K.out (λ _ _ _ h=>h) (λ _ _ _ h=>h))).mono ?_
  rintro e w4 ⟨d3,d4,d5,rfl,hh,k3⟩
  replace HB:=Hd ((HB.out.keeps k2 (λ h=>h)).keeps k3 (λ h=>h))
  replace HC:=Hd (HC.out.keeps k3 (λ h=>h))
  have HE:=Hd hh
  have HS2:=Hd (And.intro (And.intro k2.size k3.size) hQ)
  replace HH:=Hd (And.intro HH.out (k2.trans k3 (λ _ _ h=>h)))
  replace K:=Hd (K.out.trans k3 (λ _ _ h=>h))
  clear hh k2 k3 hQ
  obtain ⟨X3,k3,e3⟩:=Own.form HE.out.keys.choose_spec.1
  obtain ⟨X4,k4,e4⟩:=Own.form HE.out.vals.choose_spec.1
  obtain ⟨X5,k5,e5⟩:=Own.form HE.out.kids
  subst e3 e4 e5
  have f0:=((Blk.new w4 49 #[.slice none 0 0,.slice none 0 0,.slice none 0 0])).frozen 0
  have z0:=((Blk.new w4 49 #[.slice none 0 0,.slice none 0 0,.slice none 0 0])).cell 0
  have f1:=λ (v0:Value)=>(((Blk.new w4 49 #[.slice none 0 0,.slice none 0 0,.slice none 0 0])).set_ 0 v0).frozen 1
  have z1:=λ (v0:Value)=>(((Blk.new w4 49 #[.slice none 0 0,.slice none 0 0,.slice none 0 0])).set_ 0 v0).cell 1
  have f2:=λ (v0 v1:Value)=>((((Blk.new w4 49 #[.slice none 0 0,.slice none 0 0,.slice none 0 0])).set_ 0 v0).set_ 1 v1).frozen 2
  have z2:=λ (v0 v1:Value)=>((((Blk.new w4 49 #[.slice none 0 0,.slice none 0 0,.slice none 0 0])).set_ 0 v0).set_ 1 v1).cell 2
  go_upto_region 3 with (fail)
  clear f0 z0 f1 z1 f2 z2
  obtain ⟨R,hR⟩:∃ N,w4.heap.size=N:=⟨_,rfl⟩
  rw [hR]
  refine code_at (λ w5 hw=>?_)
  have k6:Keeps Nob w4 w5:=by rw [hw];exact Keeps.alloc _ _ _
  have HD:Hid (Blk w5 R 49 #[.slice X3 (opNd A ix).keys.length k3,.slice X4 (opNd A ix).vals.length k4,.slice X5 (opNd A ix).kids.length k5]):=by rw [hw,<-hR];exact Hd (Blk.new _ _ _)
  clear hw hR
  replace HB:=Hd (HB.out.keeps k6 (λ h=>h))
  replace HC:=Hd (HC.out.keeps k6 (λ h=>h))
  have HN:Hid (ONd w5 (Fresh w1 w5) (.int .i64 (opNd A ix).lvl) (.slice X1 (opNd A ix).high.length k1) (.int .i64 (opNd A ix).right) (.slice X3 (opNd A ix).keys.length k3) (.slice X4 (opNd A ix).vals.length k4) (.slice X5 (opNd A ix).kids.length k5) (opNd A ix)):=by
   have s1:=HS2.out.1.1
   have s2:=HS2.out.1.2
   have s3:=HP.out.2.2
   have s4:=k6.size
   exact Hd ⟨(((HH.out.1.keeps HH.out.2 (λ _ _ _ h=>h)).keeps k6 (λ _ _ _ h=>h)).mono (λ b _ hb=>⟨hb.1,by have:=hb.2;omega⟩)),((HE.out.keeps k6 (λ _ _ _ h=>h)).mono (λ b _ hb=>⟨by have:=hb.1;omega,by have:=hb.2;omega⟩))⟩
  replace K:=Hd (K.out.trans k6 (λ _ _ h=>h))
  clear k6
  have f0:=(HB.out).frozen 0
  have z0:=(HB.out).cell 0
  have f1:=λ (v0:Value)=>((HB.out).set_ 0 v0).frozen 1
  have z1:=λ (v0:Value)=>((HB.out).set_ 0 v0).cell 1
  have f2:=λ (v0 v1:Value)=>(((HB.out).set_ 0 v0).set_ 1 v1).frozen 2
  have z2:=λ (v0 v1:Value)=>(((HB.out).set_ 0 v0).set_ 1 v1).cell 2
  have f3:=λ (v0 v1 v2:Value)=>((((HB.out).set_ 0 v0).set_ 1 v1).set_ 2 v2).frozen 3
  have z3:=λ (v0 v1 v2:Value)=>((((HB.out).set_ 0 v0).set_ 1 v1).set_ 2 v2).cell 3
  have f4:=λ (v0 v1 v2 v3:Value)=>(((((HB.out).set_ 0 v0).set_ 1 v1).set_ 2 v2).set_ 3 v3).frozen 4
  have z4:=λ (v0 v1 v2 v3:Value)=>(((((HB.out).set_ 0 v0).set_ 1 v1).set_ 2 v2).set_ 3 v3).cell 4
  have f5:=λ (v0 v1 v2 v3 v4:Value)=>((((((HB.out).set_ 0 v0).set_ 1 v1).set_ 2 v2).set_ 3 v3).set_ 4 v4).frozen 5
  have z5:=λ (v0 v1 v2 v3 v4:Value)=>((((((HB.out).set_ 0 v0).set_ 1 v1).set_ 2 v2).set_ 3 v3).set_ 4 v4).cell 5
  have r0:=(HC.out).cell 0
  have r1:=(HC.out).cell 1
  have r2:=(HC.out).cell 2
  have t0:=(HD.out).cell 0
  have t1:=(HD.out).cell 1
  have t2:=(HD.out).cell 2
  go_wp2
  clear f0 z0 f1 z1 f2 z2 f3 z3 f4 z4 f5 z5
  clear r0 t0 r1 t1 r2 t2
  refine post_at (λ w6 hw=>?_)
  have k7:Keeps (λ x=>x=P) w5 w6:=by rw [hw];exact (((((Keeps.setCell _ (M:=λ x=>x=P) rfl _).setCell' (λ _=>rfl) _).setCell' (λ _=>rfl) _).setCell' (λ _=>rfl) _).setCell' (λ _=>rfl) _).setCell' (λ _=>rfl) _
  have hB:Blk w6 P 75 #[.int .i64 (opNd A ix).lvl,.slice X1 (opNd A ix).high.length k1,.int .i64 (opNd A ix).right,.slice X3 (opNd A ix).keys.length k3,.slice X4 (opNd A ix).vals.length k4,.slice X5 (opNd A ix).kids.length k5]:=by rw [hw];exact (((((HB.out.set_ 0 _).set_ 1 _).set_ 2 _).set_ 3 _).set_ 4 _).set_ 5 _
  clear hw
  have s0:=(hB).cell 0
  have s1:=(hB).cell 1
  have s2:=(hB).cell 2
  have s3:=(hB).cell 3
  have s4:=(hB).cell 4
  have s5:=(hB).cell 5
  refine bodyPost_ret (v:=.tuple #[.agg #[.int .i64 (opNd A ix).lvl,.slice X1 (opNd A ix).high.length k1,.int .i64 (opNd A ix).right,.slice X3 (opNd A ix).keys.length k3,.slice X4 (opNd A ix).vals.length k4,.slice X5 (opNd A ix).kids.length k5],.bool true]) (by simp [results,Try.results35,go_sem,s0,s1,s2,s3,s4,s5]) rfl ⟨_,_,_,_,_,_,_,_,rfl,(HN.out.keeps k7 (λ x _ hx e=>by have h1:=hx.1;have h2:=HP.out.1;have e2:x=P:=e;omega)).mono (λ x _ hx=>⟨by have h1:=hx.1;have h2:=HP.out.2.1;omega,by have h1:=hx.2;have h2:=k7.size;omega⟩),K.out.trans k7 (λ x hx e=>by have e2:x=P:=e;have h:=HP.out;omega)⟩
 ·go_enter Try.func35,Try.ntmps35
  go_wp2_with fail
  obtain ⟨P,hP⟩:∃ N,w.heap.size=N:=⟨_,rfl⟩
  rw [hP]
  refine calls_at (λ w1 hw=>?_)
  have k1:Keeps Nob w w1:=by rw [hw];exact Keeps.alloc _ _ _
  have HB:Hid (Blk w1 P 75 #[.int .i64 0,.slice none 0 0,.int .i64 0,.slice none 0 0,.slice none 0 0,.slice none 0 0]):=by rw [hw,<-hP];exact Hd (Blk.new _ _ _)
  have hlt:=HB.out.lt
  clear hw
  refine (FH _ (H.out.keeps k1 (λ _ _ _ h=>h) (λ _ _ _ h=>h))).mono ?_
  rintro e w2 ⟨d0,d1,d2,rfl,hh,k2⟩
  replace HB:=Hd (HB.out.keeps k2 (λ h=>h))
  have HH:=Hd hh
  have K:=Hd (k1.trans k2 (λ _ _ h=>h))
  have HP:=Hd (And.intro hlt (And.intro k1.size k2.size))
  clear hh k1 k2 hlt
  obtain ⟨X1,k1,e1⟩:=Own.form HH.out.high
  have e0:=HH.out.lvl
  have e2:=HH.out.right
  unfold iV at e0 e2
  subst e0 e1 e2
  have f0:=((Blk.new w2 62 #[.int .i64 0,.slice none 0 0,.int .i64 0])).frozen 0
  have z0:=((Blk.new w2 62 #[.int .i64 0,.slice none 0 0,.int .i64 0])).cell 0
  have f1:=λ (v0:Value)=>(((Blk.new w2 62 #[.int .i64 0,.slice none 0 0,.int .i64 0])).set_ 0 v0).frozen 1
  have z1:=λ (v0:Value)=>(((Blk.new w2 62 #[.int .i64 0,.slice none 0 0,.int .i64 0])).set_ 0 v0).cell 1
  have f2:=λ (v0 v1:Value)=>((((Blk.new w2 62 #[.int .i64 0,.slice none 0 0,.int .i64 0])).set_ 0 v0).set_ 1 v1).frozen 2
  have z2:=λ (v0 v1:Value)=>((((Blk.new w2 62 #[.int .i64 0,.slice none 0 0,.int .i64 0])).set_ 0 v0).set_ 1 v1).cell 2
  go_wp2_with fail
  clear f0 z0 f1 z1 f2 z2
  obtain ⟨Q,hQ⟩:∃ N,w2.heap.size=N:=⟨_,rfl⟩
  rw [hQ]
  refine calls_at (λ w3 hw=>?_)
  have k2:Keeps Nob w2 w3:=by rw [hw];exact Keeps.alloc _ _ _
  have HC:Hid (Blk w3 Q 62 #[.int .i64 (opNd A ix).lvl,.slice X1 (opNd A ix).high.length k1,.int .i64 (opNd A ix).right]):=by rw [hw,<-hQ];exact Hd (Blk.new _ _ _)
  clear hw
  replace K:=Hd (K.out.trans k2 (λ _ _ h=>h))
  refine (FB _ (H.out.keeps K.out (λ _ _ _ h=>h) (λ _ _ _ h=>h))).mono ?_
  rintro e w4 ⟨d3,d4,d5,rfl,hh,k3⟩
  replace HB:=Hd ((HB.out.keeps k2 (λ h=>h)).keeps k3 (λ h=>h))
  replace HC:=Hd (HC.out.keeps k3 (λ h=>h))
  have HE:=Hd hh
  have HS2:=Hd (And.intro (And.intro k2.size k3.size) hQ)
  replace HH:=Hd (And.intro HH.out (k2.trans k3 (λ _ _ h=>h)))
  replace K:=Hd (K.out.trans k3 (λ _ _ h=>h))
  clear hh k2 k3 hQ
  obtain ⟨X3,k3,e3⟩:=Own.form HE.out.keys.choose_spec.1
  obtain ⟨X4,k4,e4⟩:=Own.form HE.out.vals.choose_spec.1
  obtain ⟨X5,k5,e5⟩:=Own.form HE.out.kids
  subst e3 e4 e5
  have f0:=((Blk.new w4 49 #[.slice none 0 0,.slice none 0 0,.slice none 0 0])).frozen 0
  have z0:=((Blk.new w4 49 #[.slice none 0 0,.slice none 0 0,.slice none 0 0])).cell 0
  have f1:=λ (v0:Value)=>(((Blk.new w4 49 #[.slice none 0 0,.slice none 0 0,.slice none 0 0])).set_ 0 v0).frozen 1
  have z1:=λ (v0:Value)=>(((Blk.new w4 49 #[.slice none 0 0,.slice none 0 0,.slice none 0 0])).set_ 0 v0).cell 1
  have f2:=λ (v0 v1:Value)=>((((Blk.new w4 49 #[.slice none 0 0,.slice none 0 0,.slice none 0 0])).set_ 0 v0).set_ 1 v1).frozen 2
  have z2:=λ (v0 v1:Value)=>((((Blk.new w4 49 #[.slice none 0 0,.slice none 0 0,.slice none 0 0])).set_ 0 v0).set_ 1 v1).cell 2
  go_upto_region 3 with (fail)
  clear f0 z0 f1 z1 f2 z2
  obtain ⟨R,hR⟩:∃ N,w4.heap.size=N:=⟨_,rfl⟩
  rw [hR]
  refine code_at (λ w5 hw=>?_)
  have k6:Keeps Nob w4 w5:=by rw [hw];exact Keeps.alloc _ _ _
  have HD:Hid (Blk w5 R 49 #[.slice X3 (opNd A ix).keys.length k3,.slice X4 (opNd A ix).vals.length k4,.slice X5 (opNd A ix).kids.length k5]):=by rw [hw,<-hR];exact Hd (Blk.new _ _ _)
  clear hw hR
  replace HB:=Hd (HB.out.keeps k6 (λ h=>h))
  replace HC:=Hd (HC.out.keeps k6 (λ h=>h))
  have HN:Hid (ONd w5 (Fresh w1 w5) (.int .i64 (opNd A ix).lvl) (.slice X1 (opNd A ix).high.length k1) (.int .i64 (opNd A ix).right) (.slice X3 (opNd A ix).keys.length k3) (.slice X4 (opNd A ix).vals.length k4) (.slice X5 (opNd A ix).kids.length k5) (opNd A ix)):=by
   have s1:=HS2.out.1.1
   have s2:=HS2.out.1.2
   have s3:=HP.out.2.2
   have s4:=k6.size
   exact Hd ⟨(((HH.out.1.keeps HH.out.2 (λ _ _ _ h=>h)).keeps k6 (λ _ _ _ h=>h)).mono (λ b _ hb=>⟨hb.1,by have:=hb.2;omega⟩)),((HE.out.keeps k6 (λ _ _ _ h=>h)).mono (λ b _ hb=>⟨by have:=hb.1;omega,by have:=hb.2;omega⟩))⟩
  replace K:=Hd (K.out.trans k6 (λ _ _ h=>h))
  clear k6
  have f0:=(HB.out).frozen 0
  have z0:=(HB.out).cell 0
  have f1:=λ (v0:Value)=>((HB.out).set_ 0 v0).frozen 1
  have z1:=λ (v0:Value)=>((HB.out).set_ 0 v0).cell 1
  have f2:=λ (v0 v1:Value)=>(((HB.out).set_ 0 v0).set_ 1 v1).frozen 2
  have z2:=λ (v0 v1:Value)=>(((HB.out).set_ 0 v0).set_ 1 v1).cell 2
  have f3:=λ (v0 v1 v2:Value)=>((((HB.out).set_ 0 v0).set_ 1 v1).set_ 2 v2).frozen 3
  have z3:=λ (v0 v1 v2:Value)=>((((HB.out).set_ 0 v0).set_ 1 v1).set_ 2 v2).cell 3
  have f4:=λ (v0 v1 v2 v3:Value)=>(((((HB.out).set_ 0 v0).set_ 1 v1).set_ 2 v2).set_ 3 v3).frozen 4
  have z4:=λ (v0 v1 v2 v3:Value)=>(((((HB.out).set_ 0 v0).set_ 1 v1).set_ 2 v2).set_ 3 v3).cell 4
  have f5:=λ (v0 v1 v2 v3 v4:Value)=>((((((HB.out).set_ 0 v0).set_ 1 v1).set_ 2 v2).set_ 3 v3).set_ 4 v4).frozen 5
  have z5:=λ (v0 v1 v2 v3 v4:Value)=>((((((HB.out).set_ 0 v0).set_ 1 v1).set_ 2 v2).set_ 3 v3).set_ 4 v4).cell 5
  have r0:=(HC.out).cell 0
  have r1:=(HC.out).cell 1
  have r2:=(HC.out).cell 2
  have t0:=(HD.out).cell 0
  have t1:=(HD.out).cell 1
  have t2:=(HD.out).cell 2
  go_wp2
  clear f0 z0 f1 z1 f2 z2 f3 z3 f4 z4 f5 z5
  clear r0 t0 r1 t1 r2 t2
  refine post_at (λ w6 hw=>?_)
  have k7:Keeps (λ x=>x=P) w5 w6:=by rw [hw];exact (((((Keeps.setCell _ (M:=λ x=>x=P) rfl _).setCell' (λ _=>rfl) _).setCell' (λ _=>rfl) _).setCell' (λ _=>rfl) _).setCell' (λ _=>rfl) _).setCell' (λ _=>rfl) _
  have hB:Blk w6 P 75 #[.int .i64 (opNd A ix).lvl,.slice X1 (opNd A ix).high.length k1,.int .i64 (opNd A ix).right,.slice X3 (opNd A ix).keys.length k3,.slice X4 (opNd A ix).vals.length k4,.slice X5 (opNd A ix).kids.length k5]:=by rw [hw];exact (((((HB.out.set_ 0 _).set_ 1 _).set_ 2 _).set_ 3 _).set_ 4 _).set_ 5 _
  clear hw
  have s0:=(hB).cell 0
  have s1:=(hB).cell 1
  have s2:=(hB).cell 2
  have s3:=(hB).cell 3
  have s4:=(hB).cell 4
  have s5:=(hB).cell 5
  refine bodyPost_ret (v:=.tuple #[.agg #[.int .i64 (opNd A ix).lvl,.slice X1 (opNd A ix).high.length k1,.int .i64 (opNd A ix).right,.slice X3 (opNd A ix).keys.length k3,.slice X4 (opNd A ix).vals.length k4,.slice X5 (opNd A ix).kids.length k5],.bool false]) (by simp [results,Try.results35,go_sem,s0,s1,s2,s3,s4,s5]) rfl ⟨_,_,_,_,_,_,_,_,rfl,(HN.out.keeps k7 (λ x _ hx e=>by have h1:=hx.1;have h2:=HP.out.1;have e2:x=P:=e;omega)).mono (λ x _ hx=>⟨by have h1:=hx.1;have h2:=HP.out.2.1;omega,by have h1:=hx.2;have h2:=k7.size;omega⟩),K.out.trans k7 (λ x hx e=>by have e2:x=P:=e;have h:=HP.out;omega)⟩
theorem readX (h:ArW w M D p slots ids A) (hsm:∀ s ∈ A.sl,NdSm 0 s.nd):Calls Try.prog 35 #[pV p,.int .i64 ix] w λ e w'=>∃ X1 k1 X3 k3 X4 k4 X5 k5,e=.returned (.tuple #[.agg #[.int .i64 (opNd A ix).lvl,.slice X1 (opNd A ix).high.length k1,.int .i64 (opNd A ix).right,.slice X3 (opNd A ix).keys.length k3,.slice X4 (opNd A ix).vals.length k4,.slice X5 (opNd A ix).kids.length k5],.bool (A.get ix).isSome])/\IsNd w' (Fresh w w') (.int .i64 (opNd A ix).lvl) (.slice X1 (opNd A ix).high.length k1) (.int .i64 (opNd A ix).right) (.slice X3 (opNd A ix).keys.length k3) (.slice X4 (opNd A ix).vals.length k4) (.slice X5 (opNd A ix).kids.length k5) (opNd A ix)/\Keeps Nob w w':=
 (readO h hsm).mono (λ e w' ⟨X1,k1,X3,k3,X4,k4,X5,k5,he,hn,hk⟩=>⟨X1,k1,X3,k3,X4,k4,X5,k5,he,hn.r,hk⟩)
end
end Go.Proofs.Ytjcgphhpaenjkaa

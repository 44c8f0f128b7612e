import Derived.Test.YtjcgphhpaenjkaaGreatPkB3
import Derived.Test.YtjcgphhpaenjkaaGreatPkA3
import Derived.Test.YtjcgphhpaenjkaaGreatPkA5
import Derived.Test.YtjcgphhpaenjkaaGreatPkA0
import Derived.Test.YtjcgphhpaenjkaaGreatPkA6
namespace Go.Proofs.YtjcgphhpaenjkaaGreat
open Go.RowKit
def ins {α:Type} (l:List α) (i:Nat) (x:α):List α:=l.take i++x::l.drop i
theorem ins_get {α:Type} (l:List α) (i:Nat) (x:α) (hi:i<=l.length) (j:Nat):(ins l i x)[j]?=if j < i then l[j]? else if j=i then some x else l[j-1]?:=by
 unfold ins
 have hl:(l.take i).length=i:=by rw [List.length_take];omega
 rw [List.getElem?_append,hl]
 by_cases h1:j < i
 ·rw [if_pos h1,if_pos h1,List.getElem?_take,if_pos h1]
 ·rw [if_neg h1,if_neg h1]
  by_cases h2:j=i
  ·subst h2;rw [if_pos rfl,Nat.sub_self];rfl
  ·rw [if_neg h2]
   obtain ⟨m,rfl⟩:∃ m,j=i+1+m:=⟨j-i-1,by omega⟩
   rw [show i+1+m-i=m+1 by omega,List.getElem?_cons_succ,List.getElem?_drop]
   congr 1
   omega
theorem ins_len {α:Type} (l:List α) (i:Nat) (x:α) (hi:i<=l.length):(ins l i x).length=l.length+1:=by
 unfold ins
 rw [List.length_append,List.length_take,List.length_cons,List.length_drop];omega
section
variable {S S' T M:Nat->Prop} {w w':World} {v v' u:Value} {l l':List (List UInt8)} {x:List UInt8} {i:Nat}
theorem OBy.one (h:OBy w S u x):u.oneCell'=true:=by
 obtain ⟨A,c,rfl⟩:=Own.form h;rfl
theorem OBy.keepsR (h:OBy w S u x) (h':OTx w S' v' l') (k:Keeps (λ b=>v'.ownBlock=some b) w w'):OBy w' S u x:=by
 obtain ⟨vs,h1,_⟩:=h';exact Own.keepsO h h1 (by decide) k
theorem OIn.keepsR {li:List Int} (h:OIn w S u li) (h':OTx w S' v' l') (k:Keeps (λ b=>v'.ownBlock=some b) w w'):OIn w' S u li:=by
 obtain ⟨vs,h1,_⟩:=h';exact Own.keepsO h h1 (by decide) k
theorem OTx.keepsR (h:OTx w S v l) (h':OTx w S' v' l') (hp:Prt v v') (k:Keeps (λ b=>v'.ownBlock=some b) w w'):OTx w' S v l:=by
 obtain ⟨vs,h1,h2,h3⟩:=h
 have h4:=h1.self.keeps k (λ b _ hb hb'=>hp b hb hb')
 refine ⟨vs,h4.mono λ b _ hb=>(h1.blk hb).1,h2,λ i u x hu hx=>(h3 i u x hu hx).keepsR h' k⟩
theorem otx_ins {vs:List Value} (h2:vs.length=l.length) (h3:∀ (i:Nat) u x,vs[i]?=some u->l[i]?=some x->OBy w S u x) (hu:OBy w S u x) (hi:i<=l.length) (ho:Own w S 29 1 v' (l.length+1) (vs.take i++u::vs.drop i)):OTx w S v' (ins l i x):=by
 refine ⟨ins vs i u,by rw [ins_len l i x hi];exact ho,by rw [ins_len l i x hi,ins_len vs i u (by omega)];omega,λ j a y ha hy=>?_⟩
 rw [ins_get vs i u (by omega)] at ha
 rw [ins_get l i x hi] at hy
 by_cases h1:j < i
 ·rw [if_pos h1] at ha hy;exact h3 j a y ha hy
 ·rw [if_neg h1] at ha hy
  by_cases h4:j=i
  ·rw [if_pos h4] at ha hy;cases ha;cases hy;exact hu
  ·rw [if_neg h4] at ha hy;exact h3 _ a y ha hy
theorem OTx.set_ {A:Option Addr} {c:Nat} (h:OTx w S (.slice A l.length c) l) (hi:i < l.length) (hu:OBy w S u x):∃ g o cs,A=some ⟨g,o,none⟩/\Blk w g 29 cs/\(∃ a,w.cell? ⟨g,o+i,none⟩=some a)/\OTx (w.setCell ⟨g,o+i,none⟩ u) S (.slice A l.length c) (l.set i x):=by
 obtain ⟨vs,h1,h2,h3⟩:=h
 obtain ⟨hn1,hn2,hat⟩:=h1.at_
 rcases hat with ⟨_,hc0⟩|⟨g,o,cur,rfl,hSg,hb,hoc,hcur⟩
 ·omega
 have hk:Keeps (λ b=>b=g) w (w.setCell ⟨g,o+i,none⟩ u):=Keeps.setCell w (M:=λ b=>b=g) rfl u
 refine ⟨g,o,cur,rfl,hb,⟨vs[i]'(by omega),by rw [hb.cell];exact hcur i _ (List.getElem?_eq_getElem _)⟩,vs.set i u,?_,by simp [h2],λ j a y ha hy=>?_⟩
 ·rw [List.length_set]
  refine ⟨by rw [List.length_set];omega,_,_,rfl,hn1,hn2,.inr ⟨g,o,_,rfl,hSg,hb.set_ _ _,by rw [Array.size_setIfInBounds];exact hoc,λ j a ha=>?_⟩⟩
  rw [List.getElem?_set] at ha
  rw [Array.getElem?_setIfInBounds]
  by_cases hij:i=j
  ·subst hij
   rw [if_pos rfl] at ha ⊢
   rw [if_pos (by omega)] at ha
   rw [if_pos (by omega)]
   exact ha
  ·rw [if_neg hij] at ha
   rw [if_neg (by omega)]
   exact hcur j a ha
 ·have hne:(5:TypeId)≠29:=by decide
  rw [List.getElem?_set] at ha hy
  by_cases hij:i=j
  ·subst hij
   rw [if_pos rfl,if_pos (by omega)] at ha hy
   cases ha;cases hy
   exact Own.keepsB hu hb hne hk
  ·rw [if_neg hij] at ha hy
   exact Own.keepsB (h3 j a y ha hy) hb hne hk
end
theorem ONd.keepsB {S:Nat->Prop} {w w':World} {a b c d e f:Value} {n:Nd} {g:Nat} {t:TypeId} {cs:Array Value} (h:ONd w S a b c d e f n) (hg:Blk w g t cs) (ht:Apart t) (k:Keeps (λ b=>b=g) w w'):ONd w' S a b c d e f n:=
 ⟨⟨h.1.lvl,h.1.high.keepsB hg ht k,h.1.right⟩,h.2.keys.keepsB hg ht k,h.2.vals.keepsB hg ht k,h.2.kids.keepsB hg ht k⟩
theorem Blk.keepsR {w w':World} {g:Nat} {t:TypeId} {cs:Array Value} {S':Nat->Prop} {v':Value} {l'} (h:Blk w g t cs) (h':OTx w S' v' l') (ht:t≠29) (k:Keeps (λ b=>v'.ownBlock=some b) w w'):Blk w' g t cs:=by
 obtain ⟨vs,h1,_⟩:=h'
 refine h.keeps k (λ hb=>?_)
 obtain ⟨cs',hb'⟩:=h1.ownBlk hb
 exact Blk.ne_ h hb' ht rfl
def wth (n:Nd) (key val:List UInt8):Nd:=if has n.keys key then {n with vals:=n.vals.set (below n.keys key) val} else {n with keys:=ins n.keys (below n.keys key) key,vals:=ins n.vals (min (below n.keys key) n.vals.length) val}
def jnd (n:Nd) (key:List UInt8) (kid:Int):Nd:=if has n.keys key then n else {n with keys:=ins n.keys (below n.keys key) key,kids:=ins n.kids (min (below n.keys key+1) n.kids.length) kid}
section
variable {S T M:Nat->Prop} {w w':World} {v u:Value} {n g i:Nat} {cs:Array Value} {e:TypeId}
section
variable {c0 c1 c2 c3 c4 c5:Value} {m:Nd}
end
end
section
variable {P:Program} {md:Region.Mode} {ops:Array Oper} {Q:Exit->Act->World->Prop}
theorem count_set:∀ (l:List Bool) (i:Nat),l[i]?=some false->(l.set i true).count false+1=l.count false
 | [],_,h=>by simp at h
 | b::l,0,h=>by simp at h;subst h;simp [List.count_cons]
 | b::l,i+1,h=>by
  have:=count_set l i (by simpa using h)
  simp only [sc_,List.count_cons]
  omega
theorem getD_true {listed:Array Bool} {i:Nat} (h:listed.getD i true=false):listed.toList[i]?=some false/\i < listed.size:=by
 rw [Array.getD_eq_getD_getElem?] at h
 have h2:listed[i]?=some false:=by
  cases hx:listed[i]? with
  | none=>rw [hx] at h;simp at h
  | some b=>rw [hx] at h;simp at h;subst h;rfl
 exact ⟨by rw [Array.getElem?_toList];exact h2,(Array.getElem?_eq_some_iff.1 h2).1⟩
theorem wpAny_inv (I:Array Bool->Act->World->Prop)
  (hs:∀ listed a w i,listed.size=ops.size->I listed a w->i ∈ Region.ready md ops listed->wpOp P ops Q i (I (listed.setIfInBounds i true)) a w)
  (he:∀ listed a w,listed.size=ops.size->Region.ready md ops listed=[]->I listed a w->Q .normal a w) :
  ∀ (fuel:Nat) (listed:Array Bool) (a:Act) (w:World),listed.size=ops.size->listed.toList.count false<=fuel->I listed a w->wpAny P md ops Q fuel listed a w
 | 0,listed,a,w,hsz,hc,h=>by
  have hr:Region.ready md ops listed=[]:=by
   refine List.eq_nil_iff_forall_not_mem.2 (λ i hi=>?_)
   have h1:=(getD_true (mem_ready.1 hi).1).1
   have:0 < listed.toList.count false:=List.count_pos_iff.2 (List.mem_of_getElem? h1)
   omega
  exact ⟨hr,he listed a w hsz hr h⟩
 | fuel+1,listed,a,w,hsz,hc,h=>by
  refine ⟨λ hr=>he listed a w hsz hr h,λ i hi=>?_⟩
  have h1:=(getD_true (mem_ready.1 hi).1).1
  refine wpOp_mono (λ a' w' h'=>wpAny_inv I hs he fuel _ a' w' (by simp [hsz]) ?_ h') (hs listed a w i hsz h hi)
  rw [Array.toList_setIfInBounds]
  have:=count_set listed.toList i h1
  omega
def backB (ops:Array Oper):Bool:=(List.range ops.size).all λ i=>match ops[i]? with|some o=>o.after.toList.all (λ e=>decide (e.on < i))|none=>true
theorem ready_nil (hb:backB ops=true) {listed:Array Bool} (hsz:listed.size=ops.size) (h:Region.ready md ops listed=[]):∀ (i:Nat),i < ops.size->listed.getD i false=true:=by
 intro i
 induction i using Nat.strongRecOn with
 | _ i ih=>
  intro hi
  cases hx:listed.getD i false with
  | true=>rfl
  | false=>
   exfalso
   have hu:listed.getD i true=false:=by
    rw [Array.getD_eq_getD_getElem?,Array.getElem?_eq_getElem (by omega)] at hx ⊢
    exact hx
   have ho:ops[i]?=some ops[i]:=Array.getElem?_eq_getElem hi
   have hm:i ∈ Region.ready md ops listed:=mem_ready.2 ⟨hu,ops[i],ho,λ e he _=>by
    have h1:=List.all_eq_true.1 hb i (List.mem_range.2 hi)
    rw [ho] at h1
    have h2:=List.all_eq_true.1 h1 e (Array.mem_toList_iff.2 he)
    have h3:e.on < i:=by simpa using h2
    exact ih e.on h3 (by omega)⟩
   rw [h] at hm
   cases hm
theorem wpOp_list {i:Nat} {o:Oper} {a:Act} {w:World} {K:Act->World->Prop} (ho':ops.toList[i]?=some o) (h:wpList P ops (Behind Q K) [o] a w):wpOp P ops Q i K a w:=by
 have ho:ops[i]?=some o:=by rw [<-Array.getElem?_toList];exact ho'
 simp only [wpList] at h
 unfold wpOp
 simp only [ho]
 split
 ·rename_i hw
  rw [if_pos hw] at h
  rcases h with h|h
  ·exact .inl (Oper.wp_behind h)
  ·exact .inr ⟨h.1,letsOut_behind h.2⟩
 ·rename_i hw
  rw [if_neg hw] at h
  exact h
theorem wp_region_inv {id:Nat} {a:Act} {w:World} (J:Act->(Nat->Prop)->Act->World->Prop) (hm:P.follows .mixedOrders=true) (hb:backB ops=true)
  (h0:J a (λ _=>False) a w.drew)
  (hs:∀ (L:Nat->Prop) a' w i o,ops.toList[i]?=some o->(∀ e ∈ o.after,Region.binds .any e=true->L e.on)->¬L i->J a L a' w->wpOp P ops Q i (J a (λ k=>L k\/k=i)) a' w)
  (he:∀ (L:Nat->Prop) a' w,(∀ i,i < ops.size->L i)->J a L a' w->Q .normal a' w):(Code.region id ops true).wp P Q a w:=by
 have h0':J a (λ k=>(Array.replicate ops.size false).getD k false=true) a w.drew:=by
  have:(λ k=>(Array.replicate ops.size false).getD k false=true)=(λ _:Nat=>False):=funext λ k=>by
   rw [Array.getD_eq_getD_getElem?,Array.getElem?_replicate]
   split<;>simp
  rw [this];exact h0
 refine wp_region_any hm (wpAny_inv (md:=.any) (I:=λ listed=>J a (λ k=>listed.getD k false=true)) ?_ ?_ _ _ _ _ (by simp) (by simp) h0')
 ·intro listed a1 w1 i hsz h hi
  obtain ⟨hu,o,ho,hall⟩:=mem_ready.1 hi
  have hlt:=(getD_true hu).2
  have e:(λ k=>(listed.setIfInBounds i true).getD k false=true)=(λ k=>listed.getD k false=true\/k=i):=funext λ k=>by
   by_cases hki:k=i
   ·subst hki
    rw [Array.getD_eq_getD_getElem?,Array.getElem?_setIfInBounds,if_pos rfl,if_pos hlt]
    simp
   ·rw [getD_setf_ne (Ne.symm hki)]
    simp [hki]
  show wpOp P ops Q i (J a (λ k=>(listed.setIfInBounds i true).getD k false=true)) a1 w1
  rw [e]
  exact hs _ a1 w1 i o (by rw [Array.getElem?_toList];exact ho) hall (by rw [getD_two hu];simp) h
 ·intro listed a1 w1 hsz hr h
  exact he _ a1 w1 (ready_nil hb hsz hr) h
end
section
variable {w:World} {S:Nat->Prop} {A:Option Addr} {c k:Nat} {e:TypeId}
theorem Own.cut {n:Nat} {xs:List Value} (h:Own w S e 1 (.slice A n c) n xs) (hk:k<=n):Own w S e 1 (.slice A k k) k (xs.take k):=by
 obtain ⟨h1,h2,h3⟩:=h.at_
 obtain ⟨hl,_⟩:=h
 refine ⟨by rw [List.length_take];omega,A,k,rfl,Nat.le_refl _,by omega,?_⟩
 rcases h3 with ⟨ha,hc⟩|⟨g,o,cur,rfl,hs,hb,ho,hc⟩
 ·exact .inl ⟨ha,by omega⟩
 ·refine .inr ⟨g,o,cur,rfl,hs,hb,by omega,λ i x hx=>hc i x ?_⟩
  rw [List.getElem?_take] at hx
  split at hx
  ·exact hx
  ·cases hx
theorem Own.tail {g o n:Nat} {xs:List Value} (h:Own w S e 1 (.slice (some ⟨g,o,none⟩) n c) n xs) (hk:k<=n):Own w S e 1 (.slice (some ⟨g,o+k,none⟩) (n-k) (c-k)) (n-k) (xs.drop k):=by
 obtain ⟨h1,h2,h3⟩:=h.at_
 obtain ⟨hl,_⟩:=h
 refine ⟨by rw [List.length_drop];omega,_,_,rfl,by omega,by omega,?_⟩
 rcases h3 with ⟨ha,hc⟩|⟨g',o',cur,e1,hs,hb,ho,hc⟩
 ·cases ha
 ·injection e1 with e1;injection e1 with e1 e2
  subst e1 e2
  refine .inr ⟨g,o+k,cur,rfl,hs,hb,by omega,λ i x hx=>?_⟩
  rw [List.getElem?_drop] at hx
  rw [Nat.add_assoc]
  exact hc _ x hx
theorem OTx.cut {l:List (List UInt8)} (h:OTx w S (.slice A l.length c) l) (hk:k<=l.length):OTx w S (.slice A k k) (l.take k):=by
 obtain ⟨vs,h1,h2,h3⟩:=h
 refine ⟨vs.take k,?_,by rw [List.length_take,List.length_take,h2],λ i u x hu hx=>?_⟩
 ·rw [List.length_take,Nat.min_eq_left hk];exact Own.cut h1 hk
 ·rw [List.getElem?_take] at hu hx
  split at hu
  ·rename_i hi;rw [if_pos hi] at hx;exact h3 i u x hu hx
  ·cases hu
theorem OTx.tail {g o:Nat} {l:List (List UInt8)} (h:OTx w S (.slice (some ⟨g,o,none⟩) l.length c) l) (hk:k<=l.length):OTx w S (.slice (some ⟨g,o+k,none⟩) (l.length-k) (c-k)) (l.drop k):=by
 obtain ⟨vs,h1,h2,h3⟩:=h
 refine ⟨vs.drop k,?_,by rw [List.length_drop,List.length_drop,h2],λ i u x hu hx=>?_⟩
 ·rw [List.length_drop];exact Own.tail h1 hk
 ·rw [List.getElem?_drop] at hu hx;exact h3 _ u x hu hx
theorem OIn.cut {l:List Int} (h:OIn w S (.slice A l.length c) l) (hk:k<=l.length):OIn w S (.slice A k k) (l.take k):=by
 have:=Own.cut h hk
 unfold OIn
 rw [List.length_take,Nat.min_eq_left hk,List.map_take];exact this
theorem OIn.tail {g o:Nat} {l:List Int} (h:OIn w S (.slice (some ⟨g,o,none⟩) l.length c) l) (hk:k<=l.length):OIn w S (.slice (some ⟨g,o+k,none⟩) (l.length-k) (c-k)) (l.drop k):=by
 have:=Own.tail h hk
 unfold OIn
 rw [List.length_drop,List.map_drop];exact this
theorem OTx.cap {n:Nat} {l:List (List UInt8)} (h:OTx w S (.slice A n c) l):n<=c:=by
 obtain ⟨vs,h1,_⟩:=h
 obtain ⟨_,A',c',e,h,_⟩:=h1
 injection e with _ e1 e2
 omega
theorem OIn.cap {n:Nat} {l:List Int} (h:OIn w S (.slice A n c) l):n<=c:=by
 obtain ⟨_,A',c',e,h,_⟩:=h
 injection e with _ e1 e2
 omega
theorem OTx.tailE {g o:Nat} {AE:Option Addr} {l:List (List UInt8)} (h:OTx w S (.slice (some ⟨g,o,none⟩) l.length c) l) (hk:k<=l.length) (e:AE=(if c=k then some ⟨g,o,none⟩ else some ⟨g,o+k,none⟩)):OTx w S (.slice AE (l.length-k) (c-k)) (l.drop k):=by
 by_cases hc:c=k
 ·rw [if_pos hc] at e
  subst e
  have h1:=OTx.cap h
  have hl:l.length=k:=by omega
  have hd:l.drop k=[]:=List.drop_eq_nil_of_le (by omega)
  have h2:=OTx.cut h (k:=0) (Nat.zero_le _)
  rw [hd,hl,hc,Nat.sub_self]
  exact h2
 ·rw [if_neg hc] at e
  subst e
  exact h.tail hk
theorem Own.some_ {n:Nat} {xs:List Value} (h:Own w S e 1 (.slice A n c) n xs) (hc:0 < c):∃ g o,A=some ⟨g,o,none⟩:=by
 obtain ⟨_,_,h3⟩:=h.at_
 rcases h3 with ⟨_,h0⟩|⟨g,o,_,e,_⟩
 ·omega
 ·exact ⟨g,o,e⟩
theorem OTx.some_ {l:List (List UInt8)} (h:OTx w S (.slice A l.length c) l) (hc:0 < c):∃ g o,A=some ⟨g,o,none⟩:=by
 obtain ⟨vs,h1,_⟩:=h;exact Own.some_ h1 hc
theorem OIn.some_ {l:List Int} (h:OIn w S (.slice A l.length c) l) (hc:0 < c):∃ g o,A=some ⟨g,o,none⟩:=Own.some_ h hc
end
def spM (n:Nd):Nat:=if n.lvl=0 then n.keys.length else n.kids.length
def spBad (n:Nd):Prop:=spM n < 2\/(n.lvl=0/\n.vals.length < n.keys.length)\/(n.lvl≠0/\n.keys.length < n.kids.length-1)
instance (n:Nd):Decidable (spBad n):=by unfold spBad;exact inferInstance
def spH (n:Nd):Nat:=(spM n+1) / 2
def spK (n:Nd):List UInt8:=if spBad n then [] else if n.lvl=0 then n.keys.getD (spH n) [] else n.keys.getD (spH n-1) []
def spL (n:Nd) (right:Int):Nd:=if spBad n then n else if n.lvl=0 then {n with high:=spK n,right:=right,keys:=n.keys.take (spH n),vals:=n.vals.take (spH n)} else {n with high:=spK n,right:=right,keys:=n.keys.take (spH n-1),kids:=n.kids.take (spH n)}
def spR (n:Nd):Nd:=if spBad n then Nd.zero else if n.lvl=0 then {n with keys:=n.keys.drop (spH n),vals:=n.vals.drop (spH n)} else {n with keys:=n.keys.drop (spH n),kids:=n.kids.drop (spH n)}
structure SpR (w0:World) (n:Nd) (N:Value) (L:Nat->Prop) (x12 x13 x14 x15 x7 x8:Value) (w:World):Prop where
 kept:Keeps Nob w0 w
 d31:L 3->L 1
 d6:L 6->L 4/\L 1
 d7:L 7->L 5/\L 3
 v12:L 0->x12=N
 v14:L 2->x14=N
 cl:L 1->∃ p d0 d1 d2 d3 d4 d5,x13=.agg #[d0,d1,d2,d3,d4,d5]/\w0.heap.size<=p/\p<=w.heap.size/\ONd w (λ b=>w0.heap.size<=b/\b < p) d0 d1 d2 d3 d4 d5 n/\
  (L 3->∃ e0 e1 e2 e3 e4 e5,x15=.agg #[e0,e1,e2,e3,e4,e5]/\ONd w (λ b=>p<=b) e0 e1 e2 e3 e4 e5 n)
 bx:L 4->∃ X cs,x7=.pointer (some ⟨X,0,none⟩)/\w0.heap.size<=X/\Blk w X 95 cs/\cs.size=6/\(L 6->x13=.agg cs)
 bY:L 5->∃ Y cs,x8=.pointer (some ⟨Y,0,none⟩)/\w0.heap.size<=Y/\Blk w Y 95 cs/\cs.size=6/\(L 7->x15=.agg cs)
 ne:L 4->L 5->x7≠x8
def spA (a0:Act) (x12 x13 x14 x15 x7 x8:Value):Act:=(((((a0.put (some 12) x12).put (some 13) x13).put (some 14) x14).put (some 15) x15).put (some 7) x7).put (some 8) x8
def SpI (w0:World) (n:Nd) (N:Value) (a0:Act) (L:Nat->Prop) (a:Act) (w:World):Prop:=∃ x12 x13 x14 x15 x7 x8,a=spA a0 x12 x13 x14 x15 x7 x8/\SpR w0 n N L x12 x13 x14 x15 x7 x8 w
theorem SpR.start (w0 n N x12 x13 x14 x15 x7 x8):SpR w0 n N (λ _=>False) x12 x13 x14 x15 x7 x8 w0.drew:=
 ⟨Keeps.drew Nob w0,λ x=>x.elim,λ x=>x.elim,λ x=>x.elim,λ x=>x.elim,λ x=>x.elim,λ x=>x.elim,λ x=>x.elim,λ x=>x.elim,λ x=>x.elim⟩
theorem or_ne {L:Nat->Prop} {k i:Nat} (h:L k\/k=i) (hne:k≠i):L k:=h.resolve_right hne
section
variable {w0 w w':World} {n:Nd} {N x12 x13 x14 x15 x7 x8:Value} {L:Nat->Prop}
theorem SpR.nob (h:SpR w0 n N L x12 x13 x14 x15 x7 x8 w) (k:Keeps Nob w w'):SpR w0 n N L x12 x13 x14 x15 x7 x8 w' where
 kept:=h.kept.trans k (λ _ _ h=>h)
 d31:=h.d31
 d6:=h.d6
 d7:=h.d7
 v12:=h.v12
 v14:=h.v14
 cl:=λ x=>by
  obtain ⟨p,d0,d1,d2,d3,d4,d5,h1,h2,h3,h4,h5⟩:=h.cl x
  refine ⟨p,d0,d1,d2,d3,d4,d5,h1,h2,Nat.le_trans h3 k.size,h4.keeps k (λ _ _ _=>id),λ y=>?_⟩
  obtain ⟨e0,e1,e2,e3,e4,e5,g1,g2⟩:=h5 y
  exact ⟨e0,e1,e2,e3,e4,e5,g1,g2.keeps k (λ _ _ _=>id)⟩
 bx:=λ x=>by
  obtain ⟨X,cs,h1,h2,h3,h4,h5⟩:=h.bx x
  exact ⟨X,cs,h1,h2,h3.keeps k id,h4,h5⟩
 bY:=λ x=>by
  obtain ⟨X,cs,h1,h2,h3,h4,h5⟩:=h.bY x
  exact ⟨X,cs,h1,h2,h3.keeps k id,h4,h5⟩
 ne:=h.ne
theorem SpR.ld12 (h:SpR w0 n N L x12 x13 x14 x15 x7 x8 w):SpR w0 n N (λ k=>L k\/k=0) N x13 x14 x15 x7 x8 w where
 kept:=h.kept
 d31:=λ x=>.inl (h.d31 (or_ne x (by decide)))
 d6:=λ x=>⟨.inl (h.d6 (or_ne x (by decide))).1,.inl (h.d6 (or_ne x (by decide))).2⟩
 d7:=λ x=>⟨.inl (h.d7 (or_ne x (by decide))).1,.inl (h.d7 (or_ne x (by decide))).2⟩
 v12:=λ _=>rfl
 v14:=λ x=>h.v14 (or_ne x (by decide))
 cl:=λ x=>by
  obtain ⟨p,d0,d1,d2,d3,d4,d5,h1,h2,h3,h4,h5⟩:=h.cl (or_ne x (by decide))
  exact ⟨p,d0,d1,d2,d3,d4,d5,h1,h2,h3,h4,λ y=>h5 (or_ne y (by decide))⟩
 bx:=λ x=>by
  obtain ⟨X,cs,h1,h2,h3,h4,h5⟩:=h.bx (or_ne x (by decide))
  exact ⟨X,cs,h1,h2,h3,h4,λ y=>h5 (or_ne y (by decide))⟩
 bY:=λ x=>by
  obtain ⟨X,cs,h1,h2,h3,h4,h5⟩:=h.bY (or_ne x (by decide))
  exact ⟨X,cs,h1,h2,h3,h4,λ y=>h5 (or_ne y (by decide))⟩
 ne:=λ x y=>h.ne (or_ne x (by decide)) (or_ne y (by decide))
theorem SpR.ld14 (h:SpR w0 n N L x12 x13 x14 x15 x7 x8 w):SpR w0 n N (λ k=>L k\/k=2) x12 x13 N x15 x7 x8 w where
 kept:=h.kept
 d31:=λ x=>.inl (h.d31 (or_ne x (by decide)))
 d6:=λ x=>⟨.inl (h.d6 (or_ne x (by decide))).1,.inl (h.d6 (or_ne x (by decide))).2⟩
 d7:=λ x=>⟨.inl (h.d7 (or_ne x (by decide))).1,.inl (h.d7 (or_ne x (by decide))).2⟩
 v12:=λ x=>h.v12 (or_ne x (by decide))
 v14:=λ _=>rfl
 cl:=λ x=>by
  obtain ⟨p,d0,d1,d2,d3,d4,d5,h1,h2,h3,h4,h5⟩:=h.cl (or_ne x (by decide))
  exact ⟨p,d0,d1,d2,d3,d4,d5,h1,h2,h3,h4,λ y=>h5 (or_ne y (by decide))⟩
 bx:=λ x=>by
  obtain ⟨X,cs,h1,h2,h3,h4,h5⟩:=h.bx (or_ne x (by decide))
  exact ⟨X,cs,h1,h2,h3,h4,λ y=>h5 (or_ne y (by decide))⟩
 bY:=λ x=>by
  obtain ⟨X,cs,h1,h2,h3,h4,h5⟩:=h.bY (or_ne x (by decide))
  exact ⟨X,cs,h1,h2,h3,h4,λ y=>h5 (or_ne y (by decide))⟩
 ne:=λ x y=>h.ne (or_ne x (by decide)) (or_ne y (by decide))
theorem SpR.call1 {d0 d1 d2 d3 d4 d5:Value} (h0:SpR w0 n N L x12 x13 x14 x15 x7 x8 w) (hu:¬L 1) (k:Keeps Nob w w') (hO:ONd w' (Fresh w w') d0 d1 d2 d3 d4 d5 n):SpR w0 n N (λ k=>L k\/k=1) x12 (.agg #[d0,d1,d2,d3,d4,d5]) x14 x15 x7 x8 w':=by
 have h:=h0.nob k
 have hs:=h0.kept.size
 have h3:¬L 3:=λ x=>hu (h.d31 x)
 have h6:¬L 6:=λ x=>hu (h.d6 x).2
 exact {
  kept:=h.kept
  d31:=λ x=>(h3 (or_ne x (by decide))).elim
  d6:=λ x=>(h6 (or_ne x (by decide))).elim
  d7:=λ x=>(h3 (h.d7 (or_ne x (by decide))).2).elim
  v12:=λ x=>h.v12 (or_ne x (by decide))
  v14:=λ x=>h.v14 (or_ne x (by decide))
  cl:=λ _=>⟨w'.heap.size,d0,d1,d2,d3,d4,d5,rfl,h.kept.size,Nat.le_refl _,hO.mono (λ b _ hb=>⟨Nat.le_trans hs hb.1,hb.2⟩),λ x=>(h3 (or_ne x (by decide))).elim⟩
  bx:=λ x=>by
   obtain ⟨X,cs,h1,h2,h3,h4,h5⟩:=h.bx (or_ne x (by decide))
   exact ⟨X,cs,h1,h2,h3,h4,λ y=>(h6 (or_ne y (by decide))).elim⟩
  bY:=λ x=>by
   obtain ⟨X,cs,h1,h2,h3,h4,h5⟩:=h.bY (or_ne x (by decide))
   exact ⟨X,cs,h1,h2,h3,h4,λ y=>h5 (or_ne y (by decide))⟩
  ne:=λ x y=>h.ne (or_ne x (by decide)) (or_ne y (by decide))}
theorem SpR.call3 {e0 e1 e2 e3 e4 e5:Value} (h0:SpR w0 n N L x12 x13 x14 x15 x7 x8 w) (hu:¬L 3) (hl:L 1) (k:Keeps Nob w w') (hO:ONd w' (Fresh w w') e0 e1 e2 e3 e4 e5 n):SpR w0 n N (λ k=>L k\/k=3) x12 x13 x14 (.agg #[e0,e1,e2,e3,e4,e5]) x7 x8 w':=by
 have h:=h0.nob k
 obtain ⟨p,d0,d1,d2,d3,d4,d5,g1,g2,g3,g4,g5⟩:=h0.cl hl
 have h7:¬L 7:=λ x=>hu (h.d7 x).2
 exact {
  kept:=h.kept
  d31:=λ _=>.inl hl
  d6:=λ x=>⟨.inl (h.d6 (or_ne x (by decide))).1,.inl (h.d6 (or_ne x (by decide))).2⟩
  d7:=λ x=>(h7 (or_ne x (by decide))).elim
  v12:=λ x=>h.v12 (or_ne x (by decide))
  v14:=λ x=>h.v14 (or_ne x (by decide))
  cl:=λ _=>⟨p,d0,d1,d2,d3,d4,d5,g1,g2,Nat.le_trans g3 k.size,g4.keeps k (λ _ _ _=>id),λ _=>⟨e0,e1,e2,e3,e4,e5,rfl,hO.mono (λ b _ hb=>Nat.le_trans g3 hb.1)⟩⟩
  bx:=λ x=>by
   obtain ⟨X,cs,h1,h2,h3,h4,h5⟩:=h.bx (or_ne x (by decide))
   exact ⟨X,cs,h1,h2,h3,h4,λ y=>h5 (or_ne y (by decide))⟩
  bY:=λ x=>by
   obtain ⟨X,cs,h1,h2,h3,h4,h5⟩:=h.bY (or_ne x (by decide))
   exact ⟨X,cs,h1,h2,h3,h4,λ y=>(h7 (or_ne y (by decide))).elim⟩
  ne:=λ x y=>h.ne (or_ne x (by decide)) (or_ne y (by decide))}
theorem SpR.al4 {cs0:Array Value} (h0:SpR w0 n N L x12 x13 x14 x15 x7 x8 w) (hu:¬L 4) (hz:cs0.size=6):SpR w0 n N (λ k=>L k\/k=4) x12 x13 x14 x15 (.pointer (some ⟨w.heap.size,0,none⟩)) x8 (w.alloc (.cells cs0 95)):=by
 have h:=h0.nob (Keeps.alloc Nob w (.cells cs0 95))
 have h6:¬L 6:=λ x=>hu (h.d6 x).1
 exact {
  kept:=h.kept
  d31:=λ x=>.inl (h.d31 (or_ne x (by decide)))
  d6:=λ x=>(h6 (or_ne x (by decide))).elim
  d7:=λ x=>⟨.inl (h.d7 (or_ne x (by decide))).1,.inl (h.d7 (or_ne x (by decide))).2⟩
  v12:=λ x=>h.v12 (or_ne x (by decide))
  v14:=λ x=>h.v14 (or_ne x (by decide))
  cl:=λ x=>by
   obtain ⟨p,d0,d1,d2,d3,d4,d5,h1,h2,h3,h4,h5⟩:=h.cl (or_ne x (by decide))
   exact ⟨p,d0,d1,d2,d3,d4,d5,h1,h2,h3,h4,λ y=>h5 (or_ne y (by decide))⟩
  bx:=λ _=>⟨w.heap.size,cs0,rfl,h0.kept.size,Blk.new _ _ _,hz,λ y=>(h6 (or_ne y (by decide))).elim⟩
  bY:=λ x=>by
   obtain ⟨X,cs,h1,h2,h3,h4,h5⟩:=h.bY (or_ne x (by decide))
   exact ⟨X,cs,h1,h2,h3,h4,λ y=>h5 (or_ne y (by decide))⟩
  ne:=λ _ y=>by
   obtain ⟨Y,cs,h1,h2,h3,_⟩:=h0.bY (or_ne y (by decide))
   have:=h3.lt
   rw [h1]
   intro e
   injection e with e;injection e with e;injection e with e
   omega}
theorem SpR.al5 {cs0:Array Value} (h0:SpR w0 n N L x12 x13 x14 x15 x7 x8 w) (hu:¬L 5) (hz:cs0.size=6):SpR w0 n N (λ k=>L k\/k=5) x12 x13 x14 x15 x7 (.pointer (some ⟨w.heap.size,0,none⟩)) (w.alloc (.cells cs0 95)):=by
 have h:=h0.nob (Keeps.alloc Nob w (.cells cs0 95))
 have h7:¬L 7:=λ x=>hu (h.d7 x).1
 exact {
  kept:=h.kept
  d31:=λ x=>.inl (h.d31 (or_ne x (by decide)))
  d6:=λ x=>⟨.inl (h.d6 (or_ne x (by decide))).1,.inl (h.d6 (or_ne x (by decide))).2⟩
  d7:=λ x=>(h7 (or_ne x (by decide))).elim
  v12:=λ x=>h.v12 (or_ne x (by decide))
  v14:=λ x=>h.v14 (or_ne x (by decide))
  cl:=λ x=>by
   obtain ⟨p,d0,d1,d2,d3,d4,d5,h1,h2,h3,h4,h5⟩:=h.cl (or_ne x (by decide))
   exact ⟨p,d0,d1,d2,d3,d4,d5,h1,h2,h3,h4,λ y=>h5 (or_ne y (by decide))⟩
  bx:=λ x=>by
   obtain ⟨X,cs,h1,h2,h3,h4,h5⟩:=h.bx (or_ne x (by decide))
   exact ⟨X,cs,h1,h2,h3,h4,λ y=>h5 (or_ne y (by decide))⟩
  bY:=λ _=>⟨w.heap.size,cs0,rfl,h0.kept.size,Blk.new _ _ _,hz,λ y=>(h7 (or_ne y (by decide))).elim⟩
  ne:=λ x _=>by
   obtain ⟨Y,cs,h1,h2,h3,_⟩:=h0.bx (or_ne x (by decide))
   have:=h3.lt
   rw [h1]
   intro e
   injection e with e;injection e with e;injection e with e
   omega}
theorem SpR.st6 {X:Nat} {cs cs':Array Value} (h:SpR w0 n N L x12 x13 x14 x15 (.pointer (some ⟨X,0,none⟩)) x8 w) (h1:L 1) (h4:L 4) (hb:Blk w X 95 cs) (hX:w0.heap.size<=X) (k:Keeps (λ b=>b=X) w w') (hb':Blk w' X 95 cs') (hz:cs'.size=6) (hx:x13=.agg cs') :
  SpR w0 n N (λ k=>L k\/k=6) x12 x13 x14 x15 (.pointer (some ⟨X,0,none⟩)) x8 w':=by
 have ha:Apart 95:=⟨by decide,by decide,by decide⟩
 exact {
  kept:=h.kept.trans k (λ b hb e=>by have:b=X:=e;omega)
  d31:=λ x=>.inl (h.d31 (or_ne x (by decide)))
  d6:=λ _=>⟨.inl h4,.inl h1⟩
  d7:=λ x=>⟨.inl (h.d7 (or_ne x (by decide))).1,.inl (h.d7 (or_ne x (by decide))).2⟩
  v12:=λ x=>h.v12 (or_ne x (by decide))
  v14:=λ x=>h.v14 (or_ne x (by decide))
  cl:=λ x=>by
   obtain ⟨p,d0,d1,d2,d3,d4,d5,h1,h2,h3,h4,h5⟩:=h.cl (or_ne x (by decide))
   refine ⟨p,d0,d1,d2,d3,d4,d5,h1,h2,Nat.le_trans h3 k.size,⟨⟨h4.1.lvl,h4.1.high.keepsB hb ha k,h4.1.right⟩,h4.2.keys.keepsB hb ha k,h4.2.vals.keepsB hb ha k,h4.2.kids.keepsB hb ha k⟩,λ y=>?_⟩
   obtain ⟨e0,e1,e2,e3,e4,e5,g1,g4⟩:=h5 (or_ne y (by decide))
   exact ⟨e0,e1,e2,e3,e4,e5,g1,⟨⟨g4.1.lvl,g4.1.high.keepsB hb ha k,g4.1.right⟩,g4.2.keys.keepsB hb ha k,g4.2.vals.keepsB hb ha k,g4.2.kids.keepsB hb ha k⟩⟩
  bx:=λ _=>⟨X,cs',rfl,hX,hb',hz,λ _=>hx⟩
  bY:=λ x=>by
   obtain ⟨Y,ds,g1,g2,g3,g4,g5⟩:=h.bY (or_ne x (by decide))
   have hne:=h.ne h4 (or_ne x (by decide))
   exact ⟨Y,ds,g1,g2,g3.keeps k (λ e=>hne (by rw [g1,show Y=X from e])),g4,λ y=>g5 (or_ne y (by decide))⟩
  ne:=λ _ y=>h.ne h4 (or_ne y (by decide))}
theorem SpR.st7 {Y:Nat} {cs cs':Array Value} (h:SpR w0 n N L x12 x13 x14 x15 x7 (.pointer (some ⟨Y,0,none⟩)) w) (h3:L 3) (h5:L 5) (hb:Blk w Y 95 cs) (hX:w0.heap.size<=Y) (k:Keeps (λ b=>b=Y) w w') (hb':Blk w' Y 95 cs') (hz:cs'.size=6) (hx:x15=.agg cs') :
  SpR w0 n N (λ k=>L k\/k=7) x12 x13 x14 x15 x7 (.pointer (some ⟨Y,0,none⟩)) w':=by
 have ha:Apart 95:=⟨by decide,by decide,by decide⟩
 exact {
  kept:=h.kept.trans k (λ b hb e=>by have:b=Y:=e;omega)
  d31:=λ x=>.inl (h.d31 (or_ne x (by decide)))
  d6:=λ x=>⟨.inl (h.d6 (or_ne x (by decide))).1,.inl (h.d6 (or_ne x (by decide))).2⟩
  d7:=λ _=>⟨.inl h5,.inl h3⟩
  v12:=λ x=>h.v12 (or_ne x (by decide))
  v14:=λ x=>h.v14 (or_ne x (by decide))
  cl:=λ x=>by
   obtain ⟨p,d0,d1,d2,d3,d4,d5,h1,h2,h3,h4,h5⟩:=h.cl (or_ne x (by decide))
   refine ⟨p,d0,d1,d2,d3,d4,d5,h1,h2,Nat.le_trans h3 k.size,⟨⟨h4.1.lvl,h4.1.high.keepsB hb ha k,h4.1.right⟩,h4.2.keys.keepsB hb ha k,h4.2.vals.keepsB hb ha k,h4.2.kids.keepsB hb ha k⟩,λ y=>?_⟩
   obtain ⟨e0,e1,e2,e3,e4,e5,g1,g4⟩:=h5 (or_ne y (by decide))
   exact ⟨e0,e1,e2,e3,e4,e5,g1,⟨⟨g4.1.lvl,g4.1.high.keepsB hb ha k,g4.1.right⟩,g4.2.keys.keepsB hb ha k,g4.2.vals.keepsB hb ha k,g4.2.kids.keepsB hb ha k⟩⟩
  bx:=λ x=>by
   obtain ⟨X,ds,g1,g2,g3,g4,g5⟩:=h.bx (or_ne x (by decide))
   have hne:=h.ne (or_ne x (by decide)) h5
   exact ⟨X,ds,g1,g2,g3.keeps k (λ e=>hne (by rw [g1,show X=Y from e])),g4,λ y=>g5 (or_ne y (by decide))⟩
  bY:=λ _=>⟨Y,cs',rfl,hX,hb',hz,λ _=>hx⟩
  ne:=λ x _=>h.ne (or_ne x (by decide)) h5}
end
theorem size6 {cs:Array Value} (h:cs.size=6):∃ v0 v1 v2 v3 v4 v5,cs=#[v0,v1,v2,v3,v4,v5]:=by
 obtain ⟨l⟩:=cs
 match l,h with
 | [a,b,c,d,e,f],_=>exact ⟨a,b,c,d,e,f,rfl⟩
section
variable {w w':World} {S:Nat->Prop} {A:Option Addr} {v:Value} {n c k:Nat}
end
def over (n:Nd) (leaf inner:Int):Bool:=if n.lvl=0 then decide (leaf < n.keys.length) else decide (inner < n.kids.length)
section
variable {S:Nat->Prop} {w:World} {c0 c1 c2 c3 c4 c5:Value} {n:Nd} {right:Int}
end
end Go.Proofs.YtjcgphhpaenjkaaGreat

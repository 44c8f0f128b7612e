import Derived.Test.YtjcgphhpaenjkaaGreatPkB3
import Derived.Test.YtjcgphhpaenjkaaGreatPkB2
import Derived.Test.YtjcgphhpaenjkaaGreatPkB4
import Derived.Test.YtjcgphhpaenjkaaGreatPkA8
import Derived.Test.YtjcgphhpaenjkaaGreatPkA6
namespace Go.Proofs.YtjcgphhpaenjkaaGreat
open Go.RowKit
structure Pm where
 key:List UInt8
 val:List UInt8
 D:Option Mc
 nx:Nat
 level:Int
 sep:List UInt8
 id:Int
 word:Nat
 old:Nd
 nw:Nd
 left:Nd
 right:Nd
 btw:List UInt8
 side:Int
 half:Int
 fresh:Int
 root:Int
 there:Bool
 err:Int
def Pm.goes (m:Pm):Pm:={m with nx:=1,D:=some (Mc.new m.sep m.level)}
def Pm.ends (m:Pm) (e:Int):Pm:={m with nx:=20,err:=e,there:=m.there&&decide (e=0)}
def valFit (v:List UInt8):Bool:=decide (v.length<=256)
def Pm.idle (key val:List UInt8):Pm:=⟨key,val,none,0,0,key,0,0,Nd.zero,Nd.zero,Nd.zero,Nd.zero,[],0,0,0,0,false,0⟩
def Pm.new (key val:List UInt8):Pm:=if keyFit key=true/\valFit val=true then (Pm.idle key val).goes else Pm.idle key val
abbrev Ps:=(Bool × Bool) × Ar × Pm
def no (A:Ar) (m:Pm):Ps:=((false,false),A,m)
def onP (A:Ar) (m:Pm) (e:Int) (next:Nat):Ps:=if e=0 then no A {m with nx:=next} else ((true,false),A,m.ends e)
def downP (A:Ar) (m:Pm):Ps:=match m.D with
 | none=>no A m
 | some d=>if (stepM A d).nx=.done then
   let d:=stepM A d
   let m:={m with D:=some d,id:=d.outId,word:=d.outWord,old:=d.outNd}
   if (0:Int) < m.id then no A {m with nx:=2}
   else if (0:Int) < m.level then no A {m with nx:=14}
   else ((true,false),A,m.ends 101)
  else no A {m with D:=some (stepM A d)}
def newP (m:Pm):Nd:=if m.level=0 then wth m.old m.key m.val else jnd m.old m.sep m.half
def lockP (leaf inner:Int) (A:Ar) (m:Pm):Ps:=
 let (took,e,A'):=opLock A m.id m.word
 if e≠0 then ((true,false),A',m.ends e)
 else if took=false then no A' m.goes
 else if m.level=0 then no A' {m with there:=has m.old.keys m.sep,nw:=newP m,nx:=if over (newP m) leaf inner then 6 else 3}
 else if has m.old.keys m.sep then no A' {m with nx:=5}
 else no A' {m with nw:=newP m,nx:=if over (newP m) leaf inner then 6 else 3}
def givesP (A:Ar) (m:Pm):Ps:=
 let (e,A'):=opUnlock A m.id (decide (m.nx=4))
 if e≠0 then ((true,false),A',m.ends e)
 else if m.nx=7/\m.level=0 then ((true,true),A',m.ends 2)
 else ((true,decide (m.level=0)),A',m.ends 0)
def slotP (A:Ar) (m:Pm):Ps:=
 let (id,e,A'):=opAlloc A
 if m.nx=15/\e≠0 then ((true,false),A',m.ends 0)
 else if m.nx=15 then no A' {m with root:=id,nx:=16}
 else if e≠0 then no A' {m with nx:=7}
 else no A' {m with fresh:=id,left:=spL m.nw id,right:=spR m.nw,btw:=spK m.nw,nx:=8}
def rootNd (m:Pm):Nd:=⟨m.level,[],0,[m.sep],[],[m.side,m.half]⟩
def stepP (leaf inner:Int) (A:Ar) (m:Pm):Ps:=match m.nx with
 | 0=>((true,true),A,m.ends 3)
 | 1=>downP A m
 | 2=>lockP leaf inner A m
 | 3=>let (e,A'):=opSetBody A m.id m.nw;onP A' m e 4
 | 4=>givesP A m
 | 5=>givesP A m
 | 6=>slotP A m
 | 7=>givesP A m
 | 8=>let (e,A'):=opSetHead A m.fresh m.right;onP A' m e 9
 | 9=>let (e,A'):=opSetBody A m.fresh m.right;onP A' m e 10
 | 10=>let (e,A'):=opUnlock A m.fresh true;onP A' m e 11
 | 11=>let (e,A'):=opSetHead A m.id m.left;onP A' m e 12
 | 12=>let (e,A'):=opSetBody A m.id m.left;onP A' m e 13
 | 13=>let (e,A'):=opUnlock A m.id true
  if e≠0 then ((true,false),A',m.ends e)
  else ((false,decide (m.level=0)),A',({m with side:=m.id,half:=m.fresh,sep:=m.btw,level:=m.level+1}:Pm).goes)
 | 14=>if A.root≠m.side then ((true,false),A,m.ends 0) else no A {m with nx:=15}
 | 15=>slotP A m
 | 16=>let (e,A'):=opSetHead A m.root (rootNd m);onP A' m e 17
 | 17=>let (e,A'):=opSetBody A m.root (rootNd m);onP A' m e 18
 | 18=>let (e,A'):=opUnlock A m.root true;onP A' m e 19
 | 19=>let (grown,e,A'):=opGrow A m.side m.root
  if grown=true\/e≠0 then ((true,false),A',m.ends e) else no A' m.goes
 | _=>((true,false),A,m)
def Pm.out (m:Pm):Bool × Int:=if m.nx=20 then (m.there,m.err) else (false,0)
section
variable {leaf inner:Int} {A:Ar} {m:Pm}
theorem stepP_through (h:m.nx=20):stepP leaf inner A m=((true,false),A,m):=by unfold stepP;split<;>first|rfl|(rename_i h2;rw [h] at h2;cases h2)
theorem onP_keeps (A:Ar) (m:Pm) (e:Int) (n:Nat):(onP A m e n).2.2.key=m.key/\(onP A m e n).2.2.val=m.val:=by unfold onP no Pm.ends;split<;>exact ⟨rfl,rfl⟩
theorem downP_keeps (A:Ar) (m:Pm):(downP A m).2.2.key=m.key/\(downP A m).2.2.val=m.val:=by
 unfold downP no Pm.ends
 split
 ·exact ⟨rfl,rfl⟩
 ·split
  ·simp only
   split
   ·exact ⟨rfl,rfl⟩
   ·split<;>exact ⟨rfl,rfl⟩
  ·exact ⟨rfl,rfl⟩
theorem givesP_keeps (A:Ar) (m:Pm):(givesP A m).2.2.key=m.key/\(givesP A m).2.2.val=m.val:=by
 unfold givesP Pm.ends
 simp only
 repeat' split
 all_goals exact ⟨rfl,rfl⟩
theorem slotP_keeps (A:Ar) (m:Pm):(slotP A m).2.2.key=m.key/\(slotP A m).2.2.val=m.val:=by
 unfold slotP no Pm.ends
 simp only
 repeat' split
 all_goals exact ⟨rfl,rfl⟩
theorem lockP_keeps (A:Ar) (m:Pm):(lockP leaf inner A m).2.2.key=m.key/\(lockP leaf inner A m).2.2.val=m.val:=by
 unfold lockP no Pm.ends Pm.goes
 simp only
 repeat' split
 all_goals exact ⟨rfl,rfl⟩
theorem stepP_keeps:(stepP leaf inner A m).2.2.key=m.key/\(stepP leaf inner A m).2.2.val=m.val:=by
 unfold stepP
 split
 any_goals first|exact downP_keeps _ _|exact lockP_keeps _ _|exact givesP_keeps _ _|exact slotP_keeps _ _|exact onP_keeps _ _ _ _
 ·exact ⟨rfl,rfl⟩
 ·simp only
  split<;>exact ⟨rfl,rfl⟩
 ·split<;>exact ⟨rfl,rfl⟩
 ·simp only
  split<;>exact ⟨rfl,rfl⟩
 ·exact ⟨rfl,rfl⟩
end
section
variable {S T:Nat->Prop} {w:World} {v b:Value} {ls:List (List UInt8)} {x:List UInt8} {i:Nat}
end
section
variable {S T U:Nat->Prop} {w:World} {c0 c1 c2 c3 c4 c5 ck cv:Value} {n:Nd} {key val:List UInt8}
end
theorem rs_swap:∀ (a b:List UInt8),cmp b a=-cmp a b
 | [],[]=>rfl
 | [],_::_=>rfl
 | _::_,[]=>rfl
 | x::a,y::b=>by
  rw [cmp_cons,cmp_cons]
  by_cases h1:x < y
  ·rw [if_pos h1,if_neg (λ h=>absurd (UInt8.lt_trans h1 h) (UInt8.lt_irrefl x)),if_pos h1];rfl
  ·by_cases h2:y < x
   ·rw [if_pos h2,if_neg h1,if_pos h2]
   ·rw [if_neg h2,if_neg h1,if_neg h1,if_neg h2]
    exact rs_swap a b
theorem rs_tail {x:List UInt8} {l:List (List UInt8)} (h:Rise (x::l)):Rise l:=λ j a b ha hb=>h (j+1) a b (by simpa using ha) (by simpa using hb)
theorem rs_below_iff {key:List UInt8}:∀ {l:List (List UInt8)},Rise l->∀ (j:Nat) (x:List UInt8),l[j]?=some x->(cmp x key < 0 ↔ j < below l key)
 | [],_,j,x,hx=>by simp at hx
 | y::l,h,j,x,hx=>by
  have hl:below (y::l) key=below l key+if cmp y key < 0 then 1 else 0:=by unfold below;rw [List.countP_cons];simp
  by_cases hy:cmp y key < 0
  ·rw [hl,if_pos hy]
   cases j with
   | zero=>simp at hx;subst hx;exact ⟨λ _=>by omega,λ _=>hy⟩
   | succ j=>
    have:=rs_below_iff (key:=key) (rs_tail h) j x (by simpa using hx)
    rw [this];omega
  ·have hz:below l key=0:=by
    unfold below
    rw [List.countP_eq_zero]
    intro z hz
    obtain ⟨i,hi⟩:=List.mem_iff_getElem?.1 hz
    have h1:=rise_lt' h (i:=0) (j:=i+1) (by omega) (a:=y) (b:=z) rfl (by simpa using hi)
    simp only [decide_eq_true_eq]
    intro h2
    exact hy (cmp_lt_trans _ _ _ h1 h2)
   rw [hl,if_neg hy,hz]
   constructor
   ·intro h1
    exfalso
    cases j with
    | zero=>simp at hx;subst hx;exact hy h1
    | succ j=>exact hy (cmp_lt_trans _ _ _ (rise_lt' h (i:=0) (j:=j+1) (by omega) rfl hx) h1)
   ·intro h1;omega
theorem rs_ins {l:List (List UInt8)} {key:List UInt8} (h:Rise l) (hh:has l key=false):Rise (ins l (below l key) key):=by
 intro j a b ha hb
 have hle:=below_le l key
 rw [ins_get _ _ _ hle] at ha hb
 have hne:∀ x ∈ l,cmp x key≠0:=λ x hx h0=>by
  have:has l key=true:=by unfold has;exact List.any_eq_true.2 ⟨x,hx,by simpa using h0⟩
  rw [hh] at this;cases this
 by_cases h1:j+1 < below l key
 ·rw [if_pos (by omega)] at ha
  rw [if_pos h1] at hb
  exact h j a b ha hb
 ·by_cases h2:j+1=below l key
  ·rw [if_pos (by omega)] at ha
   rw [if_neg (by omega),if_pos h2] at hb
   cases hb
   exact (rs_below_iff h j a ha).2 (by omega)
  ·by_cases h3:j=below l key
   ·rw [if_neg (by omega),if_pos h3] at ha
    rw [if_neg (by omega),if_neg (by omega)] at hb
    cases ha
    have hb':l[j]?=some b:=by rw [<-hb];congr 1
    have h4:¬cmp b key < 0:=λ hc=>by have:=(rs_below_iff h j b hb').1 hc;omega
    have h5:=hne b (List.mem_of_getElem? hb')
    rw [rs_swap b key]
    rcases cmp_cases b key with hc|hc|hc<;>omega
   ·rw [if_neg (by omega),if_neg h3] at ha
    rw [if_neg (by omega),if_neg (by omega)] at hb
    exact h (j-1) a b ha (by rw [<-hb];congr 1;omega)
theorem rs_take {l:List (List UInt8)} (h:Rise l) (k:Nat):Rise (l.take k):=λ j a b ha hb=>by
 rw [List.getElem?_take] at ha hb
 split at ha
 ·split at hb
  ·exact h j a b ha hb
  ·cases hb
 ·cases ha
theorem rs_drop {l:List (List UInt8)} (h:Rise l) (k:Nat):Rise (l.drop k):=λ j a b ha hb=>by
 rw [List.getElem?_drop] at ha hb
 exact h (k+j) a b ha (by rw [<-hb];congr 1)
/-! ### a leaf with a key more, an inner node with a child more -/
theorem right_iff {n:Nd}:right n=true ↔ Rise n.keys/\(n.lvl=0->n.vals.length=n.keys.length/\n.kids.length=0)/\(n.lvl≠0->0 < n.lvl/\n.vals.length=0/\n.kids.length=n.keys.length+1):=by
 unfold right
 rw [<-rises_iff]
 by_cases h:n.lvl=0
 ·rw [if_pos h]
  simp only [Bool.and_eq_true,decide_eq_true_eq]
  exact ⟨λ ⟨a,b,c⟩=>⟨a,λ _=>⟨b,c⟩,λ hh=>absurd h hh⟩,λ ⟨a,b,_⟩=>⟨a,b h⟩⟩
 ·rw [if_neg h]
  simp only [Bool.and_eq_true,decide_eq_true_eq]
  exact ⟨λ ⟨a,b,c,d⟩=>⟨a,λ hh=>absurd hh h,λ _=>⟨b,c,d⟩⟩,λ ⟨a,_,b⟩=>⟨a,b h⟩⟩
theorem right_zero:right Nd.zero=true:=by decide
section
variable {n:Nd} {key val:List UInt8} {r:Int}
theorem right_with (h:right n=true) (hl:n.lvl=0):right (wth n key val)=true/\(wth n key val).lvl=0:=by
 obtain ⟨h1,h2,_⟩:=right_iff.1 h
 obtain ⟨h3,h4⟩:=h2 hl
 unfold wth
 cases hh:has n.keys key with
 | true=>
  rw [if_pos rfl]
  exact ⟨right_iff.2 ⟨h1,λ _=>⟨by simpa using h3,h4⟩,λ hne=>absurd hl hne⟩,hl⟩
 | false=>
  rw [if_neg (by decide)]
  have hb:=below_le n.keys key
  exact ⟨right_iff.2 ⟨rs_ins h1 hh,λ _=>⟨by rw [ins_len _ _ _ (by omega),ins_len _ _ _ hb,h3],h4⟩,λ hne=>absurd hl hne⟩,hl⟩
theorem right_spL (h:right n=true):right (spL n r)=true:=by
 obtain ⟨h1,h2,h3⟩:=right_iff.1 h
 unfold spL
 split
 ·exact h
 ·rename_i hb
  split
  ·rename_i hl
   obtain ⟨h4,h5⟩:=h2 hl
   exact right_iff.2 ⟨rs_take h1 _,λ _=>⟨by simp only [List.length_take];omega,h5⟩,λ hne=>absurd hl hne⟩
  ·rename_i hl
   obtain ⟨h4,h5,h6⟩:=h3 hl
   have hm:2<=spM n:=by unfold spBad at hb;omega
   have hk:spM n=n.kids.length:=by unfold spM;rw [if_neg hl]
   refine right_iff.2 ⟨rs_take h1 _,λ he=>absurd he hl,λ _=>⟨h4,h5,?_⟩⟩
   simp only [List.length_take]
   unfold spH
   omega
theorem right_spR (h:right n=true):right (spR n)=true:=by
 obtain ⟨h1,h2,h3⟩:=right_iff.1 h
 unfold spR
 split
 ·exact right_zero
 ·rename_i hb
  split
  ·rename_i hl
   obtain ⟨h4,h5⟩:=h2 hl
   exact right_iff.2 ⟨rs_drop h1 _,λ _=>⟨by simp only [List.length_drop];omega,h5⟩,λ hne=>absurd hl hne⟩
  ·rename_i hl
   obtain ⟨h4,h5,h6⟩:=h3 hl
   have hm:2<=spM n:=by unfold spBad at hb;omega
   have hk:spM n=n.kids.length:=by unfold spM;rw [if_neg hl]
   refine right_iff.2 ⟨rs_drop h1 _,λ he=>absurd he hl,λ _=>⟨h4,h5,?_⟩⟩
   simp only [List.length_drop]
   unfold spH
   omega
/-! ### sizes -/
end
theorem mem_inP {α:Type} {l:List α} {i:Nat} {x y:α} (h:y ∈ ins l i x):y=x\/y ∈ l:=by
 unfold ins at h
 rcases List.mem_append.1 h with h|h
 ·exact .inr (List.mem_of_mem_take h)
 ·rcases List.mem_cons.1 h with h|h
  ·exact .inl h
  ·exact .inr (List.mem_of_mem_drop h)
theorem ins_lenP {α:Type} (l:List α) (i:Nat) (x:α):(ins l i x).length=l.length+1:=by
 unfold ins
 rw [List.length_append,List.length_cons,List.length_take,List.length_drop]
 omega
structure Few (c:Nat) (n:Nd):Prop where
 keys:n.keys.length<=c
 vals:n.vals.length<=c
 kids:n.kids.length<=c+1
 high:n.high.length<=64
 kb:∀ k ∈ n.keys,k.length<=64
 vb:∀ v ∈ n.vals,v.length<=256
section
variable {c:Nat} {n:Nd} {key val:List UInt8} {kid:Int}
theorem Few.mono {d:Nat} (h:Few c n) (hd:c<=d):Few d n:=⟨by have:=h.keys;omega,by have:=h.vals;omega,by have:=h.kids;omega,h.high,h.kb,h.vb⟩
theorem Few.zero (c:Nat):Few c Nd.zero:=⟨Nat.zero_le _,Nat.zero_le _,Nat.zero_le _,Nat.zero_le _,(λ _ h=>by cases h),(λ _ h=>by cases h)⟩
theorem Few.smI (h:Few c n) (hc:c<=1000000):NdSm 100000000000000 n:=by
 obtain ⟨h1,h2,h3,h4,h5,h6⟩:=h
 refine ⟨by unfold Sm;omega,⟨by unfold Sm;omega,λ k hk=>?_⟩,⟨by unfold Sm;omega,λ v hv=>?_⟩,by unfold Sm;omega⟩
 ·have:=h5 k hk;unfold Sm;omega
 ·have:=h6 v hv;unfold Sm;omega
theorem Few.sm (h:Few c n) (hc:c<=1000000):NdSm 64 n:=(h.smI hc).mono (by decide)
theorem Few.wth (h:Few c n) (hk:key.length<=64) (hv:val.length<=256):Few (c+1) (wth n key val):=by
 obtain ⟨h1,h2,h3,h4,h5,h6⟩:=h
 unfold Go.Proofs.YtjcgphhpaenjkaaGreat.wth
 split
 ·refine ⟨by simp only;omega,by simp only [List.length_set];omega,by simp only;omega,h4,h5,λ v hm=>?_⟩
  rcases List.mem_or_eq_of_mem_set hm with h|rfl
  ·exact h6 v h
  ·exact hv
 ·refine ⟨by simp only [ins_lenP];omega,by simp only [ins_lenP];omega,by simp only;omega,h4,λ k hm=>?_,λ v hm=>?_⟩
  ·rcases mem_inP hm with rfl|h
   ·exact hk
   ·exact h5 k h
  ·rcases mem_inP hm with rfl|h
   ·exact hv
   ·exact h6 v h
theorem Few.jnd (h:Few c n) (hk:key.length<=64):Few (c+1) (jnd n key kid):=by
 obtain ⟨h1,h2,h3,h4,h5,h6⟩:=h
 unfold Go.Proofs.YtjcgphhpaenjkaaGreat.jnd
 split
 ·exact ⟨by omega,by omega,by omega,h4,h5,h6⟩
 ·refine ⟨by simp only [ins_lenP];omega,by simp only;omega,by simp only [ins_lenP];omega,h4,λ k hm=>?_,h6⟩
  rcases mem_inP hm with rfl|h
  ·exact hk
  ·exact h5 k h
theorem Few.spK (h:Few c n):(spK n).length<=64:=by
 have hd:∀ i,(n.keys.getD i []).length<=64:=λ i=>by
  rw [List.getD_eq_getElem?_getD]
  rcases hg:n.keys[i]? with _|k
  ·simp
  ·exact h.kb k (List.mem_of_getElem? hg)
 unfold Go.Proofs.YtjcgphhpaenjkaaGreat.spK
 split
 ·simp
 ·split<;>exact hd _
theorem Few.fit {leaf inner:Int} {d:Nat} (h:Few c n) (hr:right n=true) (ho:over n leaf inner=false) (h1:leaf<=d) (h2:inner<=(d:Int)+1):Few d n:=by
 obtain ⟨_,h3,h4⟩:=right_iff.1 hr
 unfold over at ho
 by_cases hl:n.lvl=0
 ·obtain ⟨h5,h6⟩:=h3 hl
  rw [if_pos hl] at ho
  have ho':¬leaf < n.keys.length:=by simpa using ho
  exact ⟨by omega,by omega,by omega,h.high,h.kb,h.vb⟩
 ·obtain ⟨h5,h6,h7⟩:=h4 hl
  rw [if_neg hl] at ho
  have ho':¬inner < n.kids.length:=by simpa using ho
  exact ⟨by omega,by omega,by omega,h.high,h.kb,h.vb⟩
theorem right_jnd (h:right n=true) (hl:n.lvl≠0):right (jnd n key kid)=true/\(jnd n key kid).lvl=n.lvl:=by
 obtain ⟨h1,_,h3⟩:=right_iff.1 h
 obtain ⟨h4,h5,h6⟩:=h3 hl
 unfold jnd
 cases hh:has n.keys key with
 | true=>rw [if_pos rfl];exact ⟨h,rfl⟩
 | false=>
  rw [if_neg (by decide)]
  exact ⟨right_iff.2 ⟨rs_ins h1 hh,λ he=>absurd he hl,λ _=>⟨h4,h5,by simp only [ins_lenP];omega⟩⟩,rfl⟩
theorem right_root {m:Pm} (hl:0 < m.level):right (rootNd m)=true:=right_iff.2 ⟨λ j a b ha hb=>by
 unfold rootNd at hb
 simp at hb,λ he=>by have h:m.level=0:=he;omega,λ _=>⟨hl,rfl,rfl⟩⟩
theorem few_root {m:Pm} (h:m.sep.length<=64):Few 1 (rootNd m):=⟨Nat.le_refl _,Nat.zero_le _,Nat.le_refl _,Nat.zero_le _,λ k hk=>by
 unfold rootNd at hk
 simp only [List.mem_cons,List.not_mem_nil,or_false] at hk
 rw [hk];exact h,λ _ h=>by cases h⟩
theorem few_half {leaf inner r:Int} (h:Few 7 n) (hr:right n=true) (ho:over n leaf inner=true) (h1:2<=leaf) (h2:3<=inner):¬spBad n/\Few 6 (spL n r)/\Few 6 (spR n):=by
 obtain ⟨_,h3,h4⟩:=right_iff.1 hr
 have hk:=h.spK
 unfold over at ho
 by_cases hl:n.lvl=0
 ·obtain ⟨h5,h6⟩:=h3 hl
  rw [if_pos hl] at ho
  have ho':leaf < n.keys.length:=by simpa using ho
  have h7:=h.keys
  have hm:spM n=n.keys.length:=by unfold spM;rw [if_pos hl]
  have hb:¬spBad n:=by unfold spBad;omega
  refine ⟨hb,?_,?_⟩
  ·unfold spL
   rw [if_neg hb,if_pos hl]
   exact ⟨by simp only [List.length_take];unfold spH;omega,by simp only [List.length_take];unfold spH;omega,by simp only;omega,hk,λ k hm=>h.kb k (List.mem_of_mem_take hm),λ v hm=>h.vb v (List.mem_of_mem_take hm)⟩
  ·unfold spR
   rw [if_neg hb,if_pos hl]
   exact ⟨by simp only [List.length_drop];unfold spH;omega,by simp only [List.length_drop];unfold spH;omega,by simp only;omega,h.high,λ k hm=>h.kb k (List.mem_of_mem_drop hm),λ v hm=>h.vb v (List.mem_of_mem_drop hm)⟩
 ·obtain ⟨h5,h6,h8⟩:=h4 hl
  rw [if_neg hl] at ho
  have ho':inner < n.kids.length:=by simpa using ho
  have h7:=h.keys
  have hm:spM n=n.kids.length:=by unfold spM;rw [if_neg hl]
  have hb:¬spBad n:=by unfold spBad;omega
  refine ⟨hb,?_,?_⟩
  ·unfold spL
   rw [if_neg hb,if_neg hl]
   exact ⟨by simp only [List.length_take];unfold spH;omega,by simp only;omega,by simp only [List.length_take];unfold spH;omega,hk,λ k hm=>h.kb k (List.mem_of_mem_take hm),h.vb⟩
  ·unfold spR
   rw [if_neg hb,if_neg hl]
   exact ⟨by simp only [List.length_drop];unfold spH;omega,by simp only;omega,by simp only [List.length_drop];unfold spH;omega,h.high,λ k hm=>h.kb k (List.mem_of_mem_drop hm),h.vb⟩
end
def Pm.holds (m:Pm):List Int:=
 if m.nx=8\/m.nx=9\/m.nx=10 then [m.id,m.fresh]
 else if 3<=m.nx/\m.nx<=13 then [m.id]
 else if 16<=m.nx/\m.nx<=18 then [m.root] else []
def Pm.pure (m:Pm):Prop:=m.nx=3\/(5<=m.nx/\m.nx<=11)
def Cur (A:Ar) (ps:List Pm) (id:Int) (w:Nat):Prop:=∃ s,A.get id=some s/\(s.word=w\/(s.word=w+1/\∃ m ∈ ps,m.pure/\m.id=id))
def HdEq (x y:Nd):Prop:=x.lvl=y.lvl/\x.high=y.high/\x.right=y.right
def Mc.read (d:Mc):Prop:=d.nx=.head\/d.nx=.body\/d.nx=.valid\/(d.nx=.done/\d.there=true)
structure DOk (A:Ar) (ps:List Pm) (d:Mc):Prop where
 here:d.read->∃ s,A.get d.id=some s/\d.word<=s.word/\d.word % 2=0
 head:d.nx=.body->Cur A ps d.id d.word->HdEq d.nd (opNd A d.id)
 all:d.nx=.valid\/(d.nx=.done/\d.there=true)->Cur A ps d.id d.word->d.nd=opNd A d.id
 lvl:d.there=true->d.nd.lvl=d.level
 few:Few 7 d.nd
 th:d.there=true->d.nx=.done
def PBase (A:Ar) (m:Pm):Prop:=(∃ s,A.get m.id=some s/\s.word=m.word+1/\s.nd=m.old)/\m.word % 2=0/\right m.old=true/\Few 6 m.old/\m.old.lvl=m.level
def PHalf (m:Pm):Prop:=(right m.left=true/\Few 6 m.left)/\(right m.right=true/\Few 6 m.right)/\m.btw.length<=64/\m.fresh≠m.id
def PEach (leaf inner:Int) (A:Ar) (m:Pm):Prop:=(m.nx≠0->m.nx≠20->m.sep.length<=64)/\0<=m.level/\(m.nx≠0->m.nx≠20->m.key.length<=64/\m.val.length<=256/\(∃ d,m.D=some d))/\match m.nx with
 | 1=>∃ d,m.D=some d/\d.nx≠.done/\d.level=m.level/\d.key=m.sep
 | 2=>∃ d,m.D=some d/\d.nx=.done/\d.there=true/\d.level=m.level/\m.id=d.id/\m.word=d.word/\m.old=d.nd
 | 3=>PBase A m/\right m.nw=true/\Few 6 m.nw/\HdEq m.nw m.old
 | 4=>opNd A m.id=m.nw/\right m.nw=true/\Few 6 m.nw
 | 5=>PBase A m
 | 6=>PBase A m/\right m.nw=true/\Few 7 m.nw/\over m.nw leaf inner=true
 | 7=>PBase A m
 | 8=>PBase A m/\PHalf m
 | 9=>PBase A m/\PHalf m/\HdEq (opNd A m.fresh) m.right
 | 10=>PBase A m/\PHalf m/\opNd A m.fresh=m.right
 | 11=>PBase A m/\PHalf m
 | 12=>PHalf m/\HdEq (opNd A m.id) m.left
 | 13=>PHalf m/\opNd A m.id=m.left
 | 14=>0 < m.level
 | 15=>0 < m.level
 | 16=>0 < m.level
 | 17=>0 < m.level/\HdEq (opNd A m.root) (rootNd m)
 | 18=>0 < m.level/\opNd A m.root=rootNd m
 | 19=>0 < m.level
 | _=>True
structure PInv (leaf inner:Int) (A:Ar) (ps:List Pm):Prop where
 free:∀ ix s,A.get ix=some s->s.word % 2=0->right s.nd=true/\Few 6 s.nd
 few:∀ s ∈ A.sl,Few 7 s.nd
 held:∀ m ∈ ps,∀ ix ∈ m.holds,∃ s,A.get ix=some s/\s.word % 2=1
 apart:∀ (i j:Nat) (m m':Pm),i≠j->ps[i]?=some m->ps[j]?=some m'->∀ ix ∈ m.holds,ix ∉ m'.holds
 each:∀ m ∈ ps,PEach leaf inner A m
 desc:∀ m ∈ ps,∀ d,m.D=some d->DOk A ps d
section
variable {A:Ar} {ps:List Pm} {d:Mc} {key:List UInt8} {level:Int}
theorem DOk.new:DOk A ps (Mc.new key level):=⟨(λ h=>by rcases h with h|h|h|⟨h,_⟩<;>cases h),(λ h=>by cases h),λ h=>(by rcases h with h|⟨h,_⟩<;>cases h),(λ h=>by cases h),Few.zero 7,(λ h=>by cases h)⟩
theorem few_slot (h:∀ s ∈ A.sl,Few 7 s.nd) (ix:Int):Few 7 (opNd A ix):=by
 rcases hg:A.get ix with _|s
 ·rw [opNd_none hg];exact Few.zero 7
 ·rw [opNd_some hg]
  obtain ⟨_,_,hi,_⟩:=get_some hg
  exact h s (List.mem_of_getElem? hi)
theorem few_hd {m n:Nd} (h1:Few 7 m) (h2:Few 7 n):Few 7 (withHd m n):=⟨h1.keys,h1.vals,h1.kids,h2.high,h1.kb,h1.vb⟩
theorem DOk.step (h:DOk A ps d) (hf:∀ s ∈ A.sl,Few 7 s.nd):DOk A ps (stepM A d):=by
 obtain ⟨h1,h2,h3,h4,h5,h6⟩:=h
 have hnt:d.nx≠.done->d.there≠true:=λ hn ht=>hn (h6 ht)
 rcases hnx:d.nx with _|_|_|_|_|_
 ·
  have e:stepM A d=rootM A d:=by unfold stepM;rw [hnx]
  have ht:=hnt (by rw [hnx];decide)
  rw [e]
  unfold rootM
  exact ⟨(λ h=>by rcases h with h|h|h|⟨h,_⟩<;>cases h),(λ h=>by cases h),λ h=>(by rcases h with h|⟨h,_⟩<;>cases h),λ h=>absurd h ht,h5,λ h=>absurd h ht⟩
 ·
  have ht:=hnt (by rw [hnx];decide)
  rcases hg:A.get d.id with _|s
  ·have e:stepM A d={latchM A d with nx:=.done}:=by unfold stepM;rw [hnx];simp only;rw [if_neg (by rw [opErr_none hg];decide)]
   rw [e]
   unfold latchM
   exact ⟨(λ h=>by rcases h with h|h|h|⟨_,h⟩<;>first|cases h|exact absurd h ht),(λ h=>by cases h),λ h=>(by rcases h with h|⟨_,h⟩<;>first|cases h|exact absurd h ht),λ h=>absurd h ht,h5,λ h=>absurd h ht⟩
  ·have e:stepM A d=latchM A d:=by unfold stepM;rw [hnx];simp only;rw [if_pos (opErr_some hg)]
   rw [e]
   have hw:opWord A d.id=s.word:=opWord_some hg
   by_cases hev:s.word % 2=0
   ·have e2:latchM A d={d with word:=s.word,nx:=.head}:=by unfold latchM;rw [hw,if_pos hev]
    rw [e2]
    exact ⟨λ _=>⟨s,hg,Nat.le_refl _,hev⟩,(λ h=>by cases h),λ h=>(by rcases h with h|⟨h,_⟩<;>cases h),λ h=>absurd h ht,h5,λ h=>absurd h ht⟩
   ·have e2:latchM A d={d with word:=s.word,nx:=.latch}:=by unfold latchM;rw [hw,if_neg hev,hnx]
    rw [e2]
    exact ⟨(λ h=>by rcases h with h|h|h|⟨h,_⟩<;>cases h),(λ h=>by cases h),λ h=>(by rcases h with h|⟨h,_⟩<;>cases h),λ h=>absurd h ht,h5,λ h=>absurd h ht⟩
 ·
  have ht:=hnt (by rw [hnx];decide)
  obtain ⟨s,hg,hle,hev⟩:=h1 (.inl hnx)
  have e:stepM A d=headM A d:=by unfold stepM;rw [hnx];simp only;rw [if_pos (opErr_some hg)]
  rw [e]
  unfold headM
  exact ⟨λ _=>⟨s,hg,hle,hev⟩,λ _ _=>⟨rfl,rfl,rfl⟩,λ h=>(by rcases h with h|⟨h,_⟩<;>cases h),λ h=>absurd h ht,few_hd h5 (few_slot hf _),λ h=>absurd h ht⟩
 ·
  have ht:=hnt (by rw [hnx];decide)
  obtain ⟨s,hg,hle,hev⟩:=h1 (.inr (.inl hnx))
  have e:stepM A d=bodyM A d:=by unfold stepM;rw [hnx];simp only;rw [if_pos (opErr_some hg)]
  rw [e]
  unfold bodyM
  refine ⟨λ _=>⟨s,hg,hle,hev⟩,(λ h=>by cases h),λ _ hc=>?_,λ h=>absurd h ht,few_hd (few_slot hf _) h5,λ h=>absurd h ht⟩
  obtain ⟨g1,g2,g3⟩:=h2 hnx hc
  unfold withHd
  simp only [g1,g2,g3]
 ·
  have ht:=hnt (by rw [hnx];decide)
  obtain ⟨s,hg,hle,hev⟩:=h1 (.inr (.inr (.inl hnx)))
  have e:stepM A d=decideM (opWord A d.id) d:=by unfold stepM;rw [hnx];simp only;rw [if_pos (opErr_some hg)]
  rw [e]
  unfold decideM
  split
  ·exact ⟨(λ h=>by rcases h with h|h|h|⟨h,_⟩<;>cases h),(λ h=>by cases h),λ h=>(by rcases h with h|⟨h,_⟩<;>cases h),λ h=>absurd h ht,h5,λ h=>absurd h ht⟩
  split
  ·exact ⟨(λ h=>by rcases h with h|h|h|⟨_,h⟩<;>first|cases h|exact absurd h ht),(λ h=>by cases h),λ h=>(by rcases h with h|⟨_,h⟩<;>first|cases h|exact absurd h ht),λ h=>absurd h ht,h5,λ h=>absurd h ht⟩
  split
  ·exact ⟨(λ h=>by rcases h with h|h|h|⟨h,_⟩<;>cases h),(λ h=>by cases h),λ h=>(by rcases h with h|⟨h,_⟩<;>cases h),λ h=>absurd h ht,h5,λ h=>absurd h ht⟩
  split
  ·rename_i hlv
   exact ⟨λ _=>⟨s,hg,hle,hev⟩,(λ h=>by cases h),λ _ hc=>h3 (.inl hnx) hc,λ _=>hlv,h5,λ _=>rfl⟩
  ·exact ⟨(λ h=>by rcases h with h|h|h|⟨h,_⟩<;>cases h),(λ h=>by cases h),λ h=>(by rcases h with h|⟨h,_⟩<;>cases h),λ h=>absurd h ht,h5,λ h=>absurd h ht⟩
 ·have e:stepM A d=d:=by unfold stepM;rw [hnx]
  rw [e]
  exact ⟨h1,h2,h3,h4,h5,h6⟩
theorem DOk.frame {A':Ar} {ps':List Pm} (h:DOk A ps d) (hh:∀ ix s,A.get ix=some s->∃ s',A'.get ix=some s'/\(s.word<=s'.word\/(s'.word+1=s.word/\s.word % 2=1)))
  (hc:∀ ix s w,A.get ix=some s->w<=s.word->w % 2=0->Cur A' ps' ix w->Cur A ps ix w/\opNd A' ix=opNd A ix):DOk A' ps' d:=by
 obtain ⟨h1,h2,h3,h4,h5,h6⟩:=h
 refine ⟨λ hr=>?_,λ hx hcu=>?_,λ hx hcu=>?_,h4,h5,h6⟩
 ·obtain ⟨s,hs,hle,hev⟩:=h1 hr
  obtain ⟨s',hs',hw⟩:=hh _ s hs
  exact ⟨s',hs',by omega,hev⟩
 ·obtain ⟨s,hs,hle,hev⟩:=h1 (.inr (.inl hx))
  obtain ⟨g1,g2⟩:=hc _ s _ hs hle hev hcu
  rw [g2]
  exact h2 hx g1
 ·obtain ⟨s,hs,hle,hev⟩:=h1 (by rcases hx with h|h;exact .inr (.inr (.inl h));exact .inr (.inr (.inr h)))
  obtain ⟨g1,g2⟩:=hc _ s _ hs hle hev hcu
  rw [g2]
  exact h3 hx g1
theorem cur_far {A':Ar} {ps':List Pm} {ix:Int} {w:Nat} (hp:∀ x ∈ ps',x.pure->x.id=ix->∃ y ∈ ps,y.pure/\y.id=ix) (hg:A'.get ix=A.get ix) (h:Cur A' ps' ix w):Cur A ps ix w/\opNd A' ix=opNd A ix:=by
 obtain ⟨s,hs,hw⟩:=h
 refine ⟨⟨s,by rw [<-hg];exact hs,?_⟩,by unfold opNd;rw [hg]⟩
 rcases hw with h|⟨h,x,hx,hxp,hxi⟩
 ·exact .inl h
 ·exact .inr ⟨h,hp x hx hxp hxi⟩
theorem set_mem {i:Nat} {m m' x:Pm} (hm:ps[i]?=some m) (hx:x ∈ ps.set i m'):x=m'\/(x ∈ ps/\∃ j,j≠i/\ps[j]?=some x):=by
 obtain ⟨j,hj⟩:=List.mem_iff_getElem?.1 hx
 rw [List.getElem?_set] at hj
 split at hj
 ·split at hj
  ·injection hj with hj;exact .inl hj.symm
  ·cases hj
 ·rename_i hne
  exact .inr ⟨List.mem_of_getElem? hj,j,λ e=>hne e.symm,hj⟩
theorem pure_set {i:Nat} {m m':Pm} {ix:Int} (hm:ps[i]?=some m) (hk:m'.pure->m'.id=ix->m.pure/\m.id=ix):∀ x ∈ ps.set i m',x.pure->x.id=ix->∃ y ∈ ps,y.pure/\y.id=ix:=λ x hx hp hi=>by
 rcases set_mem hm hx with rfl|⟨h,_⟩
 ·obtain ⟨h1,h2⟩:=hk hp hi
  exact ⟨m,List.mem_of_getElem? hm,h1,h2⟩
 ·exact ⟨x,h,hp,hi⟩
end
section
variable {A:Ar} {ix:Int} {s:Sl} {n:Nd}
end
section
variable {A B:Ar} {ix:Int} {s:Sl}
theorem unlock_held (hs:A.get ix=some s) (ho:s.word % 2=1) (c:Bool):opUnlock A ix c=(0,A.put ix ⟨back s.word c,s.nd⟩):=by
 unfold opUnlock;rw [hs];simp [ho]
end
section
variable {w:World} {G:Nat->Prop} {b p q:Nat} {A B:Ar} {ix:Int} {s:Sl}
theorem setHead_held {n:Nd} (hs:A.get ix=some s) (ho:s.word % 2=1):opSetHead A ix n=(0,A.put ix ⟨s.word,withHd s.nd n⟩):=by
 unfold opSetHead;rw [hs];simp [ho]
theorem setBody_held {n:Nd} (hs:A.get ix=some s) (ho:s.word % 2=1):opSetBody A ix n=(0,A.put ix ⟨s.word,withHd n s.nd⟩):=by
 unfold opSetBody;rw [hs];simp [ho]
theorem get_put_ne {j:Int} {t:Sl} (h1:1<=ix) (hj:j≠ix):(A.put ix t).get j=A.get j:=by
 unfold Ar.get Ar.put
 by_cases h:1<=j
 ·rw [if_pos h,if_pos h]
  show (A.sl.set _ _)[_]?=_
  rw [List.getElem?_set_ne (by omega)]
 ·rw [if_neg h,if_neg h]
end
end Go.Proofs.YtjcgphhpaenjkaaGreat

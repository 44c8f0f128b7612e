import Derived.Test.YtjcgphhpaenjkaaPkB3
set_option linter.unusedVariables false
namespace Go.Proofs.Ytjcgphhpaenjkaa
open Go.RowKit
theorem mem_inP {α:Type} {l:List α} {i:Nat} {x y:α} (h:y ∈ ins l i x):y=x\/y ∈ l:=by
 unfold ins at h
 rcases List.mem_append.1 h with h|h
 ·exact .inr (List.mem_of_mem_take h)
 ·rcases List.mem_cons.1 h with h|h
  ·exact .inl h
  ·exact .inr (List.mem_of_mem_drop h)
theorem ins_lenP {α:Type} (l:List α) (i:Nat) (x:α):(ins l i x).length=l.length+1:=by
 unfold ins
 rw [List.length_append,List.length_cons,List.length_take,List.length_drop]
 omega
structure Few (c:Nat) (n:Nd):Prop where
 keys:n.keys.length<=c
 vals:n.vals.length<=c
 kids:n.kids.length<=c+1
 high:n.high.length<=64
 kb:∀ k ∈ n.keys,k.length<=64
 vb:∀ v ∈ n.vals,v.length<=256
section
variable {c:Nat} {n:Nd} {key val:List UInt8} {kid:Int}
theorem Few.mono {d:Nat} (h:Few c n) (hd:c<=d):Few d n:=⟨by have:=h.keys;omega,by have:=h.vals;omega,by have:=h.kids;omega,h.high,h.kb,h.vb⟩
theorem Few.zero (c:Nat):Few c Nd.zero:=⟨Nat.zero_le _,Nat.zero_le _,Nat.zero_le _,Nat.zero_le _,(λ _ h=>by cases h),(λ _ h=>by cases h)⟩
theorem Few.smI (h:Few c n) (hc:c<=1000000):NdSm 100000000000000 n:=by
 obtain ⟨h1,h2,h3,h4,h5,h6⟩:=h
 refine ⟨by unfold Sm;omega,⟨by unfold Sm;omega,λ k hk=>?_⟩,⟨by unfold Sm;omega,λ v hv=>?_⟩,by unfold Sm;omega⟩
 ·have:=h5 k hk;unfold Sm;omega
 ·have:=h6 v hv;unfold Sm;omega
theorem Few.sm (h:Few c n) (hc:c<=1000000):NdSm 64 n:=(h.smI hc).mono (by decide)
theorem Few.wth (h:Few c n) (hk:key.length<=64) (hv:val.length<=256):Few (c+1) (wth n key val):=by
 obtain ⟨h1,h2,h3,h4,h5,h6⟩:=h
 unfold Go.Proofs.Ytjcgphhpaenjkaa.wth
 split
 ·refine ⟨by simp only;omega,by simp only [List.length_set];omega,by simp only;omega,h4,h5,λ v hm=>?_⟩
  rcases List.mem_or_eq_of_mem_set hm with h|rfl
  ·exact h6 v h
  ·exact hv
 ·refine ⟨by simp only [ins_lenP];omega,by simp only [ins_lenP];omega,by simp only;omega,h4,λ k hm=>?_,λ v hm=>?_⟩
  ·rcases mem_inP hm with rfl|h
   ·exact hk
   ·exact h5 k h
  ·rcases mem_inP hm with rfl|h
   ·exact hv
   ·exact h6 v h
theorem Few.jnd (h:Few c n) (hk:key.length<=64):Few (c+1) (jnd n key kid):=by
 obtain ⟨h1,h2,h3,h4,h5,h6⟩:=h
 unfold Go.Proofs.Ytjcgphhpaenjkaa.jnd
 split
 ·exact ⟨by omega,by omega,by omega,h4,h5,h6⟩
 ·refine ⟨by simp only [ins_lenP];omega,by simp only;omega,by simp only [ins_lenP];omega,h4,λ k hm=>?_,h6⟩
  rcases mem_inP hm with rfl|h
  ·exact hk
  ·exact h5 k h
theorem Few.spK (h:Few c n):(spK n).length<=64:=by
 have hd:∀ i,(n.keys.getD i []).length<=64:=λ i=>by
  rw [List.getD_eq_getElem?_getD]
  rcases hg:n.keys[i]? with _|k
  ·simp
  ·exact h.kb k (List.mem_of_getElem? hg)
 unfold Go.Proofs.Ytjcgphhpaenjkaa.spK
 split
 ·simp
 ·split<;>exact hd _
theorem Few.fit {leaf inner:Int} {d:Nat} (h:Few c n) (hr:right n=true) (ho:over n leaf inner=false) (h1:leaf<=d) (h2:inner<=(d:Int)+1):Few d n:=by
 obtain ⟨_,h3,h4⟩:=right_iff.1 hr
 unfold over at ho
 by_cases hl:n.lvl=0
 ·obtain ⟨h5,h6⟩:=h3 hl
  rw [if_pos hl] at ho
  have ho':¬leaf < n.keys.length:=by simpa using ho
  exact ⟨by omega,by omega,by omega,h.high,h.kb,h.vb⟩
 ·obtain ⟨h5,h6,h7⟩:=h4 hl
  rw [if_neg hl] at ho
  have ho':¬inner < n.kids.length:=by simpa using ho
  exact ⟨by omega,by omega,by omega,h.high,h.kb,h.vb⟩
theorem right_jnd (h:right n=true) (hl:n.lvl≠0):right (jnd n key kid)=true/\(jnd n key kid).lvl=n.lvl:=by
 obtain ⟨h1,_,h3⟩:=right_iff.1 h
 obtain ⟨h4,h5,h6⟩:=h3 hl
 unfold jnd
 cases hh:has n.keys key with
 | true=>rw [if_pos rfl];exact ⟨h,rfl⟩
 | false=>
  rw [if_neg (by decide)]
  exact ⟨right_iff.2 ⟨rs_ins h1 hh,λ he=>absurd he hl,λ _=>⟨h4,h5,by simp only [ins_lenP];omega⟩⟩,rfl⟩
theorem right_root {m:Pm} (hl:0 < m.level):right (rootNd m)=true:=right_iff.2 ⟨λ j a b ha hb=>by
 unfold rootNd at hb
 simp at hb,λ he=>by have h:m.level=0:=he;omega,λ _=>⟨hl,rfl,rfl⟩⟩
theorem few_root {m:Pm} (h:m.sep.length<=64):Few 1 (rootNd m):=⟨Nat.le_refl _,Nat.zero_le _,Nat.le_refl _,Nat.zero_le _,λ k hk=>by
 unfold rootNd at hk
 simp only [List.mem_cons,List.not_mem_nil,or_false] at hk
 rw [hk];exact h,λ _ h=>by cases h⟩
theorem few_half {leaf inner r:Int} (h:Few 7 n) (hr:right n=true) (ho:over n leaf inner=true) (h1:2<=leaf) (h2:3<=inner):¬spBad n/\Few 6 (spL n r)/\Few 6 (spR n):=by
 obtain ⟨_,h3,h4⟩:=right_iff.1 hr
 have hk:=h.spK
 unfold over at ho
 by_cases hl:n.lvl=0
 ·obtain ⟨h5,h6⟩:=h3 hl
  rw [if_pos hl] at ho
  have ho':leaf < n.keys.length:=by simpa using ho
  have h7:=h.keys
  have hm:spM n=n.keys.length:=by unfold spM;rw [if_pos hl]
  have hb:¬spBad n:=by unfold spBad;omega
  refine ⟨hb,?_,?_⟩
  ·unfold spL
   rw [if_neg hb,if_pos hl]
   exact ⟨by simp only [List.length_take];unfold spH;omega,by simp only [List.length_take];unfold spH;omega,by simp only;omega,hk,λ k hm=>h.kb k (List.mem_of_mem_take hm),λ v hm=>h.vb v (List.mem_of_mem_take hm)⟩
  ·unfold spR
   rw [if_neg hb,if_pos hl]
   exact ⟨by simp only [List.length_drop];unfold spH;omega,by simp only [List.length_drop];unfold spH;omega,by simp only;omega,h.high,λ k hm=>h.kb k (List.mem_of_mem_drop hm),λ v hm=>h.vb v (List.mem_of_mem_drop hm)⟩
 ·obtain ⟨h5,h6,h8⟩:=h4 hl
  rw [if_neg hl] at ho
  have ho':inner < n.kids.length:=by simpa using ho
  have h7:=h.keys
  have hm:spM n=n.kids.length:=by unfold spM;rw [if_neg hl]
  have hb:¬spBad n:=by unfold spBad;omega
  refine ⟨hb,?_,?_⟩
  ·unfold spL
   rw [if_neg hb,if_neg hl]
   exact ⟨by simp only [List.length_take];unfold spH;omega,by simp only;omega,by simp only [List.length_take];unfold spH;omega,hk,λ k hm=>h.kb k (List.mem_of_mem_take hm),h.vb⟩
  ·unfold spR
   rw [if_neg hb,if_neg hl]
   exact ⟨by simp only [List.length_drop];unfold spH;omega,by simp only;omega,by simp only [List.length_drop];unfold spH;omega,h.high,λ k hm=>h.kb k (List.mem_of_mem_drop hm),h.vb⟩
end
def Pm.holds (m:Pm):List Int:=
 if m.nx=8\/m.nx=9\/m.nx=10 then [m.id,m.fresh]
 else if 3<=m.nx/\m.nx<=13 then [m.id]
 else if 16<=m.nx/\m.nx<=18 then [m.root] else []
def Pm.pure (m:Pm):Prop:=m.nx=3\/(5<=m.nx/\m.nx<=11)
def Cur (A:Ar) (ps:List Pm) (id:Int) (w:Nat):Prop:=∃ s,A.get id=some s/\(s.word=w\/(s.word=w+1/\∃ m ∈ ps,m.pure/\m.id=id))
def HdEq (x y:Nd):Prop:=x.lvl=y.lvl/\x.high=y.high/\x.right=y.right
def Mc.read (d:Mc):Prop:=d.nx=.head\/d.nx=.body\/d.nx=.valid\/(d.nx=.done/\d.there=true)
structure DOk (A:Ar) (ps:List Pm) (d:Mc):Prop where
 here:d.read->∃ s,A.get d.id=some s/\d.word<=s.word/\d.word % 2=0
 head:d.nx=.body->Cur A ps d.id d.word->HdEq d.nd (opNd A d.id)
 all:d.nx=.valid\/(d.nx=.done/\d.there=true)->Cur A ps d.id d.word->d.nd=opNd A d.id
 lvl:d.there=true->d.nd.lvl=d.level
 few:Few 7 d.nd
 th:d.there=true->d.nx=.done
def PBase (A:Ar) (m:Pm):Prop:=(∃ s,A.get m.id=some s/\s.word=m.word+1/\s.nd=m.old)/\m.word % 2=0/\right m.old=true/\Few 6 m.old/\m.old.lvl=m.level
def PHalf (m:Pm):Prop:=(right m.left=true/\Few 6 m.left)/\(right m.right=true/\Few 6 m.right)/\m.btw.length<=64/\m.fresh≠m.id
def PEach (leaf inner:Int) (A:Ar) (m:Pm):Prop:=(m.nx≠0->m.nx≠20->m.sep.length<=64)/\0<=m.level/\(m.nx≠0->m.nx≠20->m.key.length<=64/\m.val.length<=256/\(∃ d,m.D=some d))/\match m.nx with
 | 1=>∃ d,m.D=some d/\d.nx≠.done/\d.level=m.level/\d.key=m.sep
 | 2=>∃ d,m.D=some d/\d.nx=.done/\d.there=true/\d.level=m.level/\m.id=d.id/\m.word=d.word/\m.old=d.nd
 | 3=>PBase A m/\right m.nw=true/\Few 6 m.nw/\HdEq m.nw m.old
 | 4=>opNd A m.id=m.nw/\right m.nw=true/\Few 6 m.nw
 | 5=>PBase A m
 | 6=>PBase A m/\right m.nw=true/\Few 7 m.nw/\over m.nw leaf inner=true
 | 7=>PBase A m
 | 8=>PBase A m/\PHalf m
 | 9=>PBase A m/\PHalf m/\HdEq (opNd A m.fresh) m.right
 | 10=>PBase A m/\PHalf m/\opNd A m.fresh=m.right
 | 11=>PBase A m/\PHalf m
 | 12=>PHalf m/\HdEq (opNd A m.id) m.left
 | 13=>PHalf m/\opNd A m.id=m.left
 | 14=>0 < m.level
 | 15=>0 < m.level
 | 16=>0 < m.level
 | 17=>0 < m.level/\HdEq (opNd A m.root) (rootNd m)
 | 18=>0 < m.level/\opNd A m.root=rootNd m
 | 19=>0 < m.level
 | _=>True
structure PInv (leaf inner:Int) (A:Ar) (ps:List Pm):Prop where
 free:∀ ix s,A.get ix=some s->s.word % 2=0->right s.nd=true/\Few 6 s.nd
 few:∀ s ∈ A.sl,Few 7 s.nd
 held:∀ m ∈ ps,∀ ix ∈ m.holds,∃ s,A.get ix=some s/\s.word % 2=1
 apart:∀ (i j:Nat) (m m':Pm),i≠j->ps[i]?=some m->ps[j]?=some m'->∀ ix ∈ m.holds,ix ∉ m'.holds
 each:∀ m ∈ ps,PEach leaf inner A m
 desc:∀ m ∈ ps,∀ d,m.D=some d->DOk A ps d
section
variable {A:Ar} {ps:List Pm} {d:Mc} {key:List UInt8} {level:Int}
theorem DOk.new:DOk A ps (Mc.new key level):=⟨(λ h=>by rcases h with h|h|h|⟨h,_⟩<;>cases h),(λ h=>by cases h),λ h=>(by rcases h with h|⟨h,_⟩<;>cases h),(λ h=>by cases h),Few.zero 7,(λ h=>by cases h)⟩
theorem few_slot (h:∀ s ∈ A.sl,Few 7 s.nd) (ix:Int):Few 7 (opNd A ix):=by
 rcases hg:A.get ix with _|s
 ·rw [opNd_none hg];exact Few.zero 7
 ·rw [opNd_some hg]
  obtain ⟨_,_,hi,_⟩:=get_some hg
  exact h s (List.mem_of_getElem? hi)
theorem few_hd {m n:Nd} (h1:Few 7 m) (h2:Few 7 n):Few 7 (withHd m n):=⟨h1.keys,h1.vals,h1.kids,h2.high,h1.kb,h1.vb⟩
theorem DOk.step (h:DOk A ps d) (hf:∀ s ∈ A.sl,Few 7 s.nd):DOk A ps (stepM A d):=by
 obtain ⟨h1,h2,h3,h4,h5,h6⟩:=h
 have hnt:d.nx≠.done->d.there≠true:=λ hn ht=>hn (h6 ht)
 rcases hnx:d.nx with _|_|_|_|_|_
 ·
  have e:stepM A d=rootM A d:=by unfold stepM;rw [hnx]
  have ht:=hnt (by rw [hnx];decide)
  rw [e]
  unfold rootM
  exact ⟨(λ h=>by rcases h with h|h|h|⟨h,_⟩<;>cases h),(λ h=>by cases h),λ h=>(by rcases h with h|⟨h,_⟩<;>cases h),λ h=>absurd h ht,h5,λ h=>absurd h ht⟩
 ·
  have ht:=hnt (by rw [hnx];decide)
  rcases hg:A.get d.id with _|s
  ·have e:stepM A d={latchM A d with nx:=.done}:=by unfold stepM;rw [hnx];simp only;rw [if_neg (by rw [opErr_none hg];decide)]
   rw [e]
   unfold latchM
   exact ⟨(λ h=>by rcases h with h|h|h|⟨_,h⟩<;>first|cases h|exact absurd h ht),(λ h=>by cases h),λ h=>(by rcases h with h|⟨_,h⟩<;>first|cases h|exact absurd h ht),λ h=>absurd h ht,h5,λ h=>absurd h ht⟩
  ·have e:stepM A d=latchM A d:=by unfold stepM;rw [hnx];simp only;rw [if_pos (opErr_some hg)]
   rw [e]
   have hw:opWord A d.id=s.word:=opWord_some hg
   by_cases hev:s.word % 2=0
   ·have e2:latchM A d={d with word:=s.word,nx:=.head}:=by unfold latchM;rw [hw,if_pos hev]
    rw [e2]
    exact ⟨λ _=>⟨s,hg,Nat.le_refl _,hev⟩,(λ h=>by cases h),λ h=>(by rcases h with h|⟨h,_⟩<;>cases h),λ h=>absurd h ht,h5,λ h=>absurd h ht⟩
   ·have e2:latchM A d={d with word:=s.word,nx:=.latch}:=by unfold latchM;rw [hw,if_neg hev,hnx]
    rw [e2]
    exact ⟨(λ h=>by rcases h with h|h|h|⟨h,_⟩<;>cases h),(λ h=>by cases h),λ h=>(by rcases h with h|⟨h,_⟩<;>cases h),λ h=>absurd h ht,h5,λ h=>absurd h ht⟩
 ·
  have ht:=hnt (by rw [hnx];decide)
  obtain ⟨s,hg,hle,hev⟩:=h1 (.inl hnx)
  have e:stepM A d=headM A d:=by unfold stepM;rw [hnx];simp only;rw [if_pos (opErr_some hg)]
  rw [e]
  unfold headM
  exact ⟨λ _=>⟨s,hg,hle,hev⟩,λ _ _=>⟨rfl,rfl,rfl⟩,λ h=>(by rcases h with h|⟨h,_⟩<;>cases h),λ h=>absurd h ht,few_hd h5 (few_slot hf _),λ h=>absurd h ht⟩
 ·
  have ht:=hnt (by rw [hnx];decide)
  obtain ⟨s,hg,hle,hev⟩:=h1 (.inr (.inl hnx))
  have e:stepM A d=bodyM A d:=by unfold stepM;rw [hnx];simp only;rw [if_pos (opErr_some hg)]
  rw [e]
  unfold bodyM
  refine ⟨λ _=>⟨s,hg,hle,hev⟩,(λ h=>by cases h),λ _ hc=>?_,λ h=>absurd h ht,few_hd (few_slot hf _) h5,λ h=>absurd h ht⟩
  obtain ⟨g1,g2,g3⟩:=h2 hnx hc
  unfold withHd
  simp only [g1,g2,g3]
 ·
  have ht:=hnt (by rw [hnx];decide)
  obtain ⟨s,hg,hle,hev⟩:=h1 (.inr (.inr (.inl hnx)))
  have e:stepM A d=decideM (opWord A d.id) d:=by unfold stepM;rw [hnx];simp only;rw [if_pos (opErr_some hg)]
  rw [e]
  unfold decideM
  split
  ·exact ⟨(λ h=>by rcases h with h|h|h|⟨h,_⟩<;>cases h),(λ h=>by cases h),λ h=>(by rcases h with h|⟨h,_⟩<;>cases h),λ h=>absurd h ht,h5,λ h=>absurd h ht⟩
  split
  ·exact ⟨(λ h=>by rcases h with h|h|h|⟨_,h⟩<;>first|cases h|exact absurd h ht),(λ h=>by cases h),λ h=>(by rcases h with h|⟨_,h⟩<;>first|cases h|exact absurd h ht),λ h=>absurd h ht,h5,λ h=>absurd h ht⟩
  split
  ·exact ⟨(λ h=>by rcases h with h|h|h|⟨h,_⟩<;>cases h),(λ h=>by cases h),λ h=>(by rcases h with h|⟨h,_⟩<;>cases h),λ h=>absurd h ht,h5,λ h=>absurd h ht⟩
  split
  ·rename_i hlv
   exact ⟨λ _=>⟨s,hg,hle,hev⟩,(λ h=>by cases h),λ _ hc=>h3 (.inl hnx) hc,λ _=>hlv,h5,λ _=>rfl⟩
  ·exact ⟨(λ h=>by rcases h with h|h|h|⟨h,_⟩<;>cases h),(λ h=>by cases h),λ h=>(by rcases h with h|⟨h,_⟩<;>cases h),λ h=>absurd h ht,h5,λ h=>absurd h ht⟩
 ·have e:stepM A d=d:=by unfold stepM;rw [hnx]
  rw [e]
  exact ⟨h1,h2,h3,h4,h5,h6⟩
theorem DOk.frame {A':Ar} {ps':List Pm} (h:DOk A ps d) (hh:∀ ix s,A.get ix=some s->∃ s',A'.get ix=some s'/\(s.word<=s'.word\/(s'.word+1=s.word/\s.word % 2=1)))
  (hc:∀ ix s w,A.get ix=some s->w<=s.word->w % 2=0->Cur A' ps' ix w->Cur A ps ix w/\opNd A' ix=opNd A ix):DOk A' ps' d:=by
 obtain ⟨h1,h2,h3,h4,h5,h6⟩:=h
 refine ⟨λ hr=>?_,λ hx hcu=>?_,λ hx hcu=>?_,h4,h5,h6⟩
 ·obtain ⟨s,hs,hle,hev⟩:=h1 hr
  obtain ⟨s',hs',hw⟩:=hh _ s hs
  exact ⟨s',hs',by omega,hev⟩
 ·obtain ⟨s,hs,hle,hev⟩:=h1 (.inr (.inl hx))
  obtain ⟨g1,g2⟩:=hc _ s _ hs hle hev hcu
  rw [g2]
  exact h2 hx g1
 ·obtain ⟨s,hs,hle,hev⟩:=h1 (by rcases hx with h|h;exact .inr (.inr (.inl h));exact .inr (.inr (.inr h)))
  obtain ⟨g1,g2⟩:=hc _ s _ hs hle hev hcu
  rw [g2]
  exact h3 hx g1
theorem cur_far {A':Ar} {ps':List Pm} {ix:Int} {w:Nat} (hp:∀ x ∈ ps',x.pure->x.id=ix->∃ y ∈ ps,y.pure/\y.id=ix) (hg:A'.get ix=A.get ix) (h:Cur A' ps' ix w):Cur A ps ix w/\opNd A' ix=opNd A ix:=by
 obtain ⟨s,hs,hw⟩:=h
 refine ⟨⟨s,by rw [<-hg];exact hs,?_⟩,by unfold opNd;rw [hg]⟩
 rcases hw with h|⟨h,x,hx,hxp,hxi⟩
 ·exact .inl h
 ·exact .inr ⟨h,hp x hx hxp hxi⟩
theorem set_mem {i:Nat} {m m' x:Pm} (hm:ps[i]?=some m) (hx:x ∈ ps.set i m'):x=m'\/(x ∈ ps/\∃ j,j≠i/\ps[j]?=some x):=by
 obtain ⟨j,hj⟩:=List.mem_iff_getElem?.1 hx
 rw [List.getElem?_set] at hj
 split at hj
 ·split at hj
  ·injection hj with hj;exact .inl hj.symm
  ·cases hj
 ·rename_i hne
  exact .inr ⟨List.mem_of_getElem? hj,j,λ e=>hne e.symm,hj⟩
theorem pure_set {i:Nat} {m m':Pm} {ix:Int} (hm:ps[i]?=some m) (hk:m'.pure->m'.id=ix->m.pure/\m.id=ix):∀ x ∈ ps.set i m',x.pure->x.id=ix->∃ y ∈ ps,y.pure/\y.id=ix:=λ x hx hp hi=>by
 rcases set_mem hm hx with rfl|⟨h,_⟩
 ·obtain ⟨h1,h2⟩:=hk hp hi
  exact ⟨m,List.mem_of_getElem? hm,h1,h2⟩
 ·exact ⟨x,h,hp,hi⟩
end
theorem put_len' (A:Ar) (ix:Int) (s:Sl):(A.put ix s).sl.length=A.sl.length:=by simp [Ar.put]
theorem len_unlock (A:Ar) (ix:Int) (c:Bool):(opUnlock A ix c).2.sl.length=A.sl.length:=by
 unfold opUnlock;split
 ·rfl
 ·split
  ·rfl
  ·exact put_len' _ _ _
theorem len_setHead (A:Ar) (ix:Int) (n:Nd):(opSetHead A ix n).2.sl.length=A.sl.length:=by
 unfold opSetHead;split
 ·rfl
 ·split
  ·rfl
  ·exact put_len' _ _ _
theorem len_setBody (A:Ar) (ix:Int) (n:Nd):(opSetBody A ix n).2.sl.length=A.sl.length:=by
 unfold opSetBody;split
 ·rfl
 ·split
  ·rfl
  ·exact put_len' _ _ _
theorem len_grow (A:Ar) (o ix:Int):(opGrow A o ix).2.2.sl.length=A.sl.length:=by
 unfold opGrow;split
 ·rfl
 ·split<;>rfl
section
variable {A:Ar} {ix:Int} {s:Sl} {n:Nd}
end
section
variable {A B:Ar} {ix:Int} {s:Sl}
theorem unlock_held (hs:A.get ix=some s) (ho:s.word % 2=1) (c:Bool):opUnlock A ix c=(0,A.put ix ⟨back s.word c,s.nd⟩):=by
 unfold opUnlock;rw [hs];simp [ho]
end
section
variable {w:World} {G:Nat->Prop} {b p q:Nat} {A B:Ar} {ix:Int} {s:Sl}
theorem setHead_held {n:Nd} (hs:A.get ix=some s) (ho:s.word % 2=1):opSetHead A ix n=(0,A.put ix ⟨s.word,withHd s.nd n⟩):=by
 unfold opSetHead;rw [hs];simp [ho]
theorem setBody_held {n:Nd} (hs:A.get ix=some s) (ho:s.word % 2=1):opSetBody A ix n=(0,A.put ix ⟨s.word,withHd n s.nd⟩):=by
 unfold opSetBody;rw [hs];simp [ho]
theorem get_put_ne {j:Int} {t:Sl} (h1:1<=ix) (hj:j≠ix):(A.put ix t).get j=A.get j:=by
 unfold Ar.get Ar.put
 by_cases h:1<=j
 ·rw [if_pos h,if_pos h]
  show (A.sl.set _ _)[_]?=_
  rw [List.getElem?_set_ne (by omega)]
 ·rw [if_neg h,if_neg h]
end
section
variable {A A':Ar} {ps:List Pm} {m m':Pm} {leaf inner:Int} {i:Nat}
theorem holds_id (h1:3<=m.nx) (h2:m.nx<=13):m.id ∈ m.holds:=by
 unfold Pm.holds
 split
 ·exact List.mem_cons_self ..
 ·rw [if_pos ⟨h1,h2⟩];exact List.mem_cons_self ..
theorem holds_fresh (h1:8<=m.nx) (h2:m.nx<=10):m.fresh ∈ m.holds:=by
 unfold Pm.holds
 rw [if_pos (by omega)]
 exact List.mem_cons_of_mem _ (List.mem_cons_self ..)
theorem holds_root (h1:16<=m.nx) (h2:m.nx<=18):m.root ∈ m.holds:=by
 unfold Pm.holds
 rw [if_neg (by omega),if_neg (by omega),if_pos ⟨h1,h2⟩]
 exact List.mem_cons_self ..
theorem pure_holds (h:m.pure):m.id ∈ m.holds:=by
 unfold Pm.pure at h
 exact holds_id (by omega) (by omega)
theorem opNd_same {ix:Int} (h:A'.get ix=A.get ix):opNd A' ix=opNd A ix:=by unfold opNd;rw [h]
theorem PBase.frame (h:PBase A m) (hg:A'.get m.id=A.get m.id):PBase A' m:=by
 obtain ⟨⟨s,h1,h2⟩,h3⟩:=h
 exact ⟨⟨s,by rw [hg];exact h1,h2⟩,h3⟩
theorem PEach.frame (h:PEach leaf inner A m) (hg:∀ ix ∈ m.holds,A'.get ix=A.get ix):PEach leaf inner A' m:=by
 unfold PEach at *
 obtain ⟨a,b,c,h⟩:=h
 refine ⟨a,b,c,?_⟩
 have hid:3<=m.nx->m.nx<=13->A'.get m.id=A.get m.id:=λ h1 h2=>hg _ (holds_id h1 h2)
 have hfr:8<=m.nx->m.nx<=10->A'.get m.fresh=A.get m.fresh:=λ h1 h2=>hg _ (holds_fresh h1 h2)
 have hro:16<=m.nx->m.nx<=18->A'.get m.root=A.get m.root:=λ h1 h2=>hg _ (holds_root h1 h2)
 clear hg a b c
 generalize m.nx=k at *
 rcases k with _|_|_|_|_|_|_|_|_|_|_|_|_|_|_|_|_|_|_|_|k
 ·trivial
 ·exact h
 ·exact h
 ·exact ⟨h.1.frame (hid (by omega) (by omega)),h.2⟩
 ·exact ⟨(opNd_same (hid (by omega) (by omega))).trans h.1,h.2⟩
 ·exact PBase.frame h (hid (by omega) (by omega))
 ·exact ⟨h.1.frame (hid (by omega) (by omega)),h.2⟩
 ·exact PBase.frame h (hid (by omega) (by omega))
 ·exact ⟨h.1.frame (hid (by omega) (by omega)),h.2⟩
 ·exact ⟨h.1.frame (hid (by omega) (by omega)),h.2.1,by rw [opNd_same (hfr (by omega) (by omega))];exact h.2.2⟩
 ·exact ⟨h.1.frame (hid (by omega) (by omega)),h.2.1,(opNd_same (hfr (by omega) (by omega))).trans h.2.2⟩
 ·exact ⟨h.1.frame (hid (by omega) (by omega)),h.2⟩
 ·exact ⟨h.1,by rw [opNd_same (hid (by omega) (by omega))];exact h.2⟩
 ·exact ⟨h.1,(opNd_same (hid (by omega) (by omega))).trans h.2⟩
 ·exact h
 ·exact h
 ·exact h
 ·exact ⟨h.1,by rw [opNd_same (hro (by omega) (by omega))];exact h.2⟩
 ·exact ⟨h.1,(opNd_same (hro (by omega) (by omega))).trans h.2⟩
 ·exact h
 ·trivial
theorem PInv.turn (h:PInv leaf inner A ps) (hm:ps[i]?=some m)
  (hfree:∀ ix s,A'.get ix=some s->s.word % 2=0->right s.nd=true/\Few 6 s.nd) (hfew:∀ s ∈ A'.sl,Few 7 s.nd)
  (hheld:∀ ix ∈ m'.holds,∃ s,A'.get ix=some s/\s.word % 2=1) (hoth:∀ j x,j≠i->ps[j]?=some x->∀ ix ∈ x.holds,A'.get ix=A.get ix/\ix ∉ m'.holds)
  (heach:PEach leaf inner A' m') (hdesc:∀ d,m'.D=some d->DOk A' (ps.set i m') d)
  (hh:∀ ix s,A.get ix=some s->∃ s',A'.get ix=some s'/\(s.word<=s'.word\/(s'.word+1=s.word/\s.word % 2=1)))
  (hc:∀ ix s w,A.get ix=some s->w<=s.word->w % 2=0->Cur A' (ps.set i m') ix w->Cur A ps ix w/\opNd A' ix=opNd A ix):PInv leaf inner A' (ps.set i m'):=by
 have hget:∀ j x,(ps.set i m')[j]?=some x->(j=i/\x=m')\/(j≠i/\ps[j]?=some x):=λ j x hj=>by
  rw [List.getElem?_set] at hj
  split at hj
  ·rename_i e
   split at hj
   ·injection hj with hj;exact .inl ⟨e.symm,hj.symm⟩
   ·cases hj
  ·rename_i hne
   exact .inr ⟨λ e=>hne e.symm,hj⟩
 refine ⟨hfree,hfew,λ x hx ix hix=>?_,λ j k x y hjk hj hk ix hix=>?_,λ x hx=>?_,λ x hx d hd=>?_⟩
 ·rcases set_mem hm hx with rfl|⟨h1,j,h2,h3⟩
  ·exact hheld ix hix
  ·rw [(hoth j x h2 h3 ix hix).1];exact h.held x h1 ix hix
 ·rcases hget j x hj with ⟨rfl,rfl⟩|⟨h1,h2⟩
  ·rcases hget k y hk with ⟨rfl,rfl⟩|⟨h3,h4⟩
   ·exact absurd rfl hjk
   ·exact λ hy=>(hoth k y h3 h4 ix hy).2 hix
  ·rcases hget k y hk with ⟨rfl,rfl⟩|⟨h3,h4⟩
   ·exact (hoth j x h1 h2 ix hix).2
   ·exact h.apart j k x y hjk h2 h4 ix hix
 ·rcases set_mem hm hx with rfl|⟨h1,j,h2,h3⟩
  ·exact heach
  ·exact (h.each x h1).frame (λ ix hix=>(hoth j x h2 h3 ix hix).1)
 ·rcases set_mem hm hx with rfl|⟨h1,j,h2,h3⟩
  ·exact hdesc d hd
  ·exact (h.desc x h1 d hd).frame hh hc
theorem get_pos {ix:Int} {s:Sl} (h:A.get ix=some s):1<=ix:=by
 unfold Ar.get at h
 split at h
 ·assumption
 ·cases h
theorem get_sl {ix:Int} (h:A'.sl=A.sl):A'.get ix=A.get ix:=by unfold Ar.get;rw [h]
theorem PInv.still (h:PInv leaf inner A ps) (hm:ps[i]?=some m) (hsl:A'.sl=A.sl) (hheld:∀ ix ∈ m'.holds,ix ∈ m.holds)
  (hpure:m'.pure->m.pure/\m'.id=m.id) (heach:PEach leaf inner A' m') (hdesc:∀ d,m'.D=some d->DOk A ps d):PInv leaf inner A' (ps.set i m'):=by
 have hmm:=List.mem_of_getElem? hm
 have hh:∀ ix s,A.get ix=some s->∃ s',A'.get ix=some s'/\(s.word<=s'.word\/(s'.word+1=s.word/\s.word % 2=1)):=λ ix s hs=>⟨s,by rw [get_sl hsl];exact hs,.inl (Nat.le_refl _)⟩
 have hc:∀ ix s w,A.get ix=some s->w<=s.word->w % 2=0->Cur A' (ps.set i m') ix w->Cur A ps ix w/\opNd A' ix=opNd A ix:=λ ix s w _ _ _ hcu=>
  cur_far (pure_set hm (λ hp hi=>by obtain ⟨h1,h2⟩:=hpure hp;exact ⟨h1,by rw [<-h2];exact hi⟩)) (get_sl hsl) hcu
 refine h.turn hm (λ ix s hs he=>h.free ix s (by rw [get_sl hsl] at hs;exact hs) he) (by rw [hsl];exact h.few) (λ ix hix=>?_) (λ j x hj hx ix hix=>⟨get_sl hsl,λ hm'=>?_⟩) heach (λ d hd=>(hdesc d hd).frame hh hc) hh hc
 ·rw [get_sl hsl];exact h.held m hmm ix (hheld ix hix)
 ·exact h.apart j i x m hj hx hm ix hix (hheld ix hm')
theorem PInv.put {ix0:Int} {s t:Sl} (h:PInv leaf inner A ps) (hm:ps[i]?=some m) (hs:A.get ix0=some s) (hown:∀ j x,j≠i->ps[j]?=some x->ix0 ∉ x.holds)
  (hfree:t.word % 2=0->right t.nd=true/\Few 6 t.nd) (hfew:Few 7 t.nd) (hheld:∀ ix ∈ m'.holds,(ix=ix0/\t.word % 2=1)\/(ix≠ix0/\ix ∈ m.holds))
  (hw:s.word<=t.word\/(t.word+1=s.word/\s.word % 2=1)) (hpure:m'.pure->m'.id=m.id/\(m.pure\/m.id=ix0))
  (hcur:∀ w,w<=s.word->w % 2=0->Cur (A.put ix0 t) (ps.set i m') ix0 w->Cur A ps ix0 w/\t.nd=s.nd)
  (heach:PEach leaf inner (A.put ix0 t) m') (hdesc:∀ d,m'.D=some d->DOk A ps d):PInv leaf inner (A.put ix0 t) (ps.set i m'):=by
 have hmm:=List.mem_of_getElem? hm
 have h1:=get_pos hs
 have hne:∀ ix,ix≠ix0->(A.put ix0 t).get ix=A.get ix:=λ ix hx=>get_put_ne h1 hx
 have he:=put_get hs t
 have hh:∀ ix s,A.get ix=some s->∃ s',(A.put ix0 t).get ix=some s'/\(s.word<=s'.word\/(s'.word+1=s.word/\s.word % 2=1)):=λ ix s1 hs1=>by
  by_cases hx:ix=ix0
  ·subst hx
   rw [hs] at hs1;injection hs1 with hs1
   exact ⟨t,he,by rw [<-hs1];exact hw⟩
  ·exact ⟨s1,by rw [hne ix hx];exact hs1,.inl (Nat.le_refl _)⟩
 have hc:∀ ix s w,A.get ix=some s->w<=s.word->w % 2=0->Cur (A.put ix0 t) (ps.set i m') ix w->Cur A ps ix w/\opNd (A.put ix0 t) ix=opNd A ix:=λ ix s1 w hs1 hl hev hcu=>by
  by_cases hx:ix=ix0
  ·subst hx
   rw [hs] at hs1;injection hs1 with hs1
   obtain ⟨g1,g2⟩:=hcur w (by rw [hs1];exact hl) hev hcu
   exact ⟨g1,by rw [opNd_some he,opNd_some hs];exact g2⟩
  ·refine cur_far (pure_set hm (λ hp hi=>?_)) (hne ix hx) hcu
   obtain ⟨g1,g2⟩:=hpure hp
   rcases g2 with g2|g2
   ·exact ⟨g2,by rw [<-g1];exact hi⟩
   ·exact absurd (by rw [<-hi,g1];exact g2) hx
 refine h.turn hm (λ ix s1 hs1 hev=>?_) (λ s1 hs1=>?_) (λ ix hix=>?_) (λ j x hj hx ix hix=>⟨?_,λ hm'=>?_⟩) heach (λ d hd=>(hdesc d hd).frame hh hc) hh hc
 ·by_cases hx:ix=ix0
  ·subst hx;rw [he] at hs1;injection hs1 with hs1;rw [<-hs1] at hev ⊢;exact hfree hev
  ·rw [hne ix hx] at hs1;exact h.free ix s1 hs1 hev
 ·rcases List.mem_or_eq_of_mem_set hs1 with h|rfl
  ·exact PInv.few ‹_› s1 h
  ·exact hfew
 ·rcases hheld ix hix with ⟨rfl,g⟩|⟨g1,g2⟩
  ·exact ⟨t,he,g⟩
  ·rw [hne ix g1];exact h.held m hmm ix g2
 ·exact hne ix (λ e=>hown j x hj hx (by rw [<-e];exact hix))
 ·rcases hheld ix hm' with ⟨rfl,_⟩|⟨g1,g2⟩
  ·exact hown j x hj hx hix
  ·exact h.apart j i x m hj hx hm ix hix g2
theorem PInv.own (h:PInv leaf inner A ps) (hm:ps[i]?=some m) {ix0:Int} (hi:ix0 ∈ m.holds):∀ j x,j≠i->ps[j]?=some x->ix0 ∉ x.holds:=λ j x hj hx hc=>h.apart j i x m hj hx hm ix0 hc hi
theorem PInv.nobody (h:PInv leaf inner A ps) {ix0:Int} {s:Sl} (hs:A.get ix0=some s) (he:s.word % 2=0):∀ x ∈ ps,ix0 ∉ x.holds:=λ x hx hc=>by
 obtain ⟨s',h1,h2⟩:=h.held x hx ix0 hc
 rw [hs] at h1;injection h1 with h1
 rw [h1] at he;omega
end
end Go.Proofs.Ytjcgphhpaenjkaa

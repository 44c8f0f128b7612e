import Derived.Test.YtjcgphhpaenjkaaPkB8
set_option linter.unusedVariables false
namespace Go.Proofs.Ytjcgphhpaenjkaa
open Go.RowKit
theorem mem_insM {α:Type} {l:List α} {i:Nat} {x y:α} (h:y ∈ ins l i x):y=x\/y ∈ l:=by
 unfold ins at h
 rcases List.mem_append.1 h with h|h
 ·exact .inr (List.mem_of_mem_take h)
 ·rcases List.mem_cons.1 h with h|h
  ·exact .inl h
  ·exact .inr (List.mem_of_mem_drop h)
/-! ### order -/
theorem cmp_swap:∀ (a b:List UInt8),cmp b a=-cmp a b
 | [],[]=>rfl
 | [],_::_=>rfl
 | _::_,[]=>rfl
 | x::a,y::b=>by
  rw [cmp_cons,cmp_cons]
  by_cases h1:x < y
  ·rw [if_pos h1,if_neg (λ h=>absurd (UInt8.lt_trans h1 h) (UInt8.lt_irrefl x)),if_pos h1];rfl
  ·by_cases h2:y < x
   ·rw [if_pos h2,if_neg h1,if_pos h2]
   ·rw [if_neg h2,if_neg h1,if_neg h1,if_neg h2]
    exact cmp_swap a b
theorem rise_tail {x:List UInt8} {l:List (List UInt8)} (h:Rise (x::l)):Rise l:=λ j a b ha hb=>h (j+1) a b (by simpa using ha) (by simpa using hb)
theorem below_iff {key:List UInt8}:∀ {l:List (List UInt8)},Rise l->∀ (j:Nat) (x:List UInt8),l[j]?=some x->(cmp x key < 0 ↔ j < below l key)
 | [],_,j,x,hx=>by simp at hx
 | y::l,h,j,x,hx=>by
  have hl:below (y::l) key=below l key+if cmp y key < 0 then 1 else 0:=by unfold below;rw [List.countP_cons];simp
  by_cases hy:cmp y key < 0
  ·rw [hl,if_pos hy]
   cases j with
   | zero=>simp at hx;subst hx;exact ⟨λ _=>by omega,λ _=>hy⟩
   | succ j=>
    have:=below_iff (key:=key) (rise_tail h) j x (by simpa using hx)
    rw [this];omega
  ·have hz:below l key=0:=by
    unfold below
    rw [List.countP_eq_zero]
    intro z hz
    obtain ⟨i,hi⟩:=List.mem_iff_getElem?.1 hz
    have h1:=rise_lt' h (i:=0) (j:=i+1) (by omega) (a:=y) (b:=z) rfl (by simpa using hi)
    simp only [decide_eq_true_eq]
    intro h2
    exact hy (cmp_lt_trans _ _ _ h1 h2)
   rw [hl,if_neg hy,hz]
   constructor
   ·intro h1
    exfalso
    cases j with
    | zero=>simp at hx;subst hx;exact hy h1
    | succ j=>exact hy (cmp_lt_trans _ _ _ (rise_lt' h (i:=0) (j:=j+1) (by omega) rfl hx) h1)
   ·intro h1;omega
theorem rise_ins {l:List (List UInt8)} {key:List UInt8} (h:Rise l) (hh:has l key=false):Rise (ins l (below l key) key):=by
 intro j a b ha hb
 have hle:=below_le l key
 rw [ins_get _ _ _ hle] at ha hb
 have hne:∀ x ∈ l,cmp x key≠0:=λ x hx h0=>by
  have:has l key=true:=by unfold has;exact List.any_eq_true.2 ⟨x,hx,by simpa using h0⟩
  rw [hh] at this;cases this
 by_cases h1:j+1 < below l key
 ·rw [if_pos (by omega)] at ha
  rw [if_pos h1] at hb
  exact h j a b ha hb
 ·by_cases h2:j+1=below l key
  ·rw [if_pos (by omega)] at ha
   rw [if_neg (by omega),if_pos h2] at hb
   cases hb
   exact (below_iff h j a ha).2 (by omega)
  ·by_cases h3:j=below l key
   ·rw [if_neg (by omega),if_pos h3] at ha
    rw [if_neg (by omega),if_neg (by omega)] at hb
    cases ha
    have hb':l[j]?=some b:=by rw [<-hb];congr 1
    have h4:¬cmp b key < 0:=λ hc=>by have:=(below_iff h j b hb').1 hc;omega
    have h5:=hne b (List.mem_of_getElem? hb')
    rw [cmp_swap b key]
    rcases cmp_cases b key with hc|hc|hc<;>omega
   ·rw [if_neg (by omega),if_neg h3] at ha
    rw [if_neg (by omega),if_neg (by omega)] at hb
    exact h (j-1) a b ha (by rw [<-hb];congr 1;omega)
theorem rise_take {l:List (List UInt8)} (h:Rise l) (k:Nat):Rise (l.take k):=λ j a b ha hb=>by
 rw [List.getElem?_take] at ha hb
 split at ha
 ·split at hb
  ·exact h j a b ha hb
  ·cases hb
 ·cases ha
theorem rise_drop {l:List (List UInt8)} (h:Rise l) (k:Nat):Rise (l.drop k):=λ j a b ha hb=>by
 rw [List.getElem?_drop] at ha hb
 exact h (k+j) a b ha (by rw [<-hb];congr 1)
/-! ### a leaf with a key more, an inner node with a child more -/
section
variable {n:Nd} {a0 a1 a2:Int} {key val:List UInt8} {kid:Int}
theorem May.with_ (h:May n a0 a1 a2) (hl:n.lvl=0) (hk:1<=key.length/\key.length<=64) (hb:beyond n.high key=false) (hv:val.length<=256):May (wth n key val) a0 (a1+1) a2/\(wth n key val).lvl=0:=by
 obtain ⟨g1,g2,g3,g4⟩:=h.leaf hl
 unfold wth
 cases hh:has n.keys key with
 | true=>
  refine ⟨⟨h.lvl,h.right,h.high,h.high64,h.rise,h.key,λ _=>⟨by simpa using g1,by show (n.keys.length:Int)<=_;omega,g3,λ v hv'=>?_⟩,λ hne=>absurd hl hne⟩,hl⟩
  rcases List.mem_or_eq_of_mem_set hv' with h1|h1
  ·exact g4 v h1
  ·subst h1;exact hv
 | false=>
  have hle:=below_le n.keys key
  have hmin:min (below n.keys key) n.vals.length=below n.keys key:=by rw [g1];omega
  rw [if_neg (by simp),hmin]
  refine ⟨⟨h.lvl,h.right,h.high,h.high64,rise_ins h.rise hh,λ k hk'=>?_,λ _=>⟨?_,?_,g3,λ v hv'=>?_⟩,λ hne=>absurd hl hne⟩,hl⟩
  ·rcases mem_insM hk' with h1|h1
   ·subst h1;exact ⟨hk,hb⟩
   ·exact h.key k h1
  ·show (ins n.vals _ _).length=(ins n.keys _ _).length
   rw [ins_len _ _ _ hle,ins_len _ _ _ (by omega),g1]
  ·show ((ins n.keys _ _).length:Int)<=_
   rw [ins_len _ _ _ hle];omega
  ·rcases mem_insM hv' with h1|h1
   ·subst h1;exact hv
   ·exact g4 v h1
theorem nodup_ins {l:List Int} {i:Nat} {x:Int} (h:l.Nodup) (hx:x ∉ l):(ins l i x).Nodup:=by
 unfold ins
 rw [List.nodup_append]
 have h1:(l.take i++l.drop i).Nodup:=by rw [List.take_append_drop];exact h
 rw [List.nodup_append] at h1
 refine ⟨h1.1,List.nodup_cons.2 ⟨λ hm=>hx (List.mem_of_mem_drop hm),h1.2.1⟩,λ a ha b hb=>?_⟩
 rcases List.mem_cons.1 hb with hb|hb
 ·subst hb;intro e;subst e;exact hx (List.mem_of_mem_take ha)
 ·exact h1.2.2 a ha b hb
theorem May.join_ (h:May n a0 a1 a2) (hl:n.lvl≠0) (hk:1<=key.length/\key.length<=64) (hb:beyond n.high key=false) (hkid:kid ∉ n.kids) (hr:1<=kid/\kid<=a0):May (jnd n key kid) a0 a1 (a2+1)/\(jnd n key kid).lvl≠0:=by
 obtain ⟨g1,g2,g3,g4,g5⟩:=h.inner hl
 unfold jnd
 cases hh:has n.keys key with
 | true=>
  exact ⟨⟨h.lvl,h.right,h.high,h.high64,h.rise,h.key,λ he=>absurd he hl,λ _=>⟨g1,g2,g3,g4,by show (n.kids.length:Int)<=_;omega⟩⟩,hl⟩
 | false=>
  have hle:=below_le n.keys key
  rw [if_neg (by simp)]
  have hm:min (below n.keys key+1) n.kids.length<=n.kids.length:=Nat.min_le_right _ _
  refine ⟨⟨h.lvl,h.right,h.high,h.high64,rise_ins h.rise hh,λ k hk'=>?_,λ he=>absurd he hl,λ _=>⟨nodup_ins g1 hkid,λ k hk'=>?_,g3,?_,?_⟩⟩,hl⟩
  ·rcases mem_insM hk' with h1|h1
   ·subst h1;exact ⟨hk,hb⟩
   ·exact h.key k h1
  ·rcases mem_insM hk' with h1|h1
   ·subst h1;exact hr
   ·exact g2 k h1
  ·show (ins n.kids _ _).length=(ins n.keys _ _).length+1
   rw [ins_len _ _ _ hm,ins_len _ _ _ hle];omega
  ·show ((ins n.kids _ _).length:Int)<=_
   rw [ins_len _ _ _ hm];omega
/-! ### in two -/
theorem May.notOver (h:May n a0 (a1+1) (a2+1)) (ho:over n a1 a2=false):May n a0 a1 a2:=by
 unfold over at ho
 refine ⟨h.lvl,h.right,h.high,h.high64,h.rise,h.key,λ hl=>?_,λ hl=>?_⟩
 ·rw [if_pos hl,decide_eq_false_iff_not] at ho
  obtain ⟨g1,g2,g3,g4⟩:=h.leaf hl
  exact ⟨g1,by omega,g3,g4⟩
 ·rw [if_neg hl,decide_eq_false_iff_not] at ho
  obtain ⟨g1,g2,g3,g4,g5⟩:=h.inner hl
  exact ⟨g1,g2,g3,g4,by omega⟩
theorem notBeyond {high k:List UInt8} (h:cmp k high < 0):beyond high k=false:=by
 unfold beyond
 rw [decide_eq_false (show ¬0<=cmp k high by omega)];simp
theorem May.split (h:May n a0 (a1+1) (a2+1)) (ho:over n a1 a2=true) (h0:1<=a0) (h1:2<=a1) (h2:3<=a2):May (spL n a0) a0 a1 a2/\May (spR n) a0 a1 a2:=by
 unfold over at ho
 by_cases hl:n.lvl=0
 ·rw [if_pos hl,decide_eq_true_eq] at ho
  obtain ⟨g1,g2,g3,g4⟩:=h.leaf hl
  have hM:spM n=n.keys.length:=by unfold spM;rw [if_pos hl]
  have hbad:¬spBad n:=by
   unfold spBad
   rw [hM]
   rintro (hb|⟨_,hb⟩|⟨hb,_⟩)
   ·omega
   ·omega
   ·exact hb hl
  have hH:spH n=(n.keys.length+1) / 2:=by unfold spH;rw [hM]
  have hlt:spH n < n.keys.length:=by omega
  obtain ⟨kk,hkk⟩:∃ x,n.keys[spH n]?=some x:=⟨_,List.getElem?_eq_getElem hlt⟩
  have hK:spK n=kk:=by unfold spK;rw [if_neg hbad,if_pos hl,List.getD_eq_getElem?_getD,hkk];rfl
  have hkey:=h.key kk (List.mem_of_getElem? hkk)
  unfold spL spR
  rw [if_neg hbad,if_neg hbad,if_pos hl,if_pos hl,hK]
  constructor
  ·refine ⟨h.lvl,⟨by show 0<=a0;omega,Int.le_refl _⟩,?_,hkey.1.2,rise_take h.rise _,λ k hk=>⟨(h.key k (List.mem_of_mem_take hk)).1,?_⟩,λ _=>⟨?_,?_,g3,λ v hv=>g4 v (List.mem_of_mem_take hv)⟩,λ hne=>absurd hl hne⟩
   ·show kk.length=0 ↔ a0=0
    have:=hkey.1.1
    constructor<;>intro<;>omega
   ·obtain ⟨i,hi⟩:=List.mem_iff_getElem?.1 hk
    have hi':n.keys[i]?=some k/\i < spH n:=by
     rw [List.getElem?_take] at hi
     split at hi
     ·exact ⟨hi,by assumption⟩
     ·cases hi
    exact notBeyond (rise_lt' h.rise hi'.2 hi'.1 hkk)
   ·show (n.vals.take _).length=(n.keys.take _).length
    rw [List.length_take,List.length_take,g1]
   ·show ((n.keys.take _).length:Int)<=_
    rw [List.length_take];omega
  ·refine ⟨h.lvl,h.right,h.high,h.high64,rise_drop h.rise _,λ k hk=>h.key k (List.mem_of_mem_drop hk),λ _=>⟨?_,?_,g3,λ v hv=>g4 v (List.mem_of_mem_drop hv)⟩,λ hne=>absurd hl hne⟩
   ·show (n.vals.drop _).length=(n.keys.drop _).length
    rw [List.length_drop,List.length_drop,g1]
   ·show ((n.keys.drop _).length:Int)<=_
    rw [List.length_drop];omega
 ·rw [if_neg hl,decide_eq_true_eq] at ho
  obtain ⟨g1,g2,g3,g4,g5⟩:=h.inner hl
  have hM:spM n=n.kids.length:=by unfold spM;rw [if_neg hl]
  have hbad:¬spBad n:=by
   unfold spBad
   rw [hM]
   rintro (hb|⟨hb,_⟩|⟨_,hb⟩)
   ·omega
   ·exact hl hb
   ·omega
  have hH:spH n=(n.kids.length+1) / 2:=by unfold spH;rw [hM]
  have hlt:spH n-1 < n.keys.length:=by omega
  have hpos:1<=spH n:=by omega
  obtain ⟨kk,hkk⟩:∃ x,n.keys[spH n-1]?=some x:=⟨_,List.getElem?_eq_getElem hlt⟩
  have hK:spK n=kk:=by unfold spK;rw [if_neg hbad,if_neg hl,List.getD_eq_getElem?_getD,hkk];rfl
  have hkey:=h.key kk (List.mem_of_getElem? hkk)
  unfold spL spR
  rw [if_neg hbad,if_neg hbad,if_neg hl,if_neg hl,hK]
  constructor
  ·refine ⟨h.lvl,⟨by show 0<=a0;omega,Int.le_refl _⟩,?_,hkey.1.2,rise_take h.rise _,λ k hk=>⟨(h.key k (List.mem_of_mem_take hk)).1,?_⟩,λ he=>absurd he hl,λ _=>⟨g1.sublist (List.take_sublist _ _),λ k hk=>g2 k (List.mem_of_mem_take hk),g3,?_,?_⟩⟩
   ·show kk.length=0 ↔ a0=0
    have:=hkey.1.1
    constructor<;>intro<;>omega
   ·obtain ⟨i,hi⟩:=List.mem_iff_getElem?.1 hk
    have hi':n.keys[i]?=some k/\i < spH n-1:=by
     rw [List.getElem?_take] at hi
     split at hi
     ·exact ⟨hi,by assumption⟩
     ·cases hi
    exact notBeyond (rise_lt' h.rise hi'.2 hi'.1 hkk)
   ·show (n.kids.take _).length=(n.keys.take _).length+1
    rw [List.length_take,List.length_take];omega
   ·show ((n.kids.take _).length:Int)<=_
    rw [List.length_take];omega
  ·refine ⟨h.lvl,h.right,h.high,h.high64,rise_drop h.rise _,λ k hk=>h.key k (List.mem_of_mem_drop hk),λ he=>absurd he hl,λ _=>⟨g1.sublist (List.drop_sublist _ _),λ k hk=>g2 k (List.mem_of_mem_drop hk),g3,?_,?_⟩⟩
   ·show (n.kids.drop _).length=(n.keys.drop _).length+1
    rw [List.length_drop,List.length_drop];omega
   ·show ((n.kids.drop _).length:Int)<=_
    rw [List.length_drop];omega
end
section
variable {a0 a1 a2 b1 b2 level lv:Int} {V V':Ar} {n:Nd} {key val low k:List UInt8} {kid id:Int} {c d:Ch} {chk:Nd->Int} {es es':List Ent}
theorem May.wide (h:May n a0 a1 a2) (h1:a1<=b1) (h2:a2<=b2):May n a0 b1 b2:=
 ⟨h.lvl,h.right,h.high,h.high64,h.rise,h.key,λ hl=>⟨(h.leaf hl).1,Int.le_trans (h.leaf hl).2.1 h1,(h.leaf hl).2.2⟩,λ hl=>⟨(h.inner hl).1,(h.inner hl).2.1,(h.inner hl).2.2.1,(h.inner hl).2.2.2.1,Int.le_trans (h.inner hl).2.2.2.2 h2⟩⟩
theorem wth_hd:(wth n key val).lvl=n.lvl/\(wth n key val).right=n.right/\(wth n key val).high=n.high/\(wth n key val).kids=n.kids:=by unfold wth;split<;>exact ⟨rfl,rfl,rfl,rfl⟩
theorem jnd_hd:(jnd n key kid).lvl=n.lvl/\(jnd n key kid).right=n.right/\(jnd n key kid).high=n.high/\(jnd n key kid).vals=n.vals:=by unfold jnd;split<;>exact ⟨rfl,rfl,rfl,rfl⟩
theorem wth_keys {x:List UInt8} (h:x ∈ (wth n key val).keys):x=key\/x ∈ n.keys:=by
 unfold wth at h
 split at h
 ·exact .inr h
 ·exact mem_insM h
theorem jnd_keys {x:List UInt8} (h:x ∈ (jnd n key kid).keys):x=key\/x ∈ n.keys:=by
 unfold jnd at h
 split at h
 ·exact .inr h
 ·exact mem_insM h
theorem jnd_kids {x:Int} (h:x ∈ (jnd n key kid).kids):x=kid\/x ∈ n.kids:=by
 unfold jnd at h
 split at h
 ·exact .inr h
 ·exact mem_insM h
theorem lowBad_of (h1:∀ x ∈ n.keys,cmp low x<=0) (h2:0 < low.length->0 < n.high.length->0 < cmp n.high low):lowBad low n=false:=by
 unfold lowBad
 by_cases hl:0 < low.length
 ·rw [decide_eq_true hl,Bool.true_and,Bool.or_eq_false_iff]
  refine ⟨?_,?_⟩
  ·cases hk:n.keys with
   | nil=>rfl
   | cons x r=>
    have:=h1 x (by rw [hk];exact List.mem_cons_self)
    have h3:=cmp_swap_ low x
    show decide (cmp x low < 0)=false
    rw [decide_eq_false_iff_not];omega
  ·by_cases hh:0 < n.high.length
   ·rw [decide_eq_true hh,Bool.true_and,decide_eq_false_iff_not]
    have:=h2 hl hh;omega
   ·rw [decide_eq_false hh,Bool.false_and]
 ·rw [decide_eq_false hl,Bool.false_and]
theorem lowBad_high (h:lowBad low n=false) (h1:0 < low.length) (h2:0 < n.high.length):0 < cmp n.high low:=by
 unfold lowBad at h
 rw [decide_eq_true h1,Bool.true_and,Bool.or_eq_false_iff,decide_eq_true h2,Bool.true_and,decide_eq_false_iff_not] at h
 omega
theorem wth_low (hm:May n a0 a1 a2) (h:lowBad low n=false) (hk:cmp low key<=0):lowBad low (wth n key val)=false:=by
 refine lowBad_of (λ x hx=>?_) (λ h1 h2=>by rw [wth_hd.2.2.1] at h2 ⊢;exact lowBad_high h h1 h2)
 rcases wth_keys hx with rfl|hx
 ·exact hk
 ·exact low_keys hm.rise h x hx
theorem jnd_low (hm:May n a0 a1 a2) (h:lowBad low n=false) (hk:cmp low key<=0):lowBad low (jnd n key kid)=false:=by
 refine lowBad_of (λ x hx=>?_) (λ h1 h2=>by rw [jnd_hd.2.2.1] at h2 ⊢;exact lowBad_high h h1 h2)
 rcases jnd_keys hx with rfl|hx
 ·exact hk
 ·exact low_keys hm.rise h x hx
theorem Chn.cover (h:Chn V chk level id low c) (hmay:∀ n,chk n=0->May n a0 a1 a2):cmp low k<=0->∃ e ∈ c,cmp e.2 k<=0/\beyond (opNd V e.1).high k=false:=by
 induction h with
 | @last id low s h1 h2 h3 h4 h5=>
  intro hk
  refine ⟨_,List.mem_cons_self,hk,?_⟩
  show beyond (opNd V id).high k=false
  have:opNd V id=s.nd:=by unfold opNd;rw [h1]
  rw [this]
  have h6:=(hmay _ h3).high.2 h5
  unfold beyond
  rw [h6];rfl
 | @more id low s r h1 h2 h3 h4 h5 h6 ih=>
  intro hk
  have hn:opNd V id=s.nd:=by unfold opNd;rw [h1]
  by_cases hb:beyond s.nd.high k=true
  ·obtain ⟨_,b2⟩:=beyond_iff.1 hb
   obtain ⟨e,g1,g2⟩:=ih (by have:=cmp_swap_ k s.nd.high;omega)
   exact ⟨e,List.mem_cons_of_mem _ g1,g2⟩
  ·exact ⟨_,List.mem_cons_self,hk,by show beyond (opNd V id).high k=false;rw [hn];simpa using hb⟩
def Put1 (key val:List UInt8) (es es':List Ent):Prop:=∀ k,es'.find? (λ e=>e.1==k)=if k=key then some (key,val) else es.find? (λ e=>e.1==k)
theorem entsM_zip (vals:List (List UInt8)):∀ (i:Nat) (ks:List (List UInt8)),i+ks.length<=vals.length->entsM vals i ks=ks.zip (vals.drop i)
 | _,[],_=>rfl
 | i,x::ks,h=>by
  simp only [List.length_cons] at h
  obtain ⟨v,hv⟩:∃ v,vals[i]?=some v:=⟨_,List.getElem?_eq_getElem (by omega)⟩
  have hd:vals.drop i=v::vals.drop (i+1):=by
   have hlt:i < vals.length:=by omega
   rw [List.drop_eq_getElem_cons hlt]
   rw [List.getElem?_eq_getElem hlt] at hv
   rw [Option.some.inj hv]
  rw [hd,List.zip_cons_cons,entsM,entsM_zip vals (i+1) ks (by omega)]
  rw [List.getD_eq_getElem?_getD,hv];rfl
theorem ents_zip (h:n.keys.length<=n.vals.length):ents n=n.keys.zip n.vals:=by
 unfold ents;rw [entsM_zip _ 0 _ (by omega)];rfl
theorem wth_put (hm:May n a0 a1 a2) (hl:n.lvl=0):Put1 key val (ents n) (ents (wth n key val)):=λ k=>by
 have hlen:=(hm.leaf hl).1
 have hb:below n.keys key<=n.keys.length:=List.countP_le_length
 have hpre:∀ e ∈ (n.keys.take (below n.keys key)).zip (n.vals.take (below n.keys key)),e.1≠key:=λ e he hk=>by
  have h1:=(List.of_mem_zip he).1
  obtain ⟨j,hj⟩:=mem_at h1
  rw [List.getElem?_take] at hj
  split at hj
  ·rename_i hlt
   have:=(below_iff hm.rise j _ hj).2 hlt
   rw [hk,cmp_self] at this
   omega
  ·cases hj
 have hsplit:ents n=(n.keys.take (below n.keys key)).zip (n.vals.take (below n.keys key))++(n.keys.drop (below n.keys key)).zip (n.vals.drop (below n.keys key)):=by
  rw [ents_zip (by omega),<-List.zip_append (by simp [List.length_take];omega),List.take_append_drop,List.take_append_drop]
 have hnone:((n.keys.take (below n.keys key)).zip (n.vals.take (below n.keys key))).find? (λ e=>e.1==key)=none:=find_none hpre
 have hkv:(((key,val):Ent).1==key)=true:=by simp
 by_cases hh:has n.keys key=true
 ·have hw:wth n key val={n with vals:=n.vals.set (below n.keys key) val}:=by unfold wth;rw [if_pos hh]
  have hat:n.keys[below n.keys key]?=some key:=by
   obtain ⟨j,hj⟩:=mem_at (has_iff.1 hh)
   rw [below_at hm.rise hj];exact hj
  have hlt:below n.keys key < n.keys.length:=(List.getElem?_eq_some_iff.1 hat).1
  have hK:n.keys.drop (below n.keys key)=key::n.keys.drop (below n.keys key+1):=by
   rw [List.drop_eq_getElem_cons hlt]
   rw [List.getElem?_eq_getElem hlt] at hat
   rw [Option.some.inj hat]
  obtain ⟨v0,hv0⟩:∃ v0,n.vals.drop (below n.keys key)=v0::n.vals.drop (below n.keys key+1):=⟨_,List.drop_eq_getElem_cons (by omega)⟩
  have hV:n.vals.set (below n.keys key) val=n.vals.take (below n.keys key)++val::n.vals.drop (below n.keys key+1):=by
   rw [List.set_eq_take_append_cons_drop,if_pos (by omega)]
  have hnew:ents (wth n key val)=(n.keys.take (below n.keys key)).zip (n.vals.take (below n.keys key))++(key,val)::(n.keys.drop (below n.keys key+1)).zip (n.vals.drop (below n.keys key+1)):=by
   rw [hw,ents_zip (by simp;omega)]
   show n.keys.zip (n.vals.set (below n.keys key) val)=_
   rw [hV]
   have hgen:∀ b:Nat,b<=n.keys.length->b<=n.vals.length->n.keys.drop b=key::n.keys.drop (b+1)->n.keys.zip (n.vals.take b++val::n.vals.drop (b+1))=(n.keys.take b).zip (n.vals.take b)++(key,val)::(n.keys.drop (b+1)).zip (n.vals.drop (b+1)):=λ b g1 g2 g3=>by
    have e:n.keys.zip (n.vals.take b++val::n.vals.drop (b+1))=(n.keys.take b++key::n.keys.drop (b+1)).zip (n.vals.take b++val::n.vals.drop (b+1)):=by rw [<-g3,List.take_append_drop]
    rw [e,List.zip_append (by rw [List.length_take,List.length_take];omega),List.zip_cons_cons]
   exact hgen _ (by omega) (by omega) hK
  rw [hsplit,hnew,hK,hv0,List.zip_cons_cons,List.find?_append,List.find?_append]
  by_cases hk:k=key
  ·subst hk
   rw [if_pos rfl,hnone]
   simp
  ·have hkf:∀ v:List UInt8,(((key,v):Ent).1==k)=false:=λ v=>by simp;exact λ e=>hk e.symm
   rw [if_neg hk,List.find?_cons_of_neg (by rw [hkf];decide),List.find?_cons_of_neg (by rw [hkf];decide)]
 ·have hw:wth n key val={n with keys:=ins n.keys (below n.keys key) key,vals:=ins n.vals (min (below n.keys key) n.vals.length) val}:=by unfold wth;rw [if_neg hh]
  have hnew:ents (wth n key val)=(n.keys.take (below n.keys key)).zip (n.vals.take (below n.keys key))++(key,val)::(n.keys.drop (below n.keys key)).zip (n.vals.drop (below n.keys key)):=by
   rw [hw,Nat.min_eq_left (by omega),ents_zip (by simp [ins];omega)]
   unfold ins
   rw [List.zip_append (by simp [List.length_take];omega),List.zip_cons_cons]
  rw [hsplit,hnew,List.find?_append,List.find?_append]
  by_cases hk:k=key
  ·subst hk
   rw [if_pos rfl,hnone]
   simp
  ·have hkf:(((key,val):Ent).1==k)=false:=by simp;exact λ e=>hk e.symm
   rw [if_neg hk,List.find?_cons_of_neg (by rw [hkf];decide)]
end
def prs (A:Ar) (e:Int × List UInt8):Ch:=(List.range (opNd A e.1).kids.length).map (λ k=>((opNd A e.1).kids.getD k 0,wantLow e.2 (opNd A e.1) k))
def Two (n:Nd):Prop:=n.lvl≠0->2<=n.kids.length
section
variable {A:Ar} {chk:Nd->Int} {a0 a1 a2 lv level first id:Int} {low:List UInt8} {c d:Ch} {up:Option Ch} {ls ts:List Ch} {e:Int × List UInt8}
theorem prs_len:(prs A e).length=(opNd A e.1).kids.length:=by simp [prs]
theorem prs_nodup (h:(opNd A e.1).kids.Nodup):(prs A e).Nodup:=by
 unfold prs
 rw [List.nodup_iff_pairwise_ne,List.pairwise_map]
 refine List.Pairwise.imp_of_mem ?_ (List.nodup_iff_pairwise_ne.1 List.nodup_range)
 intro a b ha hb hab e
 have ha':=List.mem_range.1 ha
 have hb':=List.mem_range.1 hb
 injection e with e1 _
 rw [List.getD_eq_getElem?_getD,List.getD_eq_getElem?_getD,List.getElem?_eq_getElem ha',List.getElem?_eq_getElem hb'] at e1
 simp only [Option.getD_some] at e1
 have hp:=List.pairwise_iff_getElem.1 (List.nodup_iff_pairwise_ne.1 h)
 rcases Nat.lt_or_gt_of_ne hab with h1|h1
 ·exact hp a b ha' hb' h1 e1
 ·exact hp b a hb' ha' h1 e1.symm
theorem prs_low {s:Sl} (hs:A.get id=some s) (hm:May s.nd a0 a1 a2) (hl:s.nd.lvl≠0) (hb:lowBad low s.nd=false):∀ x ∈ prs A (id,low),cmp low x.2<=0/\(s.nd.right≠0->cmp x.2 s.nd.high < 0):=by
 have hop:opNd A id=s.nd:=by unfold opNd;rw [hs]
 intro x hx
 unfold prs at hx
 simp only [hop] at hx
 obtain ⟨k,hk,rfl⟩:=List.mem_map.1 hx
 have hk':=List.mem_range.1 hk
 obtain ⟨_,_,_,hlen,_⟩:=hm.inner hl
 simp only
 unfold wantLow
 have hh:s.nd.right≠0->0 < s.nd.high.length:=λ hr=>by
  have:=hm.high
  rcases Nat.eq_zero_or_pos s.nd.high.length with h|h
  ·exact absurd (this.1 h) hr
  ·exact h
 by_cases hz:k=0
 ·rw [if_pos hz]
  refine ⟨by exact Int.le_of_eq (cmp_self low),λ hr=>?_⟩
  rcases Nat.eq_zero_or_pos low.length with h|h
  ·rw [List.length_eq_zero_iff.1 h]
   have h1:=hh hr
   cases hc:s.nd.high with
   | nil=>rw [hc] at h1;simp at h1
   | cons y l=>show (-1:Int) < 0;decide
  ·have:=lowBad_high hb h (hh hr)
   rw [cmp_swap_ s.nd.high low];omega
 ·rw [if_neg hz]
  obtain ⟨y,hy⟩:∃ y,s.nd.keys[k-1]?=some y:=⟨_,List.getElem?_eq_getElem (by omega)⟩
  rw [List.getD_eq_getElem?_getD,hy]
  have hmem:=List.mem_of_getElem? hy
  refine ⟨low_keys hm.rise hb y hmem,λ hr=>?_⟩
  have h1:=(hm.key y hmem).2
  rcases Int.lt_or_le (cmp y s.nd.high) 0 with h|h
  ·exact h
  ·rw [beyond_iff.2 ⟨hh hr,h⟩] at h1;cases h1
theorem Chn.prs_ (hmay:∀ n,chk n=0->May n a0 a1 a2) (h:Chn A chk level id low c) (hL:level≠0):(c.flatMap (prs A)).Nodup/\∀ x ∈ c.flatMap (prs A),cmp low x.2<=0:=by
 induction h with
 | @last id low s h1 h2 h3 h4 h5=>
  have hop:opNd A id=s.nd:=by unfold opNd;rw [h1]
  have hm:=hmay _ h3
  have hl:s.nd.lvl≠0:=by rw [h2];exact hL
  rw [List.flatMap_cons,List.flatMap_nil,List.append_nil]
  exact ⟨prs_nodup (e:=(id,low)) (by rw [hop];exact (hm.inner hl).1),λ x hx=>(prs_low h1 hm hl h4 x hx).1⟩
 | @more id low s r h1 h2 h3 h4 h5 h6 ih=>
  have hop:opNd A id=s.nd:=by unfold opNd;rw [h1]
  have hm:=hmay _ h3
  have hl:s.nd.lvl≠0:=by rw [h2];exact hL
  rw [List.flatMap_cons]
  have hp:=prs_low h1 hm hl h4
  refine ⟨List.nodup_append.2 ⟨prs_nodup (e:=(id,low)) (by rw [hop];exact (hm.inner hl).1),ih.1,λ a ha b hb e=>?_⟩,λ x hx=>?_⟩
  ·subst e
   have g1:=(hp a ha).2 h5
   have g2:=ih.2 a hb
   rw [cmp_swap_ a.2 s.nd.high] at g2
   omega
  ·rcases List.mem_append.1 hx with hx|hx
   ·exact (hp x hx).1
   ·have g2:=ih.2 x hx
    have g3:cmp low s.nd.high<=0:=by
     rcases Nat.eq_zero_or_pos low.length with h|h
     ·rw [List.length_eq_zero_iff.1 h];exact cmp_nil _
     ·have hh:0 < s.nd.high.length:=by
       rcases Nat.eq_zero_or_pos s.nd.high.length with h'|h'
       ·exact absurd (hm.high.1 h') h5
       ·exact h'
      have:=lowBad_high h4 h hh
      rw [cmp_swap_ s.nd.high low];omega
    exact cmp_le_le g3 g2
theorem Trs.half (hmay:∀ n,chk n=0->May n a0 a1 a2) (h:Trs A chk level first up (c::d::ts)) (two:∀ e ∈ c,2<=(opNd A e.1).kids.length):2*c.length<=d.length:=by
 cases h with
 | step h0 h1 h2 h3=>
  have hu:UpOk A (some c) d:=by
   generalize level-1=L1 at h3
   cases h3 with
   | base g1 g2=>exact g2
   | step _ g1 g2 _=>exact g2
  obtain ⟨n1,_⟩:=h1.prs_ hmay h0
  have hsub:∀ x ∈ c.flatMap (prs A),x ∈ d:=λ x hx=>by
   obtain ⟨e,he,hx⟩:=List.mem_flatMap.1 hx
   have hk:=hu _ rfl e he
   unfold nodeKids at hk
   rw [List.all_eq_true] at hk
   unfold prs at hx
   obtain ⟨k,hk',rfl⟩:=List.mem_map.1 hx
   exact kidOk_mem (hk k hk')
  have hlen:=nodup_le _ _ n1 hsub
  have hsum:∀ l:Ch,(∀ e ∈ l,2<=(opNd A e.1).kids.length)->2*l.length<=(l.flatMap (prs A)).length:=by
   intro l
   induction l with
   | nil=>intro _;simp
   | cons x l ih=>
    intro hx
    have g1:=hx x List.mem_cons_self
    have g2:=ih (λ e he=>hx e (List.mem_cons_of_mem _ he))
    rw [List.flatMap_cons,List.length_append,prs_len,List.length_cons]
    omega
  exact Nat.le_trans (hsum c two) hlen
theorem Trs.pre (hmay:∀ n,chk n=0->May n a0 a1 a2):∀ {ls:List Ch} {level first:Int} {up:Option Ch} (p:Nat),Trs A chk level first up ls->(∀ c ∈ ls,∀ e ∈ c,Two (opNd A e.1))->(∀ c,ls[0]?=some c->p+1<=c.length)->∀ n c,ls[n]?=some c->p+(ls.take n).flatten.length+1<=c.length:=by
 intro ls
 induction ls with
 | nil=>intro level first up p h _ _ n c hc;simp at hc
 | cons c0 ls ih=>
  intro level first up p h two h0 n c hc
  cases n with
  | zero=>simp at hc;subst hc;have:=h0 c0 rfl;simp;omega
  | succ n=>
   cases ls with
   | nil=>simp at hc
   | cons d ls=>
    have hlv:level≠0:=by cases h with|step g _ _ _=>exact g
    have hat:∀ e ∈ c0,2<=(opNd A e.1).kids.length:=λ e he=>by
     refine two c0 List.mem_cons_self e he ?_
     cases h with
     | step g1 g2 g3 g4=>
      obtain ⟨c',k1,_⟩:=g2.mem he
      obtain ⟨s,_,_,hs,hl,_⟩:=k1.at_
      have hop:opNd A e.1=s.nd:=by unfold opNd;rw [hs]
      rw [hop,hl];exact g1
    have hh:=h.half hmay hat
    have hc0:=h0 c0 rfl
    have:=ih (p+c0.length) (by cases h with|step _ _ _ g=>exact g) (λ c hc=>two c (List.mem_cons_of_mem _ hc)) (λ c hc'=>by simp at hc';subst hc';omega) n c (by simpa using hc)
    simp only [List.take_succ_cons,List.flatten_cons,List.length_append]
    omega
end
end Go.Proofs.Ytjcgphhpaenjkaa

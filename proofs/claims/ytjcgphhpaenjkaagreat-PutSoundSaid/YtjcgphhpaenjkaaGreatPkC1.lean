import Derived.Test.YtjcgphhpaenjkaaGreatPkA7
import Derived.Test.YtjcgphhpaenjkaaGreatPkA8
import Derived.Test.YtjcgphhpaenjkaaGreatPkB4
import Derived.Test.YtjcgphhpaenjkaaGreatPkC0
namespace Go.Proofs.YtjcgphhpaenjkaaGreat
open Go.RowKit
theorem mem_insM {α:Type} {l:List α} {i:Nat} {x y:α} (h:y ∈ ins l i x):y=x\/y ∈ l:=by
 unfold ins at h
 rcases List.mem_append.1 h with h|h
 ·exact .inr (List.mem_of_mem_take h)
 ·rcases List.mem_cons.1 h with h|h
  ·exact .inl h
  ·exact .inr (List.mem_of_mem_drop h)
/-! ### order -/
theorem cmp_swap:∀ (a b:List UInt8),cmp b a=-cmp a b
 | [],[]=>rfl
 | [],_::_=>rfl
 | _::_,[]=>rfl
 | x::a,y::b=>by
  rw [cmp_cons,cmp_cons]
  by_cases h1:x < y
  ·rw [if_pos h1,if_neg (λ h=>absurd (UInt8.lt_trans h1 h) (UInt8.lt_irrefl x)),if_pos h1];rfl
  ·by_cases h2:y < x
   ·rw [if_pos h2,if_neg h1,if_pos h2]
   ·rw [if_neg h2,if_neg h1,if_neg h1,if_neg h2]
    exact cmp_swap a b
theorem rise_tail {x:List UInt8} {l:List (List UInt8)} (h:Rise (x::l)):Rise l:=λ j a b ha hb=>h (j+1) a b (by simpa using ha) (by simpa using hb)
theorem below_iff {key:List UInt8}:∀ {l:List (List UInt8)},Rise l->∀ (j:Nat) (x:List UInt8),l[j]?=some x->(cmp x key < 0 ↔ j < below l key)
 | [],_,j,x,hx=>by simp at hx
 | y::l,h,j,x,hx=>by
  have hl:below (y::l) key=below l key+if cmp y key < 0 then 1 else 0:=by unfold below;rw [List.countP_cons];simp
  by_cases hy:cmp y key < 0
  ·rw [hl,if_pos hy]
   cases j with
   | zero=>simp at hx;subst hx;exact ⟨λ _=>by omega,λ _=>hy⟩
   | succ j=>
    have:=below_iff (key:=key) (rise_tail h) j x (by simpa using hx)
    rw [this];omega
  ·have hz:below l key=0:=by
    unfold below
    rw [List.countP_eq_zero]
    intro z hz
    obtain ⟨i,hi⟩:=List.mem_iff_getElem?.1 hz
    have h1:=rise_lt' h (i:=0) (j:=i+1) (by omega) (a:=y) (b:=z) rfl (by simpa using hi)
    simp only [decide_eq_true_eq]
    intro h2
    exact hy (cmp_lt_trans _ _ _ h1 h2)
   rw [hl,if_neg hy,hz]
   constructor
   ·intro h1
    exfalso
    cases j with
    | zero=>simp at hx;subst hx;exact hy h1
    | succ j=>exact hy (cmp_lt_trans _ _ _ (rise_lt' h (i:=0) (j:=j+1) (by omega) rfl hx) h1)
   ·intro h1;omega
theorem rise_ins {l:List (List UInt8)} {key:List UInt8} (h:Rise l) (hh:has l key=false):Rise (ins l (below l key) key):=by
 intro j a b ha hb
 have hle:=below_le l key
 rw [ins_get _ _ _ hle] at ha hb
 have hne:∀ x ∈ l,cmp x key≠0:=λ x hx h0=>by
  have:has l key=true:=by unfold has;exact List.any_eq_true.2 ⟨x,hx,by simpa using h0⟩
  rw [hh] at this;cases this
 by_cases h1:j+1 < below l key
 ·rw [if_pos (by omega)] at ha
  rw [if_pos h1] at hb
  exact h j a b ha hb
 ·by_cases h2:j+1=below l key
  ·rw [if_pos (by omega)] at ha
   rw [if_neg (by omega),if_pos h2] at hb
   cases hb
   exact (below_iff h j a ha).2 (by omega)
  ·by_cases h3:j=below l key
   ·rw [if_neg (by omega),if_pos h3] at ha
    rw [if_neg (by omega),if_neg (by omega)] at hb
    cases ha
    have hb':l[j]?=some b:=by rw [<-hb];congr 1
    have h4:¬cmp b key < 0:=λ hc=>by have:=(below_iff h j b hb').1 hc;omega
    have h5:=hne b (List.mem_of_getElem? hb')
    rw [cmp_swap b key]
    rcases cmp_cases b key with hc|hc|hc<;>omega
   ·rw [if_neg (by omega),if_neg h3] at ha
    rw [if_neg (by omega),if_neg (by omega)] at hb
    exact h (j-1) a b ha (by rw [<-hb];congr 1;omega)
theorem rise_take {l:List (List UInt8)} (h:Rise l) (k:Nat):Rise (l.take k):=λ j a b ha hb=>by
 rw [List.getElem?_take] at ha hb
 split at ha
 ·split at hb
  ·exact h j a b ha hb
  ·cases hb
 ·cases ha
theorem rise_drop {l:List (List UInt8)} (h:Rise l) (k:Nat):Rise (l.drop k):=λ j a b ha hb=>by
 rw [List.getElem?_drop] at ha hb
 exact h (k+j) a b ha (by rw [<-hb];congr 1)
/-! ### a leaf with a key more, an inner node with a child more -/
section
variable {n:Nd} {a0 a1 a2:Int} {key val:List UInt8} {kid:Int}
theorem May.with_ (h:May n a0 a1 a2) (hl:n.lvl=0) (hk:1<=key.length/\key.length<=64) (hb:beyond n.high key=false) (hv:val.length<=256):May (wth n key val) a0 (a1+1) a2/\(wth n key val).lvl=0:=by
 obtain ⟨g1,g2,g3,g4⟩:=h.leaf hl
 unfold wth
 cases hh:has n.keys key with
 | true=>
  refine ⟨⟨h.lvl,h.right,h.high,h.high64,h.rise,h.key,λ _=>⟨by simpa using g1,by show (n.keys.length:Int)<=_;omega,g3,λ v hv'=>?_⟩,λ hne=>absurd hl hne⟩,hl⟩
  rcases List.mem_or_eq_of_mem_set hv' with h1|h1
  ·exact g4 v h1
  ·subst h1;exact hv
 | false=>
  have hle:=below_le n.keys key
  have hmin:min (below n.keys key) n.vals.length=below n.keys key:=by rw [g1];omega
  rw [if_neg (by simp),hmin]
  refine ⟨⟨h.lvl,h.right,h.high,h.high64,rise_ins h.rise hh,λ k hk'=>?_,λ _=>⟨?_,?_,g3,λ v hv'=>?_⟩,λ hne=>absurd hl hne⟩,hl⟩
  ·rcases mem_insM hk' with h1|h1
   ·subst h1;exact ⟨hk,hb⟩
   ·exact h.key k h1
  ·show (ins n.vals _ _).length=(ins n.keys _ _).length
   rw [ins_len _ _ _ hle,ins_len _ _ _ (by omega),g1]
  ·show ((ins n.keys _ _).length:Int)<=_
   rw [ins_len _ _ _ hle];omega
  ·rcases mem_insM hv' with h1|h1
   ·subst h1;exact hv
   ·exact g4 v h1
theorem nodup_ins {l:List Int} {i:Nat} {x:Int} (h:l.Nodup) (hx:x ∉ l):(ins l i x).Nodup:=by
 unfold ins
 rw [List.nodup_append]
 have h1:(l.take i++l.drop i).Nodup:=by rw [List.take_append_drop];exact h
 rw [List.nodup_append] at h1
 refine ⟨h1.1,List.nodup_cons.2 ⟨λ hm=>hx (List.mem_of_mem_drop hm),h1.2.1⟩,λ a ha b hb=>?_⟩
 rcases List.mem_cons.1 hb with hb|hb
 ·subst hb;intro e;subst e;exact hx (List.mem_of_mem_take ha)
 ·exact h1.2.2 a ha b hb
theorem May.join_ (h:May n a0 a1 a2) (hl:n.lvl≠0) (hk:1<=key.length/\key.length<=64) (hb:beyond n.high key=false) (hkid:kid ∉ n.kids) (hr:1<=kid/\kid<=a0):May (jnd n key kid) a0 a1 (a2+1)/\(jnd n key kid).lvl≠0:=by
 obtain ⟨g1,g2,g3,g4,g5⟩:=h.inner hl
 unfold jnd
 cases hh:has n.keys key with
 | true=>
  exact ⟨⟨h.lvl,h.right,h.high,h.high64,h.rise,h.key,λ he=>absurd he hl,λ _=>⟨g1,g2,g3,g4,by show (n.kids.length:Int)<=_;omega⟩⟩,hl⟩
 | false=>
  have hle:=below_le n.keys key
  rw [if_neg (by simp)]
  have hm:min (below n.keys key+1) n.kids.length<=n.kids.length:=Nat.min_le_right _ _
  refine ⟨⟨h.lvl,h.right,h.high,h.high64,rise_ins h.rise hh,λ k hk'=>?_,λ he=>absurd he hl,λ _=>⟨nodup_ins g1 hkid,λ k hk'=>?_,g3,?_,?_⟩⟩,hl⟩
  ·rcases mem_insM hk' with h1|h1
   ·subst h1;exact ⟨hk,hb⟩
   ·exact h.key k h1
  ·rcases mem_insM hk' with h1|h1
   ·subst h1;exact hr
   ·exact g2 k h1
  ·show (ins n.kids _ _).length=(ins n.keys _ _).length+1
   rw [ins_len _ _ _ hm,ins_len _ _ _ hle];omega
  ·show ((ins n.kids _ _).length:Int)<=_
   rw [ins_len _ _ _ hm];omega
/-! ### in two -/
theorem May.notOver (h:May n a0 (a1+1) (a2+1)) (ho:over n a1 a2=false):May n a0 a1 a2:=by
 unfold over at ho
 refine ⟨h.lvl,h.right,h.high,h.high64,h.rise,h.key,λ hl=>?_,λ hl=>?_⟩
 ·rw [if_pos hl,decide_eq_false_iff_not] at ho
  obtain ⟨g1,g2,g3,g4⟩:=h.leaf hl
  exact ⟨g1,by omega,g3,g4⟩
 ·rw [if_neg hl,decide_eq_false_iff_not] at ho
  obtain ⟨g1,g2,g3,g4,g5⟩:=h.inner hl
  exact ⟨g1,g2,g3,g4,by omega⟩
theorem notBeyond {high k:List UInt8} (h:cmp k high < 0):beyond high k=false:=by
 unfold beyond
 rw [decide_eq_false (show ¬0<=cmp k high by omega)];simp
theorem May.split (h:May n a0 (a1+1) (a2+1)) (ho:over n a1 a2=true) (h0:1<=a0) (h1:2<=a1) (h2:3<=a2):May (spL n a0) a0 a1 a2/\May (spR n) a0 a1 a2:=by
 unfold over at ho
 by_cases hl:n.lvl=0
 ·rw [if_pos hl,decide_eq_true_eq] at ho
  obtain ⟨g1,g2,g3,g4⟩:=h.leaf hl
  have hM:spM n=n.keys.length:=by unfold spM;rw [if_pos hl]
  have hbad:¬spBad n:=by
   unfold spBad
   rw [hM]
   rintro (hb|⟨_,hb⟩|⟨hb,_⟩)
   ·omega
   ·omega
   ·exact hb hl
  have hH:spH n=(n.keys.length+1) / 2:=by unfold spH;rw [hM]
  have hlt:spH n < n.keys.length:=by omega
  obtain ⟨kk,hkk⟩:∃ x,n.keys[spH n]?=some x:=⟨_,List.getElem?_eq_getElem hlt⟩
  have hK:spK n=kk:=by unfold spK;rw [if_neg hbad,if_pos hl,List.getD_eq_getElem?_getD,hkk];rfl
  have hkey:=h.key kk (List.mem_of_getElem? hkk)
  unfold spL spR
  rw [if_neg hbad,if_neg hbad,if_pos hl,if_pos hl,hK]
  constructor
  ·refine ⟨h.lvl,⟨by show 0<=a0;omega,Int.le_refl _⟩,?_,hkey.1.2,rise_take h.rise _,λ k hk=>⟨(h.key k (List.mem_of_mem_take hk)).1,?_⟩,λ _=>⟨?_,?_,g3,λ v hv=>g4 v (List.mem_of_mem_take hv)⟩,λ hne=>absurd hl hne⟩
   ·show kk.length=0 ↔ a0=0
    have:=hkey.1.1
    constructor<;>intro<;>omega
   ·obtain ⟨i,hi⟩:=List.mem_iff_getElem?.1 hk
    have hi':n.keys[i]?=some k/\i < spH n:=by
     rw [List.getElem?_take] at hi
     split at hi
     ·exact ⟨hi,by assumption⟩
     ·cases hi
    exact notBeyond (rise_lt' h.rise hi'.2 hi'.1 hkk)
   ·show (n.vals.take _).length=(n.keys.take _).length
    rw [List.length_take,List.length_take,g1]
   ·show ((n.keys.take _).length:Int)<=_
    rw [List.length_take];omega
  ·refine ⟨h.lvl,h.right,h.high,h.high64,rise_drop h.rise _,λ k hk=>h.key k (List.mem_of_mem_drop hk),λ _=>⟨?_,?_,g3,λ v hv=>g4 v (List.mem_of_mem_drop hv)⟩,λ hne=>absurd hl hne⟩
   ·show (n.vals.drop _).length=(n.keys.drop _).length
    rw [List.length_drop,List.length_drop,g1]
   ·show ((n.keys.drop _).length:Int)<=_
    rw [List.length_drop];omega
 ·rw [if_neg hl,decide_eq_true_eq] at ho
  obtain ⟨g1,g2,g3,g4,g5⟩:=h.inner hl
  have hM:spM n=n.kids.length:=by unfold spM;rw [if_neg hl]
  have hbad:¬spBad n:=by
   unfold spBad
   rw [hM]
   rintro (hb|⟨hb,_⟩|⟨_,hb⟩)
   ·omega
   ·exact hl hb
   ·omega
  have hH:spH n=(n.kids.length+1) / 2:=by unfold spH;rw [hM]
  have hlt:spH n-1 < n.keys.length:=by omega
  have hpos:1<=spH n:=by omega
  obtain ⟨kk,hkk⟩:∃ x,n.keys[spH n-1]?=some x:=⟨_,List.getElem?_eq_getElem hlt⟩
  have hK:spK n=kk:=by unfold spK;rw [if_neg hbad,if_neg hl,List.getD_eq_getElem?_getD,hkk];rfl
  have hkey:=h.key kk (List.mem_of_getElem? hkk)
  unfold spL spR
  rw [if_neg hbad,if_neg hbad,if_neg hl,if_neg hl,hK]
  constructor
  ·refine ⟨h.lvl,⟨by show 0<=a0;omega,Int.le_refl _⟩,?_,hkey.1.2,rise_take h.rise _,λ k hk=>⟨(h.key k (List.mem_of_mem_take hk)).1,?_⟩,λ he=>absurd he hl,λ _=>⟨g1.sublist (List.take_sublist _ _),λ k hk=>g2 k (List.mem_of_mem_take hk),g3,?_,?_⟩⟩
   ·show kk.length=0 ↔ a0=0
    have:=hkey.1.1
    constructor<;>intro<;>omega
   ·obtain ⟨i,hi⟩:=List.mem_iff_getElem?.1 hk
    have hi':n.keys[i]?=some k/\i < spH n-1:=by
     rw [List.getElem?_take] at hi
     split at hi
     ·exact ⟨hi,by assumption⟩
     ·cases hi
    exact notBeyond (rise_lt' h.rise hi'.2 hi'.1 hkk)
   ·show (n.kids.take _).length=(n.keys.take _).length+1
    rw [List.length_take,List.length_take];omega
   ·show ((n.kids.take _).length:Int)<=_
    rw [List.length_take];omega
  ·refine ⟨h.lvl,h.right,h.high,h.high64,rise_drop h.rise _,λ k hk=>h.key k (List.mem_of_mem_drop hk),λ he=>absurd he hl,λ _=>⟨g1.sublist (List.drop_sublist _ _),λ k hk=>g2 k (List.mem_of_mem_drop hk),g3,?_,?_⟩⟩
   ·show (n.kids.drop _).length=(n.keys.drop _).length+1
    rw [List.length_drop,List.length_drop];omega
   ·show ((n.kids.drop _).length:Int)<=_
    rw [List.length_drop];omega
end
section
variable {a0 a1 a2 b1 b2 level lv:Int} {V V':Ar} {n:Nd} {key val low k:List UInt8} {kid id:Int} {c d:Ch} {chk:Nd->Int} {es es':List Ent}
theorem May.wide (h:May n a0 a1 a2) (h1:a1<=b1) (h2:a2<=b2):May n a0 b1 b2:=
 ⟨h.lvl,h.right,h.high,h.high64,h.rise,h.key,λ hl=>⟨(h.leaf hl).1,Int.le_trans (h.leaf hl).2.1 h1,(h.leaf hl).2.2⟩,λ hl=>⟨(h.inner hl).1,(h.inner hl).2.1,(h.inner hl).2.2.1,(h.inner hl).2.2.2.1,Int.le_trans (h.inner hl).2.2.2.2 h2⟩⟩
theorem wth_hd:(wth n key val).lvl=n.lvl/\(wth n key val).right=n.right/\(wth n key val).high=n.high/\(wth n key val).kids=n.kids:=by unfold wth;split<;>exact ⟨rfl,rfl,rfl,rfl⟩
theorem jnd_hd:(jnd n key kid).lvl=n.lvl/\(jnd n key kid).right=n.right/\(jnd n key kid).high=n.high/\(jnd n key kid).vals=n.vals:=by unfold jnd;split<;>exact ⟨rfl,rfl,rfl,rfl⟩
theorem wth_keys {x:List UInt8} (h:x ∈ (wth n key val).keys):x=key\/x ∈ n.keys:=by
 unfold wth at h
 split at h
 ·exact .inr h
 ·exact mem_insM h
theorem jnd_keys {x:List UInt8} (h:x ∈ (jnd n key kid).keys):x=key\/x ∈ n.keys:=by
 unfold jnd at h
 split at h
 ·exact .inr h
 ·exact mem_insM h
theorem jnd_kids {x:Int} (h:x ∈ (jnd n key kid).kids):x=kid\/x ∈ n.kids:=by
 unfold jnd at h
 split at h
 ·exact .inr h
 ·exact mem_insM h
theorem lowBad_of (h1:∀ x ∈ n.keys,cmp low x<=0) (h2:0 < low.length->0 < n.high.length->0 < cmp n.high low):lowBad low n=false:=by
 unfold lowBad
 by_cases hl:0 < low.length
 ·rw [decide_eq_true hl,Bool.true_and,Bool.or_eq_false_iff]
  refine ⟨?_,?_⟩
  ·cases hk:n.keys with
   | nil=>rfl
   | cons x r=>
    have:=h1 x (by rw [hk];exact List.mem_cons_self)
    have h3:=cmp_swap_ low x
    show decide (cmp x low < 0)=false
    rw [decide_eq_false_iff_not];omega
  ·by_cases hh:0 < n.high.length
   ·rw [decide_eq_true hh,Bool.true_and,decide_eq_false_iff_not]
    have:=h2 hl hh;omega
   ·rw [decide_eq_false hh,Bool.false_and]
 ·rw [decide_eq_false hl,Bool.false_and]
theorem lowBad_high (h:lowBad low n=false) (h1:0 < low.length) (h2:0 < n.high.length):0 < cmp n.high low:=by
 unfold lowBad at h
 rw [decide_eq_true h1,Bool.true_and,Bool.or_eq_false_iff,decide_eq_true h2,Bool.true_and,decide_eq_false_iff_not] at h
 omega
theorem wth_low (hm:May n a0 a1 a2) (h:lowBad low n=false) (hk:cmp low key<=0):lowBad low (wth n key val)=false:=by
 refine lowBad_of (λ x hx=>?_) (λ h1 h2=>by rw [wth_hd.2.2.1] at h2 ⊢;exact lowBad_high h h1 h2)
 rcases wth_keys hx with rfl|hx
 ·exact hk
 ·exact low_keys hm.rise h x hx
theorem jnd_low (hm:May n a0 a1 a2) (h:lowBad low n=false) (hk:cmp low key<=0):lowBad low (jnd n key kid)=false:=by
 refine lowBad_of (λ x hx=>?_) (λ h1 h2=>by rw [jnd_hd.2.2.1] at h2 ⊢;exact lowBad_high h h1 h2)
 rcases jnd_keys hx with rfl|hx
 ·exact hk
 ·exact low_keys hm.rise h x hx
theorem Chn.cover (h:Chn V chk level id low c) (hmay:∀ n,chk n=0->May n a0 a1 a2):cmp low k<=0->∃ e ∈ c,cmp e.2 k<=0/\beyond (opNd V e.1).high k=false:=by
 induction h with
 | @last id low s h1 h2 h3 h4 h5=>
  intro hk
  refine ⟨_,List.mem_cons_self,hk,?_⟩
  show beyond (opNd V id).high k=false
  have:opNd V id=s.nd:=by unfold opNd;rw [h1]
  rw [this]
  have h6:=(hmay _ h3).high.2 h5
  unfold beyond
  rw [h6];rfl
 | @more id low s r h1 h2 h3 h4 h5 h6 ih=>
  intro hk
  have hn:opNd V id=s.nd:=by unfold opNd;rw [h1]
  by_cases hb:beyond s.nd.high k=true
  ·obtain ⟨_,b2⟩:=beyond_iff.1 hb
   obtain ⟨e,g1,g2⟩:=ih (by have:=cmp_swap_ k s.nd.high;omega)
   exact ⟨e,List.mem_cons_of_mem _ g1,g2⟩
  ·exact ⟨_,List.mem_cons_self,hk,by show beyond (opNd V id).high k=false;rw [hn];simpa using hb⟩
def Put1 (key val:List UInt8) (es es':List Ent):Prop:=∀ k,es'.find? (λ e=>e.1==k)=if k=key then some (key,val) else es.find? (λ e=>e.1==k)
theorem entsM_zip (vals:List (List UInt8)):∀ (i:Nat) (ks:List (List UInt8)),i+ks.length<=vals.length->entsM vals i ks=ks.zip (vals.drop i)
 | _,[],_=>rfl
 | i,x::ks,h=>by
  simp only [List.length_cons] at h
  obtain ⟨v,hv⟩:∃ v,vals[i]?=some v:=⟨_,List.getElem?_eq_getElem (by omega)⟩
  have hd:vals.drop i=v::vals.drop (i+1):=by
   have hlt:i < vals.length:=by omega
   rw [List.drop_eq_getElem_cons hlt]
   rw [List.getElem?_eq_getElem hlt] at hv
   rw [Option.some.inj hv]
  rw [hd,List.zip_cons_cons,entsM,entsM_zip vals (i+1) ks (by omega)]
  rw [List.getD_eq_getElem?_getD,hv];rfl
theorem ents_zip (h:n.keys.length<=n.vals.length):ents n=n.keys.zip n.vals:=by
 unfold ents;rw [entsM_zip _ 0 _ (by omega)];rfl
theorem wth_put (hm:May n a0 a1 a2) (hl:n.lvl=0):Put1 key val (ents n) (ents (wth n key val)):=λ k=>by
 have hlen:=(hm.leaf hl).1
 have hb:below n.keys key<=n.keys.length:=List.countP_le_length
 have hpre:∀ e ∈ (n.keys.take (below n.keys key)).zip (n.vals.take (below n.keys key)),e.1≠key:=λ e he hk=>by
  have h1:=(List.of_mem_zip he).1
  obtain ⟨j,hj⟩:=mem_at h1
  rw [List.getElem?_take] at hj
  split at hj
  ·rename_i hlt
   have:=(below_iff hm.rise j _ hj).2 hlt
   rw [hk,cmp_self] at this
   omega
  ·cases hj
 have hsplit:ents n=(n.keys.take (below n.keys key)).zip (n.vals.take (below n.keys key))++(n.keys.drop (below n.keys key)).zip (n.vals.drop (below n.keys key)):=by
  rw [ents_zip (by omega),<-List.zip_append (by simp [List.length_take];omega),List.take_append_drop,List.take_append_drop]
 have hnone:((n.keys.take (below n.keys key)).zip (n.vals.take (below n.keys key))).find? (λ e=>e.1==key)=none:=find_none hpre
 have hkv:(((key,val):Ent).1==key)=true:=by simp
 by_cases hh:has n.keys key=true
 ·have hw:wth n key val={n with vals:=n.vals.set (below n.keys key) val}:=by unfold wth;rw [if_pos hh]
  have hat:n.keys[below n.keys key]?=some key:=by
   obtain ⟨j,hj⟩:=mem_at (has_iff.1 hh)
   rw [below_at hm.rise hj];exact hj
  have hlt:below n.keys key < n.keys.length:=(List.getElem?_eq_some_iff.1 hat).1
  have hK:n.keys.drop (below n.keys key)=key::n.keys.drop (below n.keys key+1):=by
   rw [List.drop_eq_getElem_cons hlt]
   rw [List.getElem?_eq_getElem hlt] at hat
   rw [Option.some.inj hat]
  obtain ⟨v0,hv0⟩:∃ v0,n.vals.drop (below n.keys key)=v0::n.vals.drop (below n.keys key+1):=⟨_,List.drop_eq_getElem_cons (by omega)⟩
  have hV:n.vals.set (below n.keys key) val=n.vals.take (below n.keys key)++val::n.vals.drop (below n.keys key+1):=by
   rw [List.set_eq_take_append_cons_drop,if_pos (by omega)]
  have hnew:ents (wth n key val)=(n.keys.take (below n.keys key)).zip (n.vals.take (below n.keys key))++(key,val)::(n.keys.drop (below n.keys key+1)).zip (n.vals.drop (below n.keys key+1)):=by
   rw [hw,ents_zip (by simp;omega)]
   show n.keys.zip (n.vals.set (below n.keys key) val)=_
   rw [hV]
   have hgen:∀ b:Nat,b<=n.keys.length->b<=n.vals.length->n.keys.drop b=key::n.keys.drop (b+1)->n.keys.zip (n.vals.take b++val::n.vals.drop (b+1))=(n.keys.take b).zip (n.vals.take b)++(key,val)::(n.keys.drop (b+1)).zip (n.vals.drop (b+1)):=λ b g1 g2 g3=>by
    have e:n.keys.zip (n.vals.take b++val::n.vals.drop (b+1))=(n.keys.take b++key::n.keys.drop (b+1)).zip (n.vals.take b++val::n.vals.drop (b+1)):=by rw [<-g3,List.take_append_drop]
    rw [e,List.zip_append (by rw [List.length_take,List.length_take];omega),List.zip_cons_cons]
   exact hgen _ (by omega) (by omega) hK
  rw [hsplit,hnew,hK,hv0,List.zip_cons_cons,List.find?_append,List.find?_append]
  by_cases hk:k=key
  ·subst hk
   rw [if_pos rfl,hnone]
   simp
  ·have hkf:∀ v:List UInt8,(((key,v):Ent).1==k)=false:=λ v=>by simp;exact λ e=>hk e.symm
   rw [if_neg hk,List.find?_cons_of_neg (by rw [hkf];decide),List.find?_cons_of_neg (by rw [hkf];decide)]
 ·have hw:wth n key val={n with keys:=ins n.keys (below n.keys key) key,vals:=ins n.vals (min (below n.keys key) n.vals.length) val}:=by unfold wth;rw [if_neg hh]
  have hnew:ents (wth n key val)=(n.keys.take (below n.keys key)).zip (n.vals.take (below n.keys key))++(key,val)::(n.keys.drop (below n.keys key)).zip (n.vals.drop (below n.keys key)):=by
   rw [hw,Nat.min_eq_left (by omega),ents_zip (by simp [ins];omega)]
   unfold ins
   rw [List.zip_append (by simp [List.length_take];omega),List.zip_cons_cons]
  rw [hsplit,hnew,List.find?_append,List.find?_append]
  by_cases hk:k=key
  ·subst hk
   rw [if_pos rfl,hnone]
   simp
  ·have hkf:(((key,val):Ent).1==k)=false:=by simp;exact λ e=>hk e.symm
   rw [if_neg hk,List.find?_cons_of_neg (by rw [hkf];decide)]
end
section
variable {a0 a1 a2 a3 a4:Int} {A A' V V':Ar} {ps:List Pm} {m m':Pm} {lv:Int} {ls:List Ch} {es es':List Ent} {i j:Nat} {id kid:Int} {n:Nd} {s t:Sl} {d c:Ch} {lw key:List UInt8}
theorem jnd_first (hm:May n a0 a1 a2) (hl:n.lvl≠0):(jnd n key kid).kids.getD 0 0=n.kids.getD 0 0:=by
 unfold jnd
 split
 ·rfl
 ·have h1:=(hm.inner hl).2.2.2.1
  show (ins n.kids (min (below n.keys key+1) n.kids.length) kid).getD 0 0=_
  rw [List.getD_eq_getElem?_getD,List.getD_eq_getElem?_getD,ins_get _ _ _ (Nat.min_le_right _ _),if_pos (by omega)]
theorem jnd_nodeKids (hm:May n a0 a1 a2) (hl:n.lvl≠0) (hk:nodeKids d lw n=true) (hin:(kid,key) ∈ d):nodeKids d lw (jnd n key kid)=true:=by
 unfold jnd
 split
 ·exact hk
 ·have hlen:=(hm.inner hl).2.2.2.1
  have hb:=below_le n.keys key
  have hmin:min (below n.keys key+1) n.kids.length=below n.keys key+1:=by omega
  rw [hmin]
  unfold nodeKids at hk ⊢
  rw [List.all_eq_true] at hk ⊢
  intro k hkr
  have hlt:k < n.kids.length+1:=by
   have:=List.mem_range.1 hkr
   simp [ins] at this;omega
  have hkid:∀ q,(ins n.kids (below n.keys key+1) kid).getD q 0=if q < below n.keys key+1 then n.kids.getD q 0 else if q=below n.keys key+1 then kid else n.kids.getD (q-1) 0:=λ q=>by
   rw [List.getD_eq_getElem?_getD,ins_get _ _ _ (by omega)]
   split
   ·rw [List.getD_eq_getElem?_getD]
   ·split
    ·rfl
    ·rw [List.getD_eq_getElem?_getD]
  have hkey:∀ q,(ins n.keys (below n.keys key) key).getD q []=if q < below n.keys key then n.keys.getD q [] else if q=below n.keys key then key else n.keys.getD (q-1) []:=λ q=>by
   rw [List.getD_eq_getElem?_getD,ins_get _ _ _ hb]
   split
   ·rw [List.getD_eq_getElem?_getD]
   ·split
    ·rfl
    ·rw [List.getD_eq_getElem?_getD]
  show kidOk d ((ins n.kids (below n.keys key+1) kid).getD k 0) (if k=0 then lw else (ins n.keys (below n.keys key) key).getD (k-1) [])=true
  rw [hkid,hkey]
  by_cases c1:k < below n.keys key+1
  ·rw [if_pos c1]
   have h1:=hk k (List.mem_range.2 (by omega))
   unfold wantLow at h1
   by_cases c0:k=0
   ·rw [if_pos c0] at h1 ⊢;exact h1
   ·rw [if_neg c0] at h1 ⊢
    rw [if_pos (by omega)];exact h1
  ·rw [if_neg c1]
   by_cases c2:k=below n.keys key+1
   ·rw [if_pos c2,if_neg (show ¬k=0 by omega),if_neg (show ¬k-1 < below n.keys key by omega),if_pos (show k-1=below n.keys key by omega)]
    unfold kidOk
    rw [List.any_eq_true]
    exact ⟨_,hin,by simp⟩
   ·rw [if_neg c2,if_neg (show ¬k=0 by omega),if_neg (show ¬k-1 < below n.keys key by omega),if_neg (show ¬k-1=below n.keys key by omega)]
    have h1:=hk (k-1) (List.mem_range.2 (by omega))
    unfold wantLow at h1
    rw [if_neg (by omega)] at h1
    rw [show k-1-1=k-1-1 from rfl] at h1
    exact h1
theorem keyFit_iff {k:List UInt8}:keyFit k=true ↔ 1<=k.length/\k.length<=64:=by unfold keyFit;simp
theorem valFit_iff {k:List UInt8}:valFit k=true ↔ k.length<=256:=by unfold valFit;simp
structure Grip (a0 a1 a2:Int) (V:Ar) (lv:Int) (ls:List Ch) (m:Pm) (j:Nat) (c:Ch) (lw:List UInt8):Prop where
 at_:ls[j]?=some c
 lvl:m.level=lv-j
 mem:(m.id,lw) ∈ c
 low:cmp lw m.sep<=0
 get:∃ t,V.get m.id=some t/\t.nd=m.old
 nd:opNd V m.id=m.old
 olvl:m.old.lvl=m.level
 may:May m.old a0 a1 a2
 lowb:lowBad lw m.old=false
theorem DInv.grip (h:DInv a0 a1 a2 a3 a4 A V ps lv ls es) (hm:m ∈ ps) (h1:3<=m.nx) (h2:m.nx<=13):∃ j c lw,Grip a0 a1 a2 V lv ls m j c lw:=by
 obtain ⟨⟨j,c,lw,g1,g2,g3,g4⟩,_⟩:=(h.each m hm).at_ (by omega) h2
 obtain ⟨t,k1,k2,k3,k4,k5,_⟩:=h.tree.at_ g1 g3
 have hv:=h.vof.grip m hm m.id ((grips_id h1 h2).2 rfl)
 have hto:t.nd=m.old:=k2.symm.trans hv
 rw [hto] at k3 k4 k5
 exact ⟨j,c,lw,g1,g2,g3,g4,⟨t,k1,hto⟩,hv,by omega,k4,k5⟩
theorem DInv.newMay (h:DInv a0 a1 a2 a3 a4 A V ps lv ls es) (hm:m ∈ ps) (h1:3<=m.nx) (h2:m.nx<=13) (hb:beyond m.old.high m.sep=false) (hg:Grip a0 a1 a2 V lv ls m j c lw):May (newP m) a0 (a1+1) (a2+1)/\(newP m).lvl=m.old.lvl/\(newP m).right=m.old.right/\(newP m).high=m.old.high/\lowBad lw (newP m)=false/\(newP m).kids.getD 0 0=m.old.kids.getD 0 0/\(∀ d,ls[j+1]?=some d->nodeKids d lw m.old=true->nodeKids d lw (newP m)=true)/\(∀ x ∈ (newP m).kids,x ∈ m.old.kids\/(0 < m.level/\x=m.half)):=by
 have hE:=h.each m hm
 have hl:m.live:=⟨by omega,by omega⟩
 obtain ⟨k1,k2,k3,k4⟩:=hE.key hl
 unfold newP
 by_cases h0:m.level=0
 ·rw [if_pos h0]
  have hs:=k4 h0
  obtain ⟨q1,q2,q3,q4⟩:=wth_hd (n:=m.old) (key:=m.key) (val:=m.val)
  have hlow:=hg.low
  rw [hs] at hlow hb
  have hw:=hg.may.with_ (by rw [hg.olvl];exact h0) (keyFit_iff.1 k1) hb (valFit_iff.1 k2)
  refine ⟨hw.1.wide (Int.le_refl _) (by omega),q1,q2,q3,wth_low hg.may hg.lowb hlow,by rw [q4],λ d _ hd=>?_,λ x hx=>.inl (by rw [q4] at hx;exact hx)⟩
  have hkn:m.old.kids=[]:=(hg.may.leaf (by rw [hg.olvl];exact h0)).2.2.1
  unfold nodeKids
  rw [q4,hkn];rfl
 ·rw [if_neg h0]
  have hpend:=hE.pend hl (by omega)
  have hol:m.old.lvl≠0:=by rw [hg.olvl];exact h0
  have hin:(m.id,lw) ∈ ls.flatten:=List.mem_flatten.2 ⟨c,List.mem_of_getElem? hg.at_,hg.mem⟩
  have hnk:m.half ∉ m.old.kids:=by have:=hpend.kid _ hin;rw [hg.nd] at this;exact this
  have hmet:=h.tree.met.2 _ hpend.ids.1
  have hr:=h.room
  have hvl:=h.vof.len
  obtain ⟨q1,q2,q3,q4⟩:=jnd_hd (n:=m.old) (key:=m.sep) (kid:=m.half)
  have hw:=hg.may.join_ hol hpend.sep hb hnk ⟨hmet.1,by omega⟩
  refine ⟨hw.1.wide (by omega) (Int.le_refl _),q1,q2,q3,jnd_low hg.may hg.lowb hg.low,jnd_first hg.may hol,λ d hd hk=>?_,λ x hx=>(jnd_kids hx).elim (λ e=>.inr ⟨by omega,e⟩) .inl⟩
  obtain ⟨j',c',p1,p2,p3,_⟩:=hpend.half
  have hjj:j'=j+1:=by have:=hg.lvl;omega
  rw [hjj,hd] at p1
  cases p1
  exact jnd_nodeKids hg.may hol hk p3
end
end Go.Proofs.YtjcgphhpaenjkaaGreat

import Derived.Test.YtjcgphhpaenjkaaPkC0
set_option linter.unusedVariables false
namespace Go.Proofs.Ytjcgphhpaenjkaa
open Go.RowKit
section
variable {a0 a1 a2 a3 a4:Int} {A A' V V':Ar} {ps:List Pm} {m m':Pm} {lv:Int} {ls:List Ch} {es es':List Ent} {i j:Nat} {id kid:Int} {n:Nd} {s t:Sl} {d c:Ch} {lw key:List UInt8}
theorem Tv.leaf {chk:Nd->Int} (h:Tv V chk a0 a1 a2 lv ls):∃ c,ls[lv.toNat]?=some c:=by
 have h1:=h.ti.len
 have h2:=h.lv0
 exact ⟨_,List.getElem?_eq_getElem (by omega)⟩
theorem Tv.find {chk:Nd->Int} (h:Tv V chk a0 a1 a2 lv ls) (hj:ls[j]?=some c) (hm:(id,lw) ∈ c) (hle:cmp lw key<=0) (hb:beyond (opNd V id).high key=false):(entsCh V c).find? (λ e=>e.1==key)=(ents (opNd V id)).find? (λ e=>e.1==key):=by
 obtain ⟨f,hc,_⟩:=h.ti.at_ hj
 exact chn_find (λ n=>(h.may n).1) hle rfl hb hc hm
theorem Tv.cover {chk:Nd->Int} (h:Tv V chk a0 a1 a2 lv ls) (hj:ls[j]?=some c) (key:List UInt8):∃ e ∈ c,cmp e.2 key<=0/\beyond (opNd V e.1).high key=false:=by
 obtain ⟨f,hc,_⟩:=h.ti.at_ hj
 exact hc.cover (λ n=>(h.may n).1) (cmp_nil _)
theorem DInv.step4 (h:DInv a0 a1 a2 a3 a4 A V ps lv ls es) (hm:ps[i]?=some m) (hx:m.nx=4) (hk:Kept a1 a2 A ps i m) (hb:∀ s ∈ A.sl,s.word+2 < 18446744073709551616):∃ V' es',DInv a0 a1 a2 a3 a4 (stepP a1 a2 A m).2.1 V' (ps.set i (stepP a1 a2 A m).2.2) lv ls es'/\(m.level=0->Put1 m.key m.val es es')/\(0 < m.level->es'=es):=by
 have hk':PInv a1 a2 (stepP a1 a2 A m).2.1 (ps.set i (stepP a1 a2 A m).2.2):=hk
 have hmm:=List.mem_of_getElem? hm
 have hE:=h.each m hmm
 have hl:m.live:=⟨by omega,by omega⟩
 obtain ⟨s,hs,ho⟩:=h.inv.slot hm (holds_id (m:=m) (by omega) (by omega))
 obtain ⟨q,_,hq,_⟩:=get_some hs
 have hu:=unlock_odd hs ho (hb s (List.mem_of_getElem? hq)) true
 have hsn:s.nd=m.nw:=by
  have h2:=(h.inv.each m hmm).2.2.2
  rw [hx] at h2
  have:=h2.1
  unfold opNd at this;rw [hs] at this;exact this
 obtain ⟨hnw,_,hno,_⟩:=hE.nw (by omega)
 have hno:=hno (.inr hx)
 have hbey:=(hE.at_ (by omega) (by omega)).2
 obtain ⟨j,c,lw,hg⟩:=h.grip hmm (by omega) (by omega)
 obtain ⟨w1,w2,w3,w4,w5,w6,w7,w8⟩:=h.newMay hmm (by omega) (by omega) hbey hg
 rw [<-hnw] at w1 w2 w3 w4 w5 w6 w7 w8
 obtain ⟨t,ht,hto⟩:=hg.get
 have hpos:1<=m.id:=(get_le hs).1
 have hidin:m.id ∈ ids ls:=mem_ids.2 ⟨j,c,lw,hg.at_,hg.mem⟩
 have hnd:h.tree.met.1=h.tree.met.1:=rfl
 have hxx:opNd (V.put m.id ⟨0,m.nw⟩) m.id=m.nw:=opNd_put ht
 have hne:∀ y,y≠m.id->opNd (V.put m.id ⟨0,m.nw⟩) y=opNd V y:=λ y hy=>opNd_put_ne hpos hy
 have hkd:∀ d,ls[j+1]?=some d->nodeKids d lw m.old=true:=λ d hd=>by
  have:=(h.tree.ti.chn j c d hg.at_ hd).2 _ hg.mem
  rw [hg.nd] at this;exact this
 have hT:Tv (V.put m.id ⟨0,m.nw⟩) (chkM a0 a1 a2 a3 a4) a0 a1 a2 lv ls:=by
  refine ⟨?_,h.tree.lv0,λ s hs=>?_,⟨h.tree.met.1,λ x hx=>by rw [put_len];exact h.tree.met.2 x hx⟩,h.tree.may,h.tree.two⟩
  ·exact h.tree.ti.put (t:=⟨0,m.nw⟩) h.tree.met.1 hg.at_ hg.mem ht ⟨by rw [hto];exact w2,by rw [hto];exact w3,by rw [hto];exact w4⟩ ((h.tree.may _).2 (w1.notOver hno)) w5 (by rw [hto];exact w6) (λ d hd=>w7 d hd (hkd d hd))
  ·rcases List.mem_or_eq_of_mem_set hs with h1|h1
   ·exact h.tree.even s h1
   ·rw [h1];rfl
 obtain ⟨c0,hc0⟩:=h.tree.leaf
 have hA:opNd (A.put m.id ⟨s.word+1,s.nd⟩) m.id=m.nw:=by rw [opNd_put hs];exact hsn
 have hg0:∀ ix,m.grips ix ↔ ix=m.id:=λ ix=>grips_id (by omega) (by omega)
 rw [stepP_4 hx (by rw [hu])] at hk' ⊢
 rw [hu] at hk' ⊢
 refine ⟨V.put m.id ⟨0,m.nw⟩,entsCh (V.put m.id ⟨0,m.nw⟩) c0,?_,λ h0=>?_,λ h0=>?_⟩
 ·refine h.turn hm hk' (h.vof.turn hm h.vof.root (by show (V.put _ _).sl.length=(A.put _ _).sl.length;rw [put_len,put_len];exact h.vof.len) (λ ix hq=>absurd hq (nogrip_of (.inr (by show 14<=20;decide)) ix)) (λ q x ix hqi hqx hgr=>hne ix (λ e=>h.inv.mygrip hm (by omega) (by omega) q x hqi hqx (e▸hgr))) (λ ix _ hq'=>?_)) hT (DEach.through rfl) Ext.refl (λ x hx=>.inl hx) (Nat.le_of_eq (put_len _).symm) (λ q x hqi hqx y hy=>hne y (λ e=>((h.each x (List.mem_of_getElem? hqx)).own y hy).1 (e▸hidin))) (λ q x hqi hqx l1 l2 e he=>?_) (noown (.inr (.inr (.inr (by show 20<=20;decide))))) (λ hl'=>absurd rfl hl'.2) ⟨h.room.1,by show (A.put _ _).sl.length<=_;rw [put_len];exact h.room.2⟩ (λ c hc=>by rw [hc0] at hc;cases hc;rfl)
  ·by_cases e:ix=m.id
   ·rw [e,hxx];exact hA.symm
   ·rw [hne ix e,show opNd (A.put m.id ⟨if true=true then s.word+1 else s.word-1,s.nd⟩) ix=opNd A ix from opNd_put_ne hpos e]
    refine h.vof.free ix (λ y hy=>?_)
    obtain ⟨r,hr⟩:=mem_at hy
    by_cases e2:r=i
    ·subst e2;rw [hm] at hr;cases hr;exact λ hc=>e ((hg0 ix).1 hc)
    ·exact hq' r y e2 hr
  ·have hpx:=(h.each x (List.mem_of_getElem? hqx)).pend l1 l2
   by_cases e1:e.1=m.id
   ·rw [e1,hxx]
    intro hin
    rcases w8 _ hin with h1|⟨h1,h2⟩
    ·have h3:=hpx.kid _ (List.mem_flatten.2 ⟨c,List.mem_of_getElem? hg.at_,hg.mem⟩)
     rw [hg.nd] at h3;exact h3 h1
    ·exact (h.apart i q m x (Ne.symm hqi) hm hqx).2 hl h1 l1 l2 h2.symm
   ·rw [hne e.1 e1];exact hpx.kid e he
 ·have hj0:j=lv.toNat:=by have:=hg.lvl;omega
  have hcc:c0=c:=by rw [<-hj0,hg.at_] at hc0;exact (Option.some.inj hc0).symm
  subst hcc
  rw [<-h.ents c0 hc0]
  have hs0:=(hE.key hl).2.2.2 h0
  have hnew:m.nw=wth m.old m.key m.val:=by rw [hnw];unfold newP;rw [if_pos h0]
  have hput:=wth_put (key:=m.key) (val:=m.val) hg.may (by rw [hg.olvl];exact h0)
  intro k
  by_cases hkk:k=m.key
  ·rw [if_pos hkk,hT.find (key:=k) hg.at_ hg.mem (by rw [hkk,<-hs0];exact hg.low) (by rw [hxx,w4,hkk,<-hs0];exact hbey),hxx,hnew,hput k,if_pos hkk]
  ·rw [if_neg hkk]
   obtain ⟨e,he,g1,g2⟩:=h.tree.cover hg.at_ k
   have hhi:(opNd (V.put m.id ⟨0,m.nw⟩) e.1).high=(opNd V e.1).high:=by
    by_cases e1:e.1=m.id
    ·rw [e1,hxx,hg.nd];exact w4
    ·rw [hne e.1 e1]
   rw [hT.find (key:=k) hg.at_ (show (e.1,e.2) ∈ c0 from he) g1 (by rw [hhi];exact g2),h.tree.find (key:=k) hg.at_ (show (e.1,e.2) ∈ c0 from he) g1 g2]
   by_cases e1:e.1=m.id
   ·rw [e1,hxx,hg.nd,hnew,hput k,if_neg hkk]
   ·rw [hne e.1 e1]
 ·rw [<-h.ents c0 hc0]
  refine entsCh_same (λ e he=>hne e.1 (λ e1=>?_))
  have:=(nodup_in (ix:=m.id) (lw:=lw) (lw':=e.2) h.tree.met.1 hg.at_ hg.mem hc0 (by rw [<-e1];exact he)).1
  have h2:=hg.lvl
  have h3:=h.tree.lv0
  omega
end
section
variable {a0 a1 a2:Int} {n:Nd} {x:Int} {lw k kk:List UInt8} {d:Ch} {q:Nat}
theorem spl_leaf (h:May n a0 (a1+1) (a2+1)) (ho:over n a1 a2=true) (h1:2<=a1) (hl:n.lvl=0):∃ q kk,1<=q/\q < n.keys.length/\n.keys[q]?=some kk/\spK n=kk/\(∀ x,spL n x={n with high:=kk,right:=x,keys:=n.keys.take q,vals:=n.vals.take q})/\spR n={n with keys:=n.keys.drop q,vals:=n.vals.drop q}:=by
 unfold over at ho
 rw [if_pos hl,decide_eq_true_eq] at ho
 obtain ⟨g1,g2,g3,g4⟩:=h.leaf hl
 have hM:spM n=n.keys.length:=by unfold spM;rw [if_pos hl]
 have hbad:¬spBad n:=by
  unfold spBad
  rw [hM]
  rintro (hb|⟨_,hb⟩|⟨hb,_⟩)
  ·omega
  ·omega
  ·exact hb hl
 have hH:spH n=(n.keys.length+1) / 2:=by unfold spH;rw [hM]
 have hlt:spH n < n.keys.length:=by omega
 obtain ⟨kk,hkk⟩:∃ x,n.keys[spH n]?=some x:=⟨_,List.getElem?_eq_getElem hlt⟩
 have hK:spK n=kk:=by unfold spK;rw [if_neg hbad,if_pos hl,List.getD_eq_getElem?_getD,hkk];rfl
 exact ⟨spH n,kk,by omega,hlt,hkk,hK,λ x=>by unfold spL;rw [if_neg hbad,if_pos hl,hK],by unfold spR;rw [if_neg hbad,if_pos hl]⟩
theorem spl_inner (h:May n a0 (a1+1) (a2+1)) (ho:over n a1 a2=true) (h2:3<=a2) (hl:n.lvl≠0):∃ q kk,2<=q/\q < n.kids.length/\n.keys[q-1]?=some kk/\spK n=kk/\(∀ x,spL n x={n with high:=kk,right:=x,keys:=n.keys.take (q-1),kids:=n.kids.take q})/\spR n={n with keys:=n.keys.drop q,kids:=n.kids.drop q}:=by
 unfold over at ho
 rw [if_neg hl,decide_eq_true_eq] at ho
 obtain ⟨g1,g2,g3,g4,g5⟩:=h.inner hl
 have hM:spM n=n.kids.length:=by unfold spM;rw [if_neg hl]
 have hbad:¬spBad n:=by
  unfold spBad
  rw [hM]
  rintro (hb|⟨hb,_⟩|⟨_,hb⟩)
  ·omega
  ·exact hl hb
  ·omega
 have hH:spH n=(n.kids.length+1) / 2:=by unfold spH;rw [hM]
 have hlt:spH n-1 < n.keys.length:=by omega
 obtain ⟨kk,hkk⟩:∃ x,n.keys[spH n-1]?=some x:=⟨_,List.getElem?_eq_getElem hlt⟩
 have hK:spK n=kk:=by unfold spK;rw [if_neg hbad,if_neg hl,List.getD_eq_getElem?_getD,hkk];rfl
 exact ⟨spH n,kk,by omega,by omega,hkk,hK,λ x=>by unfold spL;rw [if_neg hbad,if_neg hl,hK],by unfold spR;rw [if_neg hbad,if_neg hl]⟩
theorem May.right_ (h:May n a0 a1 a2) (hx:1<=x/\x<=a0) (hr:n.right≠0):May {n with right:=x} a0 a1 a2:=
 ⟨h.lvl,⟨by show 0<=x;omega,hx.2⟩,⟨λ e=>absurd (h.high.1 e) hr,λ e=>by have e2:x=0:=e;omega⟩,h.high64,h.rise,h.key,h.leaf,h.inner⟩
theorem rise_first {l:List (List UInt8)} (h:Rise l) {i:Nat} (hi:1<=i) {y z:List UInt8} (h0:l[0]?=some y) (hz:l[i]?=some z):cmp y z < 0:=rise_lt' h (by omega) h0 hz
theorem take_lt {l:List (List UInt8)} (h:Rise l) (hk:l[q]?=some kk):∀ y ∈ l.take q,cmp y kk < 0:=λ y hy=>by
 obtain ⟨i,hi⟩:=mem_at hy
 rw [List.getElem?_take] at hi
 split at hi
 ·exact rise_lt' h (by assumption) hi hk
 ·cases hi
theorem drop_ge {l:List (List UInt8)} (h:Rise l) (hk:l[q]?=some kk):∀ y ∈ l.drop q,cmp kk y<=0:=λ y hy=>by
 obtain ⟨i,hi⟩:=mem_at hy
 rw [List.getElem?_drop] at hi
 rcases Nat.eq_zero_or_pos i with rfl|hp
 ·rw [Nat.add_zero,hk] at hi;cases hi;rw [cmp_self];exact Int.le_refl _
 ·exact Int.le_of_lt (rise_lt' h (by omega) hk hi)
theorem cmp_high {high:List UInt8} (h:beyond high k=false) (hh:0 < high.length):0 < cmp high k:=by
 have h1:¬(0<=cmp k high):=λ hc=>by rw [beyond_iff.2 ⟨hh,hc⟩] at h;cases h
 have h2:=cmp_swap_ k high
 omega
structure Halves (a0 a1 a2:Int) (n:Nd) (lw:List UInt8) (x:Int):Prop where
 mayL:May (spL n x) a0 a1 a2
 mayR:May (spR n) a0 a1 a2
 headL:(spL n x).lvl=n.lvl/\(spL n x).right=x/\(spL n x).high=spK n
 headR:(spR n).lvl=n.lvl/\(spR n).right=n.right/\(spR n).high=n.high
 key:1<=(spK n).length/\(spK n).length<=64
 lowL:lowBad lw (spL n x)=false
 lowR:lowBad (spK n) (spR n)=false
 first:(spL n x).kids.getD 0 0=n.kids.getD 0 0
 kids:∀ d,nodeKids d lw n=true->nodeKids d lw (spL n x)=true/\nodeKids d (spK n) (spR n)=true
 kidsIn:∀ y,y ∈ (spL n x).kids\/y ∈ (spR n).kids->y ∈ n.kids
 inside:cmp lw (spK n)<=0/\beyond n.high (spK n)=false
theorem halves_ok (h:May n a0 (a1+1) (a2+1)) (ho:over n a1 a2=true) (h1:2<=a1) (h2:3<=a2) (hx:1<=x/\x<=a0) (hlow:lowBad lw n=false):Halves a0 a1 a2 n lw x:=by
 obtain ⟨m1,m2⟩:=h.split ho (by omega) h1 h2
 have hlk:=low_keys h.rise hlow
 by_cases hl:n.lvl=0
 ·obtain ⟨q,kk,q1,q2,q3,q4,q5,q6⟩:=spl_leaf h ho h1 hl
  obtain ⟨g1,g2,g3,g4⟩:=h.leaf hl
  have hkm:=List.mem_of_getElem? q3
  have hkey:=h.key kk hkm
  have hmL:May (spL n x) a0 a1 a2:=by
   rw [q5 a0] at m1
   rw [q5 x]
   exact m1.right_ (x:=x) hx (by show a0≠0;omega)
  refine ⟨hmL,m2,?_,?_,by rw [q4];exact hkey.1,?_,?_,by rw [q5 x],λ d hd=>?_,λ y hy=>?_,by rw [q4];exact ⟨hlk kk hkm,hkey.2⟩⟩
  ·rw [q5 x,q4];exact ⟨rfl,rfl,rfl⟩
  ·rw [q6];exact ⟨rfl,rfl,rfl⟩
  ·rw [q5 x]
   refine lowBad_of (λ y hy=>hlk y (List.mem_of_mem_take hy)) (λ _ _=>?_)
   obtain ⟨y0,hy0⟩:∃ y0,n.keys[0]?=some y0:=⟨_,List.getElem?_eq_getElem (by omega)⟩
   have c1:=hlk y0 (List.mem_of_getElem? hy0)
   have c2:=cmp_le_lt c1 (rise_first h.rise q1 hy0 q3)
   have c3:=cmp_swap_ lw kk
   show 0 < cmp kk lw
   omega
  ·rw [q6,q4]
   exact lowBad_of (λ y hy=>drop_ge h.rise q3 y hy) (λ _ hh=>cmp_high hkey.2 hh)
  ·rw [q5 x,q6]
   unfold nodeKids
   simp only [g3]
   exact ⟨rfl,rfl⟩
  ·rw [q5 x,q6] at hy
   exact hy.elim id id
 ·obtain ⟨q,kk,q1,q2,q3,q4,q5,q6⟩:=spl_inner h ho h2 hl
  obtain ⟨g1,g2,g3,g4,g5⟩:=h.inner hl
  have hkm:=List.mem_of_getElem? q3
  have hkey:=h.key kk hkm
  have hmL:May (spL n x) a0 a1 a2:=by
   rw [q5 a0] at m1
   rw [q5 x]
   exact m1.right_ (x:=x) hx (by show a0≠0;omega)
  refine ⟨hmL,m2,?_,?_,by rw [q4];exact hkey.1,?_,?_,?_,λ d hd=>?_,λ y hy=>?_,by rw [q4];exact ⟨hlk kk hkm,hkey.2⟩⟩
  ·rw [q5 x,q4];exact ⟨rfl,rfl,rfl⟩
  ·rw [q6];exact ⟨rfl,rfl,rfl⟩
  ·rw [q5 x]
   refine lowBad_of (λ y hy=>hlk y (List.mem_of_mem_take hy)) (λ _ _=>?_)
   obtain ⟨y0,hy0⟩:∃ y0,n.keys[0]?=some y0:=⟨_,List.getElem?_eq_getElem (by omega)⟩
   have c1:=hlk y0 (List.mem_of_getElem? hy0)
   have c2:=cmp_le_lt c1 (rise_first h.rise (by omega) hy0 q3)
   have c3:=cmp_swap_ lw kk
   show 0 < cmp kk lw
   omega
  ·rw [q6,q4]
   refine lowBad_of (λ y hy=>?_) (λ _ hh=>cmp_high hkey.2 hh)
   have hy':y ∈ n.keys.drop (q-1):=by
    have:n.keys.drop q=(n.keys.drop (q-1)).drop 1:=by rw [List.drop_drop];congr 1;omega
    have hy2:y ∈ n.keys.drop q:=hy
    rw [this] at hy2
    exact List.mem_of_mem_drop hy2
   exact drop_ge h.rise q3 y hy'
  ·rw [q5 x]
   show (n.kids.take q).getD 0 0=_
   rw [List.getD_eq_getElem?_getD,List.getD_eq_getElem?_getD,List.getElem?_take,if_pos (by omega)]
  ·rw [q5 x,q6,q4]
   unfold nodeKids at hd ⊢
   rw [List.all_eq_true] at hd
   refine ⟨List.all_eq_true.2 (λ i hi=>?_),List.all_eq_true.2 (λ i hi=>?_)⟩
   ·have hi':i < q:=by have:=List.mem_range.1 hi;simp [List.length_take] at this;omega
    have hh:=hd i (List.mem_range.2 (by omega))
    have e1:(n.kids.take q).getD i 0=n.kids.getD i 0:=by rw [List.getD_eq_getElem?_getD,List.getD_eq_getElem?_getD,List.getElem?_take,if_pos hi']
    have e2:wantLow lw {n with high:=kk,right:=x,keys:=n.keys.take (q-1),kids:=n.kids.take q} i=wantLow lw n i:=by
     unfold wantLow
     by_cases c0:i=0
     ·rw [if_pos c0,if_pos c0]
     ·rw [if_neg c0,if_neg c0]
      show (n.keys.take (q-1)).getD (i-1) []=_
      rw [List.getD_eq_getElem?_getD,List.getD_eq_getElem?_getD,List.getElem?_take,if_pos (by omega)]
    show kidOk d ((n.kids.take q).getD i 0) _=true
    rw [e1,e2];exact hh
   ·have hi':q+i < n.kids.length:=by have:=List.mem_range.1 hi;simp [List.length_drop] at this;omega
    have hh:=hd (q+i) (List.mem_range.2 hi')
    have e1:(n.kids.drop q).getD i 0=n.kids.getD (q+i) 0:=by rw [List.getD_eq_getElem?_getD,List.getD_eq_getElem?_getD,List.getElem?_drop]
    have e2:wantLow kk {n with keys:=n.keys.drop q,kids:=n.kids.drop q} i=wantLow lw n (q+i):=by
     unfold wantLow
     rw [if_neg (show ¬q+i=0 by omega)]
     by_cases c0:i=0
     ·rw [if_pos c0,c0,Nat.add_zero,List.getD_eq_getElem?_getD,q3];rfl
     ·rw [if_neg c0]
      show (n.keys.drop q).getD (i-1) []=_
      rw [List.getD_eq_getElem?_getD,List.getD_eq_getElem?_getD,List.getElem?_drop,show q+(i-1)=q+i-1 by omega]
    show kidOk d ((n.kids.drop q).getD i 0) _=true
    rw [e1,e2];exact hh
  ·rw [q5 x,q6] at hy
   exact hy.elim (λ h=>List.mem_of_mem_take h) (λ h=>List.mem_of_mem_drop h)
theorem halves_tell (h:May n a0 (a1+1) (a2+1)) (ho:over n a1 a2=true) (h1:2<=a1) (hl:n.lvl=0):(cmp k (spK n) < 0->(ents (spL n x)).find? (λ e=>e.1==k)=(ents n).find? (λ e=>e.1==k))/\(cmp (spK n) k<=0->(ents (spR n)).find? (λ e=>e.1==k)=(ents n).find? (λ e=>e.1==k)):=by
 obtain ⟨q,kk,q1,q2,q3,q4,q5,q6⟩:=spl_leaf h ho h1 hl
 obtain ⟨g1,_⟩:=h.leaf hl
 have eL:ents (spL n x)=(n.keys.take q).zip (n.vals.take q):=by rw [q5 x,ents_zip (by simp [List.length_take];omega)]
 have eR:ents (spR n)=(n.keys.drop q).zip (n.vals.drop q):=by rw [q6,ents_zip (by simp [List.length_drop];omega)]
 have eN:ents n=(n.keys.take q).zip (n.vals.take q)++(n.keys.drop q).zip (n.vals.drop q):=by
  rw [ents_zip (by omega),<-List.zip_append (by simp [List.length_take];omega),List.take_append_drop,List.take_append_drop]
 rw [eL,eR,eN,q4,List.find?_append]
 refine ⟨λ hk=>?_,λ hk=>?_⟩
 ·have:((n.keys.drop q).zip (n.vals.drop q)).find? (λ e=>e.1==k)=none:=find_none (λ e he hek=>by
   have:=drop_ge h.rise q3 _ (List.of_mem_zip he).1
   rw [hek] at this
   have h3:=cmp_swap_ k kk
   omega)
  rw [this];simp
 ·have:((n.keys.take q).zip (n.vals.take q)).find? (λ e=>e.1==k)=none:=find_none (λ e he hek=>by
   have:=take_lt h.rise q3 _ (List.of_mem_zip he).1
   rw [hek] at this
   have h3:=cmp_swap_ k kk
   omega)
  rw [this];simp
end
section
variable {a0 a1 a2 a3 a4:Int} {A A' V V':Ar} {ps:List Pm} {m m':Pm} {lv:Int} {ls:List Ch} {es es':List Ent} {i j:Nat} {id kid:Int} {n:Nd} {s t:Sl} {d c:Ch} {lw key:List UInt8}
theorem Tv.kidsIn {chk:Nd->Int} (h:Tv V chk a0 a1 a2 lv ls) {e:Int × List UInt8} (he:e ∈ ls.flatten):∀ y ∈ (opNd V e.1).kids,y ∈ ids ls:=λ y hy=>by
 obtain ⟨c,hc,hec⟩:=List.mem_flatten.1 he
 obtain ⟨j,hj⟩:=mem_at hc
 obtain ⟨s,k1,k2,k3,k4,_⟩:=h.at_ hj (show (e.1,e.2) ∈ c from hec)
 rw [k2] at hy
 by_cases hl:s.nd.lvl=0
 ·rw [(k4.leaf hl).2.2.1] at hy;cases hy
 ·have hlen:=h.ti.len
  have h0:=k4.lvl.1
  obtain ⟨d,hd⟩:∃ d,ls[j+1]?=some d:=⟨_,List.getElem?_eq_getElem (by omega)⟩
  have hk:=(h.ti.chn j c d hj hd).2 _ hec
  rw [k2] at hk
  obtain ⟨q,hq⟩:=mem_at hy
  unfold nodeKids at hk
  rw [List.all_eq_true] at hk
  have h1:=hk q (List.mem_range.2 (List.getElem?_eq_some_iff.1 hq).1)
  rw [List.getD_eq_getElem?_getD,hq] at h1
  exact mem_ids.2 ⟨j+1,d,_,hd,kidOk_mem h1⟩
theorem DInv.step13 (h:DInv a0 a1 a2 a3 a4 A V ps lv ls es) (hm:ps[i]?=some m) (hx:m.nx=13) (hk:Kept a1 a2 A ps i m) (hb:∀ s ∈ A.sl,s.word+2 < 18446744073709551616) (h1:2<=a1) (h2:3<=a2):∃ V' ls' es',DInv a0 a1 a2 a3 a4 (stepP a1 a2 A m).2.1 V' (ps.set i (stepP a1 a2 A m).2.2) lv ls' es'/\(m.level=0->Put1 m.key m.val es es')/\(0 < m.level->es'=es)/\∀ x ∈ ids ls,x ∈ ids ls':=by
 have hk':PInv a1 a2 (stepP a1 a2 A m).2.1 (ps.set i (stepP a1 a2 A m).2.2):=hk
 have hmm:=List.mem_of_getElem? hm
 have hE:=h.each m hmm
 have hl:m.live:=⟨by omega,by omega⟩
 obtain ⟨s,hs,ho⟩:=h.inv.slot hm (holds_id (m:=m) (by omega) (by omega))
 obtain ⟨q,_,hq,_⟩:=get_some hs
 have hu:=unlock_odd hs ho (hb s (List.mem_of_getElem? hq)) true
 have hsn:s.nd=m.left:=by
  have h2:=(h.inv.each m hmm).2.2.2
  rw [hx] at h2
  have:=h2.2
  unfold opNd at this;rw [hs] at this;exact this
 obtain ⟨hnw,_,_,hov⟩:=hE.nw (by omega)
 have hov:=hov (by omega) (by omega)
 obtain ⟨eL,eR,eK⟩:=hE.halves (by omega) (by omega)
 have hbey:=(hE.at_ (by omega) (by omega)).2
 obtain ⟨f1,f2,f3⟩:=hE.own m.fresh (by rw [own_fresh (by omega) (by omega)];exact List.mem_singleton.2 rfl)
 have hfr:=hE.freshNd (by omega) (by omega)
 obtain ⟨j,c,lw,hg⟩:=h.grip hmm (by omega) (by omega)
 obtain ⟨w1,w2,w3,w4,w5,w6,w7,w8⟩:=h.newMay hmm (by omega) (by omega) hbey hg
 rw [<-hnw] at w1 w2 w3 w4 w5 w6 w7 w8
 have hroom:=h.room
 have hvl:=h.vof.len
 have H:=halves_ok w1 hov h1 h2 (x:=m.fresh) ⟨f2,by omega⟩ w5
 obtain ⟨H1,H2,H3,H4,H5,H6,H7,H8,H9,H10,_⟩:=H
 rw [<-eL] at H1 H3 H6 H8
 rw [<-eR] at H2 H4 H7
 rw [<-eK] at H3 H5 H7
 simp only [<-eL,<-eR,<-eK] at H9 H10
 obtain ⟨t,ht,hto⟩:=hg.get
 obtain ⟨t2,ht2⟩:=get_in f2 f3
 have ht2n:t2.nd=m.right:=by rw [<-hfr];unfold opNd;rw [ht2]
 have hpos:1<=m.id:=(get_le hs).1
 have hidin:m.id ∈ ids ls:=mem_ids.2 ⟨j,c,lw,hg.at_,hg.mem⟩
 have hfid:m.fresh≠m.id:=λ e=>f1 (e▸hidin)
 have hxx:opNd (V.put m.id ⟨0,m.left⟩) m.id=m.left:=opNd_put ht
 have hne:∀ y,y≠m.id->opNd (V.put m.id ⟨0,m.left⟩) y=opNd V y:=λ y hy=>opNd_put_ne hpos hy
 have hff:opNd (V.put m.id ⟨0,m.left⟩) m.fresh=m.right:=by rw [hne _ hfid];exact hfr
 have hkd:∀ d,ls[j+1]?=some d->nodeKids d lw m.old=true:=λ d hd=>by
  have:=(h.tree.ti.chn j c d hg.at_ hd).2 _ hg.mem
  rw [hg.nd] at this;exact this
 have hperm:(ls.set j (insA m.id (m.fresh,m.btw) c)).flatten.Perm ((m.fresh,m.btw)::ls.flatten):=set_flatten hg.at_ (insA_perm hg.mem)
 have hin':∀ e,e ∈ (ls.set j (insA m.id (m.fresh,m.btw) c)).flatten ↔ e=(m.fresh,m.btw)\/e ∈ ls.flatten:=λ e=>by rw [hperm.mem_iff];exact List.mem_cons
 have hat':∀ {q:Nat} {c':Ch},(ls.set j (insA m.id (m.fresh,m.btw) c))[q]?=some c'->(q=j/\c'=insA m.id (m.fresh,m.btw) c)\/(q≠j/\ls[q]?=some c'):=λ {q c'} hc=>by
  by_cases e:q=j
  ·rw [e,List.getElem?_set_self (List.getElem?_eq_some_iff.1 hg.at_).1] at hc
   exact .inl ⟨e,(Option.some.inj hc).symm⟩
  ·rw [List.getElem?_set_ne (Ne.symm e)] at hc
   exact .inr ⟨e,hc⟩
 have hmaked:ls[j]?=some c:=hg.at_
 have hset:(ls.set j (insA m.id (m.fresh,m.btw) c))[j]?=some (insA m.id (m.fresh,m.btw) c):=List.getElem?_set_self (List.getElem?_eq_some_iff.1 hg.at_).1
 have hT:Tv (V.put m.id ⟨0,m.left⟩) (chkM a0 a1 a2 a3 a4) a0 a1 a2 lv (ls.set j (insA m.id (m.fresh,m.btw) c)):=by
  refine ⟨?_,h.tree.lv0,λ s hs=>?_,⟨?_,λ x hx=>?_⟩,h.tree.may,λ q c' hq hc'=>?_⟩
  ·refine h.tree.ti.split (A':=V.put m.id ⟨0,m.left⟩) (s1:=⟨0,m.left⟩) (s2:=t2) h.tree.met.1 hg.at_ hg.mem ht (λ e _ hne'=>by rw [put_get_ne hne' hpos]) ⟨put_get' ht _,?_,H3.2.1,by omega,H3.2.2,(h.tree.may _).2 H1,H6⟩ ⟨by rw [put_get_ne hfid hpos];exact ht2,?_,?_,?_,by rw [ht2n];exact (h.tree.may _).2 H2,by rw [ht2n];exact H7⟩ ?_ (λ d hd=>by rw [ht2n];exact H9 d (w7 d hd (hkd d hd)))
   ·rw [hto];exact H3.1.trans w2
   ·rw [ht2n,hto];exact H4.1.trans w2
   ·rw [ht2n,hto];exact H4.2.1.trans w3
   ·rw [ht2n,hto];exact H4.2.2.trans w4
   ·rw [hto];exact H8.trans w6
  ·rcases List.mem_or_eq_of_mem_set hs with h1|h1
   ·exact h.tree.even s h1
   ·rw [h1];rfl
  ·rw [(hperm.map Prod.fst).nodup_iff]
   exact List.nodup_cons.2 ⟨f1,h.tree.met.1⟩
  ·rw [put_len]
   rcases List.mem_cons.1 ((hperm.map Prod.fst).mem_iff.1 hx) with e|hx
   ·rw [e];exact ⟨f2,f3⟩
   ·exact h.tree.met.2 x hx
  ·rcases hat' hc' with ⟨e1,e2⟩|⟨_,hc'⟩
   ·have:=h.tree.two j c (by omega) hg.at_
    rw [e2,(insA_perm hg.mem).length_eq,List.length_cons];omega
   ·exact h.tree.two q c' hq hc'
 have hnwk:∀ y,y ∈ m.left.kids\/y ∈ m.right.kids->y ∈ m.old.kids\/(0 < m.level/\y=m.half):=λ y hy=>w8 y (H10 y hy)
 have hidfl:(m.id,lw) ∈ ls.flatten:=List.mem_flatten.2 ⟨c,List.mem_of_getElem? hg.at_,hg.mem⟩
 have hkcase:∀ e ∈ (ls.set j (insA m.id (m.fresh,m.btw) c)).flatten,∀ y ∈ (opNd (V.put m.id ⟨0,m.left⟩) e.1).kids,(∃ e' ∈ ls.flatten,y ∈ (opNd V e'.1).kids)\/(0 < m.level/\y=m.half):=λ e he y hy=>by
  have hold:y ∈ m.old.kids->∃ e' ∈ ls.flatten,y ∈ (opNd V e'.1).kids:=λ ho=>⟨_,hidfl,by rw [hg.nd];exact ho⟩
  by_cases e1:e.1=m.id
  ·rw [e1,hxx] at hy
   exact (hnwk y (.inl hy)).imp hold id
  ·rcases (hin' e).1 he with e2|he
   ·rw [e2] at hy
    rw [show opNd (V.put m.id ⟨0,m.left⟩) (m.fresh,m.btw).1=m.right from hff] at hy
    exact (hnwk y (.inr hy)).imp hold id
   ·rw [hne e.1 e1] at hy
    exact .inl ⟨e,he,hy⟩
 have hg0:∀ ix,m.grips ix ↔ ix=m.id:=λ ix=>grips_id (by omega) (by omega)
 obtain ⟨c0,hc0⟩:=hT.leaf
 rw [stepP_13 hx (by rw [hu])] at hk' ⊢
 rw [hu] at hk' ⊢
 refine ⟨V.put m.id ⟨0,m.left⟩,ls.set j (insA m.id (m.fresh,m.btw) c),entsCh (V.put m.id ⟨0,m.left⟩) c0,?_,λ h0=>?_,λ h0=>?_,λ x hx=>(hperm.map Prod.fst).mem_iff.2 (List.mem_cons_of_mem _ hx)⟩
 ·refine h.turn hm hk' (h.vof.turn hm h.vof.root (by show (V.put _ _).sl.length=(A.put _ _).sl.length;rw [put_len,put_len];exact h.vof.len) (λ ix hq=>absurd hq (nogrip_of (.inl (by show 1<=2;decide)) ix)) (λ q x ix hqi hqx hgr=>hne ix (λ e=>h.inv.mygrip hm (by omega) (by omega) q x hqi hqx (e▸hgr))) (λ ix _ hq'=>?_)) hT ?_ (λ q c' hc'=>?_) (λ x hx'=>?_) (Nat.le_of_eq (put_len _).symm) (λ q x hqi hqx y hy=>hne y (λ e=>((h.each x (List.mem_of_getElem? hqx)).own y hy).1 (e▸hidin))) (λ q x hqi hqx l1 l2 e he hin=>?_) (noown (.inl (by show 1<=7;decide))) (λ _ _=>.inr f1) ⟨h.room.1,by show (A.put _ _).sl.length<=_;rw [put_len];exact h.room.2⟩ (λ c hc=>by rw [hc0] at hc;cases hc;rfl)
  ·by_cases e:ix=m.id
   ·rw [e,hxx,show opNd (A.put m.id ⟨if true=true then s.word+1 else s.word-1,s.nd⟩) m.id=s.nd from opNd_put hs];exact hsn.symm
   ·rw [hne ix e,show opNd (A.put m.id ⟨if true=true then s.word+1 else s.word-1,s.nd⟩) ix=opNd A ix from opNd_put_ne hpos e]
    refine h.vof.free ix (λ y hy=>?_)
    obtain ⟨r,hr⟩:=mem_at hy
    by_cases e2:r=i
    ·subst e2;rw [hm] at hr;cases hr;exact λ hc=>e ((hg0 ix).1 hc)
    ·exact hq' r y e2 hr
  ·obtain ⟨k1,k2,k3,k4⟩:=hE.key hl
   refine ⟨λ _=>⟨k1,k2,by show 0<=m.level+1;omega,λ e=>by have e2:m.level+1=0:=e;omega⟩,λ _ _=>⟨?_,⟨j,_,hset,?_,insA_in hg.mem,lw,mem_insA hg.mem⟩,λ e he hin=>?_⟩,λ _=>⟨_,rfl,DesOk.new _ (by show 0<=m.level+1;omega),rfl,rfl⟩,λ h1=>by have h2:2<=1:=h1;omega,λ h1=>by have h2:(1:Nat)=3\/(1:Nat)=4\/(6<=1/\1<=13):=h1;omega,λ h1=>by have h2:8<=1:=h1;omega,noown (.inl (by show 1<=7;decide)),λ h1=>by have h2:11<=1:=h1;omega,λ h1=>by have h2:(1:Nat)=19:=h1;omega⟩
   ·exact H5
   ·show m.level+1-1=lv-j
    have:=hg.lvl;omega
   ·rcases hkcase e he _ hin with ⟨e',he',hy⟩|⟨h0,hy⟩
    ·exact f1 (h.tree.kidsIn he' _ hy)
    ·exact f1 (by rw [show m.fresh=m.half from hy];exact (hE.pend hl h0).ids.1)
  ·by_cases e:q=j
   ·rw [e,hg.at_] at hc';cases hc'
    exact ⟨j,_,hset,by rw [e],λ e he=>mem_insA he⟩
   ·exact ⟨q,c',by rw [List.getElem?_set_ne (Ne.symm e)];exact hc',rfl,λ _ h=>h⟩
  ·rcases List.mem_cons.1 ((hperm.map Prod.fst).mem_iff.1 hx') with e|hx'
   ·exact .inr (by rw [own_fresh (by omega) (by omega),e];exact List.mem_singleton.2 rfl)
   ·exact .inl hx'
  ·have hpx:=(h.each x (List.mem_of_getElem? hqx)).pend l1 l2
   rcases hkcase e he _ hin with ⟨e',he',hy⟩|⟨h3,hy⟩
   ·exact hpx.kid e' he' hy
   ·exact (h.apart i q m x (Ne.symm hqi) hm hqx).2 hl h3 l1 l2 hy.symm
 ·have hj0:j=lv.toNat:=by have:=hg.lvl;omega
  have hcc:c0=insA m.id (m.fresh,m.btw) c:=by rw [<-hj0,hset] at hc0;exact (Option.some.inj hc0).symm
  rw [hcc,<-h.ents c (by rw [<-hj0];exact hg.at_)]
  have hs0:=(hE.key hl).2.2.2 h0
  have hnew:m.nw=wth m.old m.key m.val:=by rw [hnw];unfold newP;rw [if_pos h0]
  have hol:m.old.lvl=0:=by rw [hg.olvl];exact h0
  have hput:=wth_put (key:=m.key) (val:=m.val) hg.may hol
  have hnl:m.nw.lvl=0:=w2.trans hol
  have hmine:∀ k,cmp lw k<=0->beyond m.old.high k=false->(entsCh (V.put m.id ⟨0,m.left⟩) (insA m.id (m.fresh,m.btw) c)).find? (λ e=>e.1==k)=(Proofs.Ytjcgphhpaenjkaa.ents m.nw).find? (λ e=>e.1==k):=λ k g1 g2=>by
   obtain ⟨q1,q2⟩:=halves_tell (x:=m.fresh) (k:=k) w1 hov h1 hnl
   rw [<-eL,<-eK] at q1
   rw [<-eR,<-eK] at q2
   by_cases hlt:cmp k m.btw < 0
   ·rw [hT.find (key:=k) hset (mem_insA hg.mem) g1 (by rw [hxx,H3.2.2];exact notBeyond hlt),hxx]
    exact q1 hlt
   ·have hge:cmp m.btw k<=0:=by have:=cmp_swap_ k m.btw;omega
    rw [hT.find (key:=k) hset (insA_in hg.mem) hge (by rw [hff,H4.2.2,w4];exact g2),hff]
    exact q2 hge
  intro k
  by_cases hkk:k=m.key
  ·rw [if_pos hkk,hmine k (by rw [hkk,<-hs0];exact hg.low) (by rw [hkk,<-hs0];exact hbey),hnew,hput k,if_pos hkk]
  ·rw [if_neg hkk]
   obtain ⟨e,he,g1,g2⟩:=h.tree.cover hg.at_ k
   rw [h.tree.find (key:=k) hg.at_ (show (e.1,e.2) ∈ c from he) g1 g2]
   by_cases e1:e.1=m.id
   ·have e2:e.2=lw:=(nodup_in (ix:=m.id) (lw:=lw) (lw':=e.2) h.tree.met.1 hg.at_ hg.mem hg.at_ (by rw [<-e1];exact he)).2
    rw [e1,hg.nd] at g2
    rw [hmine k (by rw [<-e2];exact g1) g2,e1,hg.nd,hnew,hput k,if_neg hkk]
   ·rw [hT.find (key:=k) hset (show (e.1,e.2) ∈ _ from mem_insA he) g1 (by rw [hne e.1 e1];exact g2),hne e.1 e1]
 ·have hjn:lv.toNat≠j:=by have:=hg.lvl;have:=h.tree.lv0;omega
  rw [List.getElem?_set_ne (Ne.symm hjn)] at hc0
  rw [<-h.ents c0 hc0]
  refine entsCh_same (λ e he=>hne e.1 (λ e1=>?_))
  exact hjn (nodup_in (ix:=m.id) (lw:=lw) (lw':=e.2) h.tree.met.1 hg.at_ hg.mem hc0 (by rw [<-e1];exact he)).1
end
end Go.Proofs.Ytjcgphhpaenjkaa

import Derived.Test.YtjcgphhpaenjkaaPkA2
import Derived.Deep.OwnRows
set_option maxHeartbeats 64000000
set_option maxRecDepth 100000
set_option linter.unusedVariables false
namespace Go.Proofs.Ytjcgphhpaenjkaa
open Go.RowKit
section
variable {S:Nat->Prop} {w:World} {v:Value}
theorem bV_one (l:List UInt8):∀ u ∈ l.map bV,u.oneCell'=true:=λ u hu=>by
 obtain ⟨_,_,rfl⟩:=List.mem_map.1 hu;rfl
theorem iV_one (l:List Int):∀ u ∈ l.map iV,u.oneCell'=true:=λ u hu=>by
 obtain ⟨_,_,rfl⟩:=List.mem_map.1 hu;rfl
theorem Byts.g {l:List UInt8} (h:Byts w S v l):SlG w S 1 v l.length (l.map bV):=by have:=SlR.g h;rwa [List.length_map] at this
theorem Ints.g {l:List Int} (h:Ints w S v l):SlG w S 1 v l.length (l.map iV):=by have:=SlR.g h;rwa [List.length_map] at this
theorem Own.empty (w:World) (S:Nat->Prop) (e:TypeId) (size:Nat) (hs:S w.heap.size):Own (w.alloc (.cells #[] e)) S e size (.slice (some ⟨w.heap.size,0,none⟩) 0 0) 0 []:=
 Own.made (xs:=[]) w #[] 0 0 hs (Nat.le_refl _) (by decide) (by simp) (by simp)
theorem cloneB {l:List UInt8} (h:Byts w S v l) (hb:Sm 0 1 l.length):Calls Try.prog 18 #[v] w λ e w'=>∃ v',e=.returned v'/\OBy w' (Fresh w w') v' l/\Keeps Nob w w':=by
 obtain ⟨A,c,rfl,h1,h2⟩:=h.form
 have H:=Hd h
 have HB:Hid (Sm 0 1 l.length):=hb
 have HC:Hid (l.length<=maxLen):=Nat.le_trans h1 h2
 clear h h1 h2 hb
 have he:=λ w=>Lib.run_eql_slice_nil (P:=Try.prog) w 34 5 A l.length c 0 0 Try.underlying34
 obtain ⟨i0,hi,hz0,hz1,hz2⟩:=info_parts Try.inf_u8
 cases A with
 | none=>
  have hl:l=[]:=by
   cases l with
   | nil=>rfl
   | cons x l=>obtain ⟨ad,e,_⟩:=H.out.cells (i:=0) (by simp);cases e
  subst hl
  simp only [List.length_nil] at he ⊢
  go_enter Try.func18,Try.ntmps18
  go_wp2
  go_ret
  exact ⟨_,rfl,OBy.nil _ _,Keeps.refl _ _⟩
 | some ad=>
  go_enter Try.func18,Try.ntmps18
  go_wp2_with (at_builtin;refine wpList_app rfl (.tmp 5) (.tmp 6) 34 rfl Try.underlying34 hi hz0 hz1 hz2 rfl (by decide) (v:=.slice (some ⟨w.heap.size,0,none⟩) 0 0) (n:=0) (m:=l.length) (S:=From w.heap.size) (T:=S) (xs:=[]) (news:=l.map bV) rfl ?c1 (y:=.slice (some ad) l.length c) rfl ?c2 ?c3 ?c4 ?c5 ?c6)
  case c1=>exact Own.empty w _ _ _ (Nat.le_refl _)
  case c2=>exact H.out.g.keeps (Keeps.alloc Nob _ _) (λ _ _ _=>id)
  case c3=>exact bV_one l
  case c4=>have:=HC.out;omega
  case c5=>have:=HB.out;unfold Sm at this;omega
  case c6=>
   intro v' w1 ho hk _
   try simp only [Nat.zero_add,List.nil_append] at ho
   go_wp2
   go_ret
   refine ⟨_,rfl,ho.mono (λ b _ hb=>?_),(Keeps.alloc Nob w _).trans hk (λ b hb e=>?_)⟩
   ·rcases hb with hb|hb
    ·simp [Value.ownBlock] at hb;subst hb;exact ⟨Nat.le_refl _,by have:=hk.size;simp at this;omega⟩
    ·have:=hb.1;exact ⟨by omega,hb.2⟩
   ·simp [Value.ownBlock] at e;omega
theorem cloneI {l:List Int} (h:Ints w S v l) (hb:Sm 0 8 l.length):Calls Try.prog 59 #[v] w λ e w'=>∃ v',e=.returned v'/\OIn w' (Fresh w w') v' l/\Keeps Nob w w':=by
 obtain ⟨A,c,rfl,h1,h2⟩:=h.form
 have H:=Hd h
 have HB:Hid (Sm 0 8 l.length):=hb
 have HC:Hid (l.length<=maxLen):=Nat.le_trans h1 h2
 clear h h1 h2 hb
 have he:=λ w=>Lib.run_eql_slice_nil (P:=Try.prog) w 39 3 A l.length c 0 0 Try.underlying39
 obtain ⟨i0,hi,hz0,hz1,hz2⟩:=info_parts Try.inf_int
 cases A with
 | none=>
  have hl:l=[]:=by
   cases l with
   | nil=>rfl
   | cons x l=>obtain ⟨ad,e,_⟩:=H.out.cells (i:=0) (by simp);cases e
  subst hl
  simp only [List.length_nil] at he ⊢
  go_enter Try.func59,Try.ntmps59
  go_wp2
  go_ret
  exact ⟨_,rfl,OIn.nil _ _,Keeps.refl _ _⟩
 | some ad=>
  go_enter Try.func59,Try.ntmps59
  go_wp2_with (at_builtin;refine wpList_app rfl (.tmp 5) (.tmp 6) 39 rfl Try.underlying39 hi hz0 hz1 hz2 rfl (by decide) (v:=.slice (some ⟨w.heap.size,0,none⟩) 0 0) (n:=0) (m:=l.length) (S:=From w.heap.size) (T:=S) (xs:=[]) (news:=l.map iV) rfl ?c1 (y:=.slice (some ad) l.length c) rfl ?c2 ?c3 ?c4 ?c5 ?c6)
  case c1=>exact Own.empty w _ _ _ (Nat.le_refl _)
  case c2=>exact H.out.g.keeps (Keeps.alloc Nob _ _) (λ _ _ _=>id)
  case c3=>exact iV_one l
  case c4=>have:=HC.out;omega
  case c5=>have:=HB.out;unfold Sm at this;omega
  case c6=>
   intro v' w1 ho hk _
   try simp only [Nat.zero_add,List.nil_append] at ho
   go_wp2
   go_ret
   refine ⟨_,rfl,ho.mono (λ b _ hb=>?_),(Keeps.alloc Nob w _).trans hk (λ b hb e=>?_)⟩
   ·rcases hb with hb|hb
    ·simp [Value.ownBlock] at hb;subst hb;exact ⟨Nat.le_refl _,by have:=hk.size;simp at this;omega⟩
    ·have:=hb.1;exact ⟨by omega,hb.2⟩
   ·simp [Value.ownBlock] at e;omega
theorem madeCells_rep (z:Value) (n:Nat):madeCells #[z] n=(List.replicate n z).toArray:=by
 apply Array.ext'
 rw [toList_madeCells_one]
theorem fill_set (vs:List Value) (z u:Value) (n k:Nat) (hv:vs.length=k) (hk:k < n) :
  (vs++List.replicate (n-k) z).toArray.setIfInBounds k u=((vs++[u])++List.replicate (n-(k+1)) z).toArray:=by
 apply Array.ext'
 rw [Array.toList_setIfInBounds]
 subst hv
 rw [List.set_append_right _ _ (Nat.le_refl _),Nat.sub_self]
 obtain ⟨m,hm⟩:∃ m,n-vs.length=m+1:=⟨n-vs.length-1,by omega⟩
 rw [hm,show n-(vs.length+1)=m by omega,List.replicate_succ,sb_,List.append_assoc]
 rfl
theorem textsP {ls:List (List UInt8)} (h:Txts w S v ls) (hb:TxSm 0 ls):Calls Try.prog 58 #[v] w λ e w'=>∃ v',e=.returned v'/\OTx w' (Fresh w w') v' ls/\Keeps Nob w w':=by
 obtain ⟨A,c,rfl,h1,h2⟩:=h.form
 have H:=Hd h
 have HB:Hid (TxSm 0 ls):=hb
 have hsz:ls.length<=9223372036854775807:=Nat.le_trans h1 h2
 have hmk:=run_make_row' (P:=Try.prog) 47 34 (.slice none 0 0) 24 Try.underlying47 Try.inf_text rfl .i64 .i64 ls.length (by have:=hb.1;unfold Sm at this;omega) hsz
 clear h h1 h2 hb
 go_enter Try.func58,Try.ntmps58
 go_wp2
 clear hmk
 go_loopw [10] (λ i wr=>∃ (k:Nat) (vs:List Value),k<=ls.length/\i=.int .i64 k/\Blk wr w.heap.size 34 (vs++List.replicate (ls.length-k) (Value.slice none 0 0)).toArray/\vs.length=k/\
   (∀ (i:Nat) u x,vs[i]?=some u->ls[i]?=some x->OBy wr (Fresh w wr) u x)/\Keeps Nob w wr) (λ i _=>ls.length-(intOf i).toNat)
 case atStart=>
  refine ⟨0,[],Nat.zero_le _,rfl,?_,rfl,λ i u x h=>by simp at h,Keeps.alloc _ _ _⟩
  rw [madeCells_rep]
  exact Blk.new w _ _
 case round=>
  obtain ⟨k,vs,hk,rfl,hB,hvl,hvs,hK⟩:=hrel
  have HBK:=Hd hB
  have HVL:=Hd hvl
  have HVS:=Hd hvs
  have HKR:=Hd hK
  clear hB hvl hvs hK
  by_cases hlt:k < ls.length
  ·obtain ⟨x,hx⟩:∃ x,ls[k]?=some x:=⟨_,List.getElem?_eq_getElem hlt⟩
   obtain ⟨ad,rfl,_,hc⟩:=H.out.cells hlt
   obtain ⟨u,hu,hbu⟩:=hc k x hx
   have hu':wr.cell? (ad.add k)=some u:=HKR.out.cell hu id
   have HX:=Hd hx
   have HCL:=Hd (cloneB (hbu.keeps HKR.out (λ _ _ _=>id)) (HB.out.2 x (List.mem_of_getElem? hx)))
   clear hc hu hbu hx
   go_wp2_with (go_at_call 18;refine HCL.out.mono ?_;rintro e w1 ⟨u',rfl,hO1,hK1⟩;have HO1:=Hd hO1;have HK1:=Hd hK1;obtain ⟨A1,c1,hf1⟩:=hO1.form;subst hf1;have hbk:=HBK.out.keeps hK1 id;have hfr:=hbk.frozen (0+k);have hcl:=hbk.cell (0+k);rw [Nat.zero_add] at hfr hcl;rw [List.getElem?_toArray,List.getElem?_append_right (by rw [HVL.out];exact Nat.le_refl _),HVL.out,Nat.sub_self,List.getElem?_replicate,if_pos (by omega)] at hcl;clear hO1 hK1 hbk)
   go_roundw
   case rel=>
    have hb1:=HBK.out.keeps HK1.out id
    have hb2:=hb1.set_ k (.slice A1 x.length c1)
    rw [fill_set vs _ _ _ k HVL.out hlt] at hb2
    refine ⟨k+1,vs++[.slice A1 x.length c1],by omega,by go_num,hb2,by simp [HVL.out],?_,?_⟩
    ·have hk2:Keeps (λ b=>b=w.heap.size) w1 (w1.setCell ⟨w.heap.size,k,none⟩ (.slice A1 x.length c1)):=Keeps.setCell w1 (M:=λ b=>b=w.heap.size) rfl _
     have hs1:=HK1.out.size
     have hs0:=HKR.out.size
     have hs2:=hk2.size
     intro i a y ha hy
     rw [List.getElem?_append] at ha
     split at ha
     ·refine Own.keepsB (((HVS.out i a y ha hy).keeps HK1.out (λ _ _ _=>id)).mono (λ b _ hb=>⟨hb.1,by have:=hb.2;omega⟩)) hb1 (by decide) hk2
     ·rename_i hge
      have e:i-vs.length=0:=by
       rcases hh:i-vs.length with _|m
       ·rfl
       ·rw [hh] at ha;simp at ha
      rw [e] at ha
      simp at ha
      subst ha
      have hik:i=k:=by rw [HVL.out] at e hge;omega
      subst hik
      have:=HX.out.symm.trans hy
      injection this with this
      subst this
      exact Own.keepsB (HO1.out.mono (λ b _ hb=>⟨by have:=hb.1;omega,by have:=hb.2;omega⟩)) hb1 (by decide) hk2
    ·exact (HKR.out.trans HK1.out (λ _ _=>id)).setCell' (λ h=>absurd h (by simp)) _
   case measure=>simp [intOf];omega
  ·have hkk:k=ls.length:=by omega
   subst hkk
   go_wp2
   go_ret
   have hb:=HBK.out
   rw [Nat.sub_self,List.replicate_zero,List.append_nil] at hb
   exact ⟨_,rfl,⟨vs,⟨by rw [HVL.out];omega,_,_,rfl,Nat.le_refl _,hsz,.inr ⟨_,0,_,rfl,⟨Nat.le_refl _,hb.lt⟩,hb,by rw [List.size_toArray,HVL.out];omega,λ i x hx=>by rw [Nat.zero_add,List.getElem?_toArray];exact hx⟩⟩,HVL.out,HVS.out⟩,HKR.out⟩
end
end Go.Proofs.Ytjcgphhpaenjkaa
namespace Go.Proofs.Ytjcgphhpaenjkaa
open Go.RowKit
def Prt (a b:Value):Prop:=∀ k,a.ownBlock=some k->b.ownBlock=some k->False
theorem OTx.blk {w:World} {S:Nat->Prop} {v:Value} {l} (h:OTx w S v l) {b:Nat} (hb:v.ownBlock=some b):S b/\b < w.heap.size:=by
 obtain ⟨vs,h1,_⟩:=h;exact h1.blk hb
section
variable {S:Nat->Prop} {w:World} {c0 c1 c2 c3 c4 c5:Value} {n:Nd}
theorem cloneP (h:IsNd w S c0 c1 c2 c3 c4 c5 n) (hs:NdSm 0 n):Calls Try.prog 34 #[.agg #[c0,c1,c2,c3,c4,c5]] w λ e w'=>∃ d0 d1 d2 d3 d4 d5,e=.returned (.agg #[d0,d1,d2,d3,d4,d5])/\ONd w' (Fresh w w') d0 d1 d2 d3 d4 d5 n/\Keeps Nob w w'/\Prt d3 d4:=by
 obtain ⟨A1,k1,e1,_,_⟩:=h.1.high.form
 obtain ⟨A3,k3,e3,_,_⟩:=h.2.keys.form
 obtain ⟨A4,k4,e4,_,_⟩:=h.2.vals.form
 obtain ⟨A5,k5,e5,_,_⟩:=h.2.kids.form
 have e0:=h.1.lvl
 have e2:=h.1.right
 subst e0 e1 e2 e3 e4 e5
 have H:=Hd h
 have HS:Hid (NdSm 0 n):=hs
 clear h hs
 unfold iV
 go_enter Try.func34,Try.ntmps34
 go_wp2
 refine code_at (λ wa hwa=>?_)
 have bn:Blk wa w.heap.size 75 #[.int .i64 n.lvl,.slice A1 n.high.length k1,.int .i64 n.right,.slice A3 n.keys.length k3,.slice A4 n.vals.length k4,.slice A5 n.kids.length k5]:=by rw [hwa];exact (Blk.new _ _ _).alloc _
 have br:Blk wa (w.heap.size+1) 75 #[.int .i64 0,.slice none 0 0,.int .i64 0,.slice none 0 0,.slice none 0 0,.slice none 0 0]:=by rw [hwa];exact Blk.new' (by simp) _ _
 have hka:Keeps Nob w wa:=by rw [hwa];exact (Keeps.alloc _ w _).alloc' _
 have hna:=H.out.keeps hka (λ _ _ _=>id)
 have BN:=Hd bn
 have BR:=Hd br
 have HKA:=Hd hka
 have HNA:=Hd hna
 clear bn br hka hna hwa H
 refine rC_ [0,1,2,4,5,6,8,9,10,12,13,14,3,16,17,7,11,15,18,19,20,21,22,23,24,25,26,27] 18 (λ W=>W.cell? ⟨w.heap.size,1,none⟩=some (.slice A1 n.high.length k1)/\W.cell? ⟨w.heap.size,3,none⟩=some (.slice A3 n.keys.length k3)/\W.cell? ⟨w.heap.size,4,none⟩=some (.slice A4 n.vals.length k4)/\W.cell? ⟨w.heap.size,5,none⟩=some (.slice A5 n.kids.length k5)) ?_ ?_
 ·exact ⟨BN.out.cell 1,BN.out.cell 3,BN.out.cell 4,BN.out.cell 5⟩
 iterate 12
  refine cR_ (v:=?_) rfl ?_ ?_
  rotate_left
  ·intro W hW
   try (obtain ⟨h1,h2,h3,h4⟩:_/\_/\_/\_:=hW)
   go_simp
   try rfl
  simp only [Act.put,sa_,sb_,sc_]
 have HNb:=Hd (HNA.out.keeps (Keeps.drew Nob wa) (λ _ _ _=>id))
 refine cA_ rfl ?_
 go_wp2_with (go_at_call 18;refine (cloneB HNb.out.1.high HS.out.1).mono ?_;rintro e w1 ⟨v1,rfl,hO1,hK1⟩;obtain ⟨B1,d1,hf⟩:=hO1.form;subst hf;have HO1:=Hd hO1;have HK1:=Hd ((Keeps.drew Nob wa).trans hK1 (λ _ _ h=>h));clear hO1 hK1)
 refine ⟨.inr ⟨(BN.out.keeps HK1.out id).cell 1,(BN.out.keeps HK1.out id).cell 3,(BN.out.keeps HK1.out id).cell 4,(BN.out.keeps HK1.out id).cell 5⟩,?_⟩
 iterate 2
  refine cR_ (v:=?_) rfl ?_ ?_
  rotate_left
  ·intro W hW
   go_simp
   try rfl
  simp only [Act.put,sa_,sb_,sc_]
 have HN1:=Hd (HNA.out.keeps HK1.out (λ _ _ _=>id))
 refine cA_ rfl ?_
 go_wp2_with (go_at_call 58;refine (textsP HN1.out.2.keys HS.out.2.1).mono ?_;rintro e w2 ⟨v2,rfl,hO2,hK2⟩;obtain ⟨B2,d2,hf⟩:=hO2.form;subst hf;have HO2:=Hd hO2;have HK2:=Hd (HK1.out.trans hK2 (λ _ _ h=>h));have HJ2:=Hd hK2;clear hO2 hK2)
 refine ⟨.inr ⟨(BN.out.keeps HK2.out id).cell 1,(BN.out.keeps HK2.out id).cell 3,(BN.out.keeps HK2.out id).cell 4,(BN.out.keeps HK2.out id).cell 5⟩,?_⟩
 have HN2:=Hd (HNA.out.keeps HK2.out (λ _ _ _=>id))
 refine cA_ rfl ?_
 go_wp2_with (go_at_call 58;refine (textsP HN2.out.2.vals HS.out.2.2.1).mono ?_;rintro e w3 ⟨v3,rfl,hO3,hK3⟩;obtain ⟨B3,d3,hf⟩:=hO3.form;subst hf;have HO3:=Hd hO3;have HK3:=Hd (HK2.out.trans hK3 (λ _ _ h=>h));have HJ3:=Hd hK3;clear hO3 hK3)
 refine ⟨.inr ⟨(BN.out.keeps HK3.out id).cell 1,(BN.out.keeps HK3.out id).cell 3,(BN.out.keeps HK3.out id).cell 4,(BN.out.keeps HK3.out id).cell 5⟩,?_⟩
 have HN3:=Hd (HNA.out.keeps HK3.out (λ _ _ _=>id))
 refine cA_ rfl ?_
 go_wp2_with (go_at_call 59;refine (cloneI HN3.out.2.kids HS.out.2.2.2).mono ?_;rintro e w4 ⟨v4,rfl,hO4,hK4⟩;obtain ⟨B4,d4,hf⟩:=hO4.form;subst hf;have HO4:=Hd hO4;have HK4:=Hd (HK3.out.trans hK4 (λ _ _ h=>h));have HJ4:=Hd hK4;clear hO4 hK4)
 refine ⟨.inr ⟨(BN.out.keeps HK4.out id).cell 1,(BN.out.keeps HK4.out id).cell 3,(BN.out.keeps HK4.out id).cell 4,(BN.out.keeps HK4.out id).cell 5⟩,?_⟩
 have BN4:=Hd (BN.out.keeps HK4.out id)
 have BR4:=Hd (BR.out.keeps HK4.out id)
 have q1:=BN4.out.cell 1
 have f1:=BN4.out.frozen 1
 have q3:=BN4.out.cell 3
 have f3:=BN4.out.frozen 3
 have q4:=BN4.out.cell 4
 have f4:=BN4.out.frozen 4
 have q5:=BN4.out.cell 5
 have f5:=BN4.out.frozen 5
 refine cA_ rfl ?_
 go_wp2
 refine ⟨.inl (by kernel_rfl),?_⟩
 iterate 2
  refine cR_ (v:=?_) rfl ?_ ?_
  rotate_left
  ·intro W hW
   go_simp
   try rfl
  simp only [Act.put,sa_,sb_,sc_]
 refine cA_ rfl ?_
 go_wp2
 refine ⟨.inl (by kernel_rfl),?_⟩
 iterate 2
  refine cR_ (v:=?_) rfl ?_ ?_
  rotate_left
  ·intro W hW
   go_simp
   try rfl
  simp only [Act.put,sa_,sb_,sc_]
 refine cA_ rfl ?_
 go_wp2
 refine ⟨.inl (by kernel_rfl),?_⟩
 iterate 2
  refine cR_ (v:=?_) rfl ?_ ?_
  rotate_left
  ·intro W hW
   go_simp
   try rfl
  simp only [Act.put,sa_,sb_,sc_]
 refine cA_ rfl ?_
 go_wp2
 refine ⟨.inl (by kernel_rfl),?_⟩
 refine canon_at (λ w5 hw5=>?_)
 have BN5:Hid (Blk w5 w.heap.size 75 #[.int .i64 n.lvl,.slice B1 n.high.length d1,.int .i64 n.right,.slice B2 n.keys.length d2,.slice B3 n.vals.length d3,.slice B4 n.kids.length d4]):=by
  rw [hw5];exact (((BN4.out.set_ 1 _).set_ 3 _).set_ 4 _).set_ 5 _
 have HK45:Hid (Keeps (λ b=>b=w.heap.size) w4 w5):=by
  rw [hw5];exact (((Keeps.setCell w4 (M:=λ b=>b=w.heap.size) rfl _).setCell' (λ _=>rfl) _).setCell' (λ _=>rfl) _).setCell' (λ _=>rfl) _
 have BR5:=Hd (BR4.out.keeps HK45.out (by show ¬_=_;omega))
 clear q1 f1 q3 f3 q4 f4 q5 f5 hw5
 have q0:=BN5.out.cell 0
 have q1:=BN5.out.cell 1
 have q2:=BN5.out.cell 2
 have q3:=BN5.out.cell 3
 have q4:=BN5.out.cell 4
 have q5:=BN5.out.cell 5
 have r0:=BR5.out.cell 0
 have r1:=BR5.out.cell 1
 have r2:=BR5.out.cell 2
 have r3:=BR5.out.cell 3
 have r4:=BR5.out.cell 4
 have r5:=BR5.out.cell 5
 have g0:=BR5.out.frozen 0
 have g1:=BR5.out.frozen 1
 have g2:=BR5.out.frozen 2
 have g3:=BR5.out.frozen 3
 have g4:=BR5.out.frozen 4
 have g5:=BR5.out.frozen 5
 refine wpCanon_nil ?_
 go_wp2
 refine post_at (λ w6 hw6=>?_)
 have BR6:Blk w6 (w.heap.size+1) 75 #[.int .i64 n.lvl,.slice B1 n.high.length d1,.int .i64 n.right,.slice B2 n.keys.length d2,.slice B3 n.vals.length d3,.slice B4 n.kids.length d4]:=by
  rw [hw6];exact (((((BR5.out.set_ 0 _).set_ 1 _).set_ 2 _).set_ 3 _).set_ 4 _).set_ 5 _
 have hk56:Keeps (λ b=>b=w.heap.size+1) w5 w6:=by
  rw [hw6];exact (((((Keeps.setCell w5 (M:=λ b=>b=w.heap.size+1) rfl _).setCell' (λ _=>rfl) _).setCell' (λ _=>rfl) _).setCell' (λ _=>rfl) _).setCell' (λ _=>rfl) _).setCell' (λ _=>rfl) _
 clear q0 q1 q2 q3 q4 q5 r0 r1 r2 r3 r4 r5 g0 g1 g2 g3 g4 g5 hw6
 have r0:=BR6.cell 0
 have r1:=BR6.cell 1
 have r2:=BR6.cell 2
 have r3:=BR6.cell 3
 have r4:=BR6.cell 4
 have r5:=BR6.cell 5
 refine bodyPost_ret (v:=.agg #[.int .i64 n.lvl,.slice B1 n.high.length d1,.int .i64 n.right,.slice B2 n.keys.length d2,.slice B3 n.vals.length d3,.slice B4 n.kids.length d4]) (by simp [results,Try.results34,go_sem,r0,r1,r2,r3,r4,r5]) rfl ⟨_,_,_,_,_,_,rfl,?_,?_,λ k h1 h2=>by have:=(HO2.out.blk h1).2;have:=(HO3.out.blk h2).1.1;omega⟩
 ·have hs0:=HKA.out.size
  have hs1:=HK1.out.size
  have hs2:=HJ2.out.size
  have hs3:=HJ3.out.size
  have hs4:=HJ4.out.size
  have hs5:=HK45.out.size
  have hs6:=hk56.size
  have ha:Apart 75:=⟨by decide,by decide,by decide⟩
  refine ⟨⟨rfl,?_,rfl⟩,?_,?_,?_⟩
  ·exact ((((((HO1.out.keeps HJ2.out (λ _ _ _=>id)).keeps HJ3.out (λ _ _ _=>id)).keeps HJ4.out (λ _ _ _=>id)).keepsB BN4.out ha HK45.out).keepsB BR5.out ha hk56).mono (λ b _ hb=>⟨by have:=hb.1;simp at this;omega,by have:=hb.2;omega⟩))
  ·exact (((((HO2.out.keeps HJ3.out (λ _ _ _=>id)).keeps HJ4.out (λ _ _ _=>id)).keepsB BN4.out ha HK45.out).keepsB BR5.out ha hk56).mono (λ b _ hb=>⟨by have:=hb.1;omega,by have:=hb.2;omega⟩))
  ·exact ((((HO3.out.keeps HJ4.out (λ _ _ _=>id)).keepsB BN4.out ha HK45.out).keepsB BR5.out ha hk56).mono (λ b _ hb=>⟨by have:=hb.1;omega,by have:=hb.2;omega⟩))
  ·exact (((HO4.out.keepsB BN4.out ha HK45.out).keepsB BR5.out ha hk56).mono (λ b _ hb=>⟨by have:=hb.1;omega,by have:=hb.2;omega⟩))
 ·exact ((HKA.out.trans HK4.out (λ _ _=>id)).trans HK45.out (λ b hb e=>by subst e;exact absurd hb (Nat.lt_irrefl _))).trans hk56 (λ b hb e=>by subst e;omega)
end
end Go.Proofs.Ytjcgphhpaenjkaa

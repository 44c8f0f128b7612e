import Derived.Test.YtjcgphhpaenjkaaGreatPkA6
import Derived.Test.YtjcgphhpaenjkaaGreatPkA5
set_option maxHeartbeats 64000000
set_option maxRecDepth 100000
set_option linter.unusedVariables false
namespace Go.Proofs.YtjcgphhpaenjkaaGreat
open Go.RowKit Go.Maps
theorem Tryz.lawInt:Keyed Tryz.prog 3:=int_keyed Tryz.underlying3
theorem Tryz.zeroInt (w:World):(zeroValue 3).run Tryz.prog w=.ok (.int .i64 0) w:=by kernel_rfl
theorem take_snocC {α:Type} (l:List α) (k:Nat) (x:α) (h:l[k]?=some x):l.take (k+1)=l.take k++[x]:=by
 rw [List.take_add_one,h];rfl
theorem lit_inj {a b:Int} (h:(DataW.lit (.int .i64 a):DataW Unit)=.lit (.int .i64 b)):a=b:=by
 injection h with h;injection h
def Met (D:DataW Unit) (l:List Int):Prop:=IsMap D/\∀ x:Int,D.atKey (.int .i64 x) (.lit (.int .i64 0))=.lit (.int .i64 (if x ∈ l then 1 else 0))
theorem Met.nil:Met (.map []) []:=⟨isMap_empty,λ x=>by simp;rfl⟩
theorem key_int (x:Int):WideAt.IsKeyLit (.int .i64 x):=by simp [WideAt.IsKeyLit]
theorem Met.step {D:DataW Unit} {l:List Int} (h:Met D l) (x:Int):Met (D.put (.int .i64 x) (.lit (.int .i64 1))) (l++[x]):=by
 refine ⟨h.1.put _ _,λ y=>?_⟩
 by_cases hy:y=x
 ·subst hy
  rw [atKey_put_same h.1 (key_int y)]
  simp
 ·rw [atKey_put_other (by intro e;injection e with _ e;exact hy e),h.2 y]
  simp [hy]
theorem nodup_snoc {l:List Int} {x:Int} (h:l.Nodup) (hx:x ∉ l):(l++[x]).Nodup:=by
 rw [List.nodup_append]
 refine ⟨h,by simp,λ a ha b hb=>?_⟩
 simp at hb;subst hb
 intro e;subst e;exact hx ha
theorem kidsFine_false {l:List Int} {nodes:Int} (h:¬(l.Nodup/\∀ k ∈ l,1<=k/\k<=nodes)):kidsFine l nodes=false:=by
 cases hb:kidsFine l nodes with
 | false=>rfl
 | true=>
  unfold kidsFine at hb
  simp only [Bool.and_eq_true,decide_eq_true_eq,List.all_eq_true] at hb
  exact absurd hb h
theorem kidsFine_true {l:List Int} {nodes:Int} (h1:l.Nodup) (h2:∀ k ∈ l,1<=k/\k<=nodes):kidsFine l nodes=true:=by
 unfold kidsFine
 simp only [Bool.and_eq_true,decide_eq_true_eq,List.all_eq_true]
 exact ⟨h1,h2⟩
section
variable {S T:Nat->Prop} {w:World} {c0 c1 c2 c3 c4 c5:Value} {n:Nd}
theorem innerP {a0 a1 a2 a3 a4:Int} (h:IsNd w S c0 c1 c2 c3 c4 c5 n) (hw:∀ k ∈ n.kids,K64 k) (hz:NdSm 0 n):Calls Tryz.prog 232 #[.agg #[c0,c1,c2,c3,c4,c5],.agg #[.int .i64 a0,.int .i64 a1,.int .i64 a2,.int .i64 a3,.int .i64 a4]] w λ e w'=>e=.returned (.bool (innerOk n a0 a2))/\Keeps Nob w w':=by
 obtain ⟨X1,k1,e1,_,_⟩:=h.1.high.form
 obtain ⟨X3,k3,e3,y3,z3⟩:=h.2.keys.form
 obtain ⟨X4,k4,e4,y4,z4⟩:=h.2.vals.form
 obtain ⟨X5,k5,e5,y5,z5⟩:=h.2.kids.form
 have e0:=h.1.lvl
 have e2:=h.1.right
 unfold iV at e0 e2
 subst e0 e1 e2 e3 e4 e5
 have HN0:=Hd h
 have HW:=Hd hw
 have hl5:n.kids.length<=9223372036854775807:=Nat.le_trans y5 z5
 have hl3:n.keys.length+1<=9223372036854775807:=by have:=hz.2.1.1;unfold Sm at this;omega
 clear h y3 y4 y5 z3 z4 z5 hw hz
 have hmm:=@run_makeMap Tryz.prog
 obtain ⟨res,hres⟩:∃ r,innerOk n a0 a2=r:=⟨_,rfl⟩
 rw [hres]
 have HR:=Hd hres
 clear hres
 go_enter Tryz.func232,Tryz.ntmps232
 go_wp2
 have hka:∀ o1 o2 o3,Keeps Nob w (((w.alloc o1).alloc o2).alloc o3):=λ o1 o2 o3=>((Keeps.alloc _ w _).alloc' _).alloc' _
 obtain ⟨N,hN⟩:∃ N,w.heap.size=N:=⟨_,rfl⟩
 have BN0:Hid (Blk (((w.alloc (.cells #[.int .i64 n.lvl,.slice X1 n.high.length k1,.int .i64 n.right,.slice X3 n.keys.length k3,.slice X4 n.vals.length k4,.slice X5 n.kids.length k5] 95)).alloc (.cells #[.int .i64 a0,.int .i64 a1,.int .i64 a2,.int .i64 a3,.int .i64 a4] 23)).alloc (.map #[] 0)) w.heap.size 95 #[.int .i64 n.lvl,.slice X1 n.high.length k1,.int .i64 n.right,.slice X3 n.keys.length k3,.slice X4 n.vals.length k4,.slice X5 n.kids.length k5]):=((Blk.new w _ _).alloc _).alloc _
 have BC0:Hid (Blk (((w.alloc (.cells #[.int .i64 n.lvl,.slice X1 n.high.length k1,.int .i64 n.right,.slice X3 n.keys.length k3,.slice X4 n.vals.length k4,.slice X5 n.kids.length k5] 95)).alloc (.cells #[.int .i64 a0,.int .i64 a1,.int .i64 a2,.int .i64 a3,.int .i64 a4] 23)).alloc (.map #[] 0)) (w.heap.size+1) 23 #[.int .i64 a0,.int .i64 a1,.int .i64 a2,.int .i64 a3,.int .i64 a4]):=(Blk.new' (by simp) _ _).alloc _
 have OM0:Hid ((((w.alloc (.cells #[.int .i64 n.lvl,.slice X1 n.high.length k1,.int .i64 n.right,.slice X3 n.keys.length k3,.slice X4 n.vals.length k4,.slice X5 n.kids.length k5] 95)).alloc (.cells #[.int .i64 a0,.int .i64 a1,.int .i64 a2,.int .i64 a3,.int .i64 a4] 23)).alloc (.map #[] 0)).ownsMap Tryz.prog 3 (plainElem (H:=Unit) Tryz.prog 3) (w.heap.size+2) 0 (.map [])):=by
  have:=World.ownsMap_made ((w.alloc (.cells #[.int .i64 n.lvl,.slice X1 n.high.length k1,.int .i64 n.right,.slice X3 n.keys.length k3,.slice X4 n.vals.length k4,.slice X5 n.kids.length k5] 95)).alloc (.cells #[.int .i64 a0,.int .i64 a1,.int .i64 a2,.int .i64 a3,.int .i64 a4] 23)) Tryz.prog 3 (plainElem (H:=Unit) Tryz.prog 3)
  rw [show (((w.alloc (.cells #[.int .i64 n.lvl,.slice X1 n.high.length k1,.int .i64 n.right,.slice X3 n.keys.length k3,.slice X4 n.vals.length k4,.slice X5 n.kids.length k5] 95)).alloc (.cells #[.int .i64 a0,.int .i64 a1,.int .i64 a2,.int .i64 a3,.int .i64 a4] 23)).heap.size)=w.heap.size+2 by simp] at this
  exact this
 have K0:=Hd hka
 clear hka hN
 go_loopw [13] (λ i wr=>∃ k:Nat,k<=n.kids.length/\i=.int .i64 k/\(n.kids.take k).Nodup/\(∀ x ∈ n.kids.take k,1<=x/\x<=a0)/\(∃ D,Met D (n.kids.take k)/\wr.ownsMap Tryz.prog 3 (plainElem (H:=Unit) Tryz.prog 3) (w.heap.size+2) k D)/\Keeps Nob w wr/\Blk wr w.heap.size 95 #[.int .i64 n.lvl,.slice X1 n.high.length k1,.int .i64 n.right,.slice X3 n.keys.length k3,.slice X4 n.vals.length k4,.slice X5 n.kids.length k5]/\Blk wr (w.heap.size+1) 23 #[.int .i64 a0,.int .i64 a1,.int .i64 a2,.int .i64 a3,.int .i64 a4]) (λ i _=>n.kids.length-(intOf i).toNat)
 case atStart=>exact ⟨0,Nat.zero_le _,rfl,by simp,by simp,⟨_,Met.nil,OM0.out⟩,K0.out _ _ _,BN0.out,BC0.out⟩
 obtain ⟨k,hk,rfl,hnd,hin,⟨D,hmet,hown⟩,hkr,hbn,hbc⟩:=hrel
 rcases Nat.lt_or_ge k n.kids.length with hlt|hlt
 ·obtain ⟨kid,hkid⟩:∃ x,n.kids[k]?=some x:=⟨_,List.getElem?_eq_getElem hlt⟩
  obtain ⟨ad,rfl,_,hc⟩:=HN0.out.2.kids.cells hlt
  have q0:wr.cell? (ad.add k)=some (.int .i64 kid):=hkr.cell (hc k kid hkid) id
  have hkey:keyOf Tryz.prog 3 (.int .i64 kid)=some (.int .i64 kid):=keyOf_int_mk Tryz.underlying3 (HW.out kid (List.mem_of_getElem? hkid))
  have HT:=Hd (take_snocC n.kids k kid hkid)
  have HMEM:Hid (kid ∈ n.kids):=List.mem_of_getElem? hkid
  have HND:=Hd hnd
  have HIN:=Hd hin
  have HMET:=Hd hmet
  have HOWN:=Hd hown
  have HK:=Hd hkr
  have HBN:=Hd hbn
  have HBC:=Hd hbc
  have HKID:Hid (n.kids[k]?=some kid):=hkid
  clear hkid hc hnd hin hmet hown hkr hbn hbc
  have hs2:w.heap.size+2≠w.heap.size:=by omega
  by_cases hmem:kid ∈ n.kids.take k
  ·have hat0:=HMET.out.2 kid
   rw [if_pos hmem] at hat0
   have HA0:=Hd hat0
   have HMM:=Hd hmem
   clear hat0 hmem
   go_wp2_with (first
    | (at_lookup;refine wpList_lookup_own_int _ rfl _ _ 134 rfl 3 3 .i64 Tryz.lawInt Tryz.underlying134 Tryz.underlying3 (Tryz.zeroInt _) (w.heap.size+2) _ _ rfl HOWN.out _ _ rfl hkey ?_;intro c hat hwc;have hcc:=lit_inj (hat.symm.trans HA0.out);subst hcc;clear hat hwc)
    | (at_mapUpdate;refine wpList_mapUpdate_own _ rfl _ _ _ 134 rfl 3 3 Tryz.lawInt Tryz.underlying134 _ (w.heap.size+2) _ _ rfl HOWN.out (by unfold maxLen;omega) _ _ _ rfl rfl hkey (.lit (.int .i64 2)) [] (plainElem_int Tryz.underlying3 (by decide)) ?_;intro w1 hown1 hgrow1;have hk1:Keeps (λ b=>b=w.heap.size+2) wr w1:=Keeps.grown hgrow1 (λ j hj=>by injection hj with hj;exact hj.symm);replace HOWN:=Hd hown1;replace HA0:=Hd (atKey_put_same HMET.out.1 (key_int kid) (.lit (.int .i64 2)) (.lit (.int .i64 0)));replace HBN:=Hd (HBN.out.keeps hk1 (by show ¬_=_;omega));replace HBC:=Hd (HBC.out.keeps hk1 (by show ¬_=_;omega));replace HK:=Hd (HK.out.trans hk1 (λ b hb e=>by have h2:b=_:=e;omega));have qc:=HBC.out.cell 0;clear hown1 hgrow1 hk1))
   go_ret
   refine ⟨?_,HK.out⟩
   have:res=false:=by
    rw [<-HR.out]
    unfold innerOk
    rw [kidsFine_false (λ hh=>?_)]
    ·rfl
    have h1:=hh.1
    rw [<-List.take_append_drop (k+1) n.kids,HT.out] at h1
    have h2:=(List.nodup_append.1 (List.nodup_append.1 h1).1).2.2 kid HMM.out kid (by simp)
    exact h2 rfl
   rw [this];rfl
  ·have hat0:=HMET.out.2 kid
   rw [if_neg hmem] at hat0
   have HA0:=Hd hat0
   have HMM:=Hd hmem
   clear hat0 hmem
   obtain ⟨bb,hbb⟩:∃ b,decide (1<=kid/\kid<=a0)=b:=⟨_,rfl⟩
   have HBB:=Hd hbb
   clear hbb
   cases bb
   ·go_wp2_with (first
     | (at_lookup;refine wpList_lookup_own_int _ rfl _ _ 134 rfl 3 3 .i64 Tryz.lawInt Tryz.underlying134 Tryz.underlying3 (Tryz.zeroInt _) (w.heap.size+2) _ _ rfl HOWN.out _ _ rfl hkey ?_;intro c hat hwc;have hcc:=lit_inj (hat.symm.trans HA0.out);subst hcc;clear hat hwc)
     | (at_mapUpdate;refine wpList_mapUpdate_own _ rfl _ _ _ 134 rfl 3 3 Tryz.lawInt Tryz.underlying134 _ (w.heap.size+2) _ _ rfl HOWN.out (by unfold maxLen;omega) _ _ _ rfl rfl hkey (.lit (.int .i64 1)) [] (plainElem_int Tryz.underlying3 (by decide)) ?_;intro w1 hown1 hgrow1;have hk1:Keeps (λ b=>b=w.heap.size+2) wr w1:=Keeps.grown hgrow1 (λ j hj=>by injection hj with hj;exact hj.symm);replace HOWN:=Hd hown1;replace HA0:=Hd (atKey_put_same HMET.out.1 (key_int kid) (.lit (.int .i64 1)) (.lit (.int .i64 0)));replace HBN:=Hd (HBN.out.keeps hk1 (by show ¬_=_;omega));replace HBC:=Hd (HBC.out.keeps hk1 (by show ¬_=_;omega));replace HK:=Hd (HK.out.trans hk1 (λ b hb e=>by have h2:b=_:=e;omega));have qc:=HBC.out.cell 0;clear hown1 hgrow1 hk1)
     | (go_at_call 214;refine (betweenP _ _ _ _).mono ?_;rintro e w2 ⟨rfl,rfl⟩;rw [HBB.out]))
    go_ret
    refine ⟨?_,HK.out⟩
    have:res=false:=by
     rw [<-HR.out]
     unfold innerOk
     rw [kidsFine_false (λ hh=>?_)]
     ·rfl
     exact absurd (decide_eq_true (hh.2 kid HMEM.out)) (by rw [HBB.out];decide)
    rw [this];rfl
   ·go_wp2_with (first
     | (at_lookup;refine wpList_lookup_own_int _ rfl _ _ 134 rfl 3 3 .i64 Tryz.lawInt Tryz.underlying134 Tryz.underlying3 (Tryz.zeroInt _) (w.heap.size+2) _ _ rfl HOWN.out _ _ rfl hkey ?_;intro c hat hwc;have hcc:=lit_inj (hat.symm.trans HA0.out);subst hcc;clear hat hwc)
     | (at_mapUpdate;refine wpList_mapUpdate_own _ rfl _ _ _ 134 rfl 3 3 Tryz.lawInt Tryz.underlying134 _ (w.heap.size+2) _ _ rfl HOWN.out (by unfold maxLen;omega) _ _ _ rfl rfl hkey (.lit (.int .i64 1)) [] (plainElem_int Tryz.underlying3 (by decide)) ?_;intro w1 hown1 hgrow1;have hk1:Keeps (λ b=>b=w.heap.size+2) wr w1:=Keeps.grown hgrow1 (λ j hj=>by injection hj with hj;exact hj.symm);replace HOWN:=Hd hown1;replace HA0:=Hd (atKey_put_same HMET.out.1 (key_int kid) (.lit (.int .i64 1)) (.lit (.int .i64 0)));replace HBN:=Hd (HBN.out.keeps hk1 (by show ¬_=_;omega));replace HBC:=Hd (HBC.out.keeps hk1 (by show ¬_=_;omega));replace HK:=Hd (HK.out.trans hk1 (λ b hb e=>by have h2:b=_:=e;omega));have qc:=HBC.out.cell 0;clear hown1 hgrow1 hk1)
     | (go_at_call 214;refine (betweenP _ _ _ _).mono ?_;rintro e w2 ⟨rfl,rfl⟩;rw [HBB.out]))
    go_roundw
    case rel=>
     refine ⟨k+1,by omega,by go_num,?_,?_,⟨_,?_,HOWN.out⟩,HK.out,HBN.out,HBC.out⟩
     ·rw [HT.out];exact nodup_snoc HND.out HMM.out
     ·rw [HT.out]
      intro x hx
      rcases List.mem_append.1 hx with hx|hx
      ·exact HIN.out x hx
      ·simp at hx;subst hx;exact of_decide_eq_true HBB.out
     ·rw [HT.out];exact HMET.out.step kid
    case measure=>simp [intOf];omega
 ·obtain rfl:k=n.kids.length:=by omega
  rw [List.take_length] at hnd hin
  have hfine:=kidsFine_true hnd hin
  have HK:=Hd hkr
  obtain ⟨bA,hA⟩:∃ b,((n.vals.length:Int)==0)=b:=⟨_,rfl⟩
  obtain ⟨bB,hB⟩:∃ b,((n.kids.length:Int)==(n.keys.length:Int)+1)=b:=⟨_,rfl⟩
  obtain ⟨bC,hC⟩:∃ b,decide ((n.kids.length:Int)<=a2)=b:=⟨_,rfl⟩
  have eA:decide (n.vals.length=0)=bA:=by rw [<-hA];apply Bool.eq_iff_iff.2;simp<;>omega
  have eB:decide (n.kids.length=n.keys.length+1)=bB:=by rw [<-hB];apply Bool.eq_iff_iff.2;simp<;>omega
  have hr:=HR.out
  unfold innerOk at hr
  rw [hfine,eA,eB,hC] at hr
  have HR2:=Hd hr
  have q:=λ i=>hbn.cell i
  have q2:=λ i=>hbc.cell i
  clear hnd hin hmet hown hkr hbn hbc hfine eA eB hr HR
  have HAH:=Hd hA
  have HBH:=Hd hB
  have HCH:=Hd hC
  clear hA hB hC
  cases bA<;>cases bB<;>cases bC
  all_goals
   have hA:=HAH.out
   have hB:=HBH.out
   have hC:=HCH.out
   go_wp2
   go_ret
   exact ⟨by rw [<-HR2.out];rfl,HK.out⟩
end
def headOk (n:Nd) (nodes:Int):Bool:=decide (0<=n.lvl/\n.lvl<=32)&&(decide (0<=n.right/\n.right<=nodes)&&((((n.high.length:Int)==0)==(n.right==0))&&decide ((n.high.length:Int)<=64)))
def keysOk (n:Nd):Bool:=rises n.keys&&!(n.keys.any (keyBad n.high))
def formOk (n:Nd) (a0 a1 a2:Int):Bool:=if n.lvl=0 then leafOk n a1 else innerOk n a0 a2
def mayE (n:Nd) (a0 a1 a2 a3 a4:Int):Int:=if confOk a0 a1 a2 a3 a4 then (if headOk n a0&&(keysOk n&&formOk n a0 a1 a2) then 0 else 91) else 1
section
variable {S T:Nat->Prop} {w:World} {c0 c1 c2 c3 c4 c5:Value} {n:Nd}
theorem checkP {a0 a1 a2 a3 a4:Int} (h:IsNd w S c0 c1 c2 c3 c4 c5 n) (hw:∀ k ∈ n.kids,K64 k) (hz:NdSm 0 n):Calls Tryz.prog 215 #[.agg #[c0,c1,c2,c3,c4,c5],.agg #[.int .i64 a0,.int .i64 a1,.int .i64 a2,.int .i64 a3,.int .i64 a4]] w λ e w'=>e=.returned (.int .i64 (mayE n a0 a1 a2 a3 a4))/\Keeps Nob w w':=by
 obtain ⟨X1,k1,e1,y1,z1⟩:=h.1.high.form
 obtain ⟨X3,k3,e3,y3,z3⟩:=h.2.keys.form
 obtain ⟨X4,k4,e4,y4,z4⟩:=h.2.vals.form
 obtain ⟨X5,k5,e5,y5,z5⟩:=h.2.kids.form
 have e0:=h.1.lvl
 have e2:=h.1.right
 unfold iV at e0 e2
 subst e0 e1 e2 e3 e4 e5
 have HN0:=Hd h
 have HL:=λ wx (k:Keeps Nob w wx)=>leafP (a0:=a0) (a1:=a1) (a2:=a2) (a3:=a3) (a4:=a4) (HN0.out.keeps k (λ _ _ _=>id))
 have HI:=λ wx (k:Keeps Nob w wx)=>innerP (a0:=a0) (a1:=a1) (a2:=a2) (a3:=a3) (a4:=a4) (HN0.out.keeps k (λ _ _ _=>id)) hw hz
 have HC:=λ wx=>confP a0 a1 a2 a3 a4 wx
 clear h y1 y3 y4 y5 z1 z3 z4 z5 hw hz
 unfold mayE headOk keysOk formOk
 unfold confE at HC
 obtain ⟨bc,hbc⟩:∃ b,confOk a0 a1 a2 a3 a4=b:=⟨_,rfl⟩
 obtain ⟨b0,hb0⟩:∃ b,decide (0<=n.lvl/\n.lvl<=32)=b:=⟨_,rfl⟩
 obtain ⟨b1,hb1⟩:∃ b,decide (0<=n.right/\n.right<=a0)=b:=⟨_,rfl⟩
 obtain ⟨b2,hb2⟩:∃ b,(((n.high.length:Int)==0)==(n.right==0))=b:=⟨_,rfl⟩
 obtain ⟨b3,hb3⟩:∃ b,decide ((n.high.length:Int)<=64)=b:=⟨_,rfl⟩
 obtain ⟨br,hbr⟩:∃ b,rises n.keys=b:=⟨_,rfl⟩
 obtain ⟨bk,hbk⟩:∃ b,n.keys.any (keyBad n.high)=b:=⟨_,rfl⟩
 obtain ⟨bl,hbl⟩:∃ b,leafOk n a1=b:=⟨_,rfl⟩
 obtain ⟨bi,hbi⟩:∃ b,innerOk n a0 a2=b:=⟨_,rfl⟩
 rw [hbc] at HC ⊢
 rw [hb0,hb1,hb2,hb3,hbr,hbk,hbl,hbi]
 rw [hbl] at HL
 rw [hbi] at HI
 have H0:=Hd hb0
 have H1:=Hd hb1
 have H2:=Hd hb2
 have H3:=Hd hb3
 have HRI:∀ wx,Keeps Nob w wx->Calls Tryz.prog 228 #[.slice X3 n.keys.length k3] wx λ e w'=>e=.returned (.bool br)/\Keeps Nob wx w':=λ wx k=>by
  have:=risingP (HN0.out.keeps k (λ _ _ _=>id)).2.keys
  rwa [hbr] at this
 have HCO:∀ wx N,Keeps Nob w wx->Blk wx N 95 #[.int .i64 n.lvl,.slice X1 n.high.length k1,.int .i64 n.right,.slice X3 n.keys.length k3,.slice X4 n.vals.length k4,.slice X5 n.kids.length k5]->Calls Tryz.prog 229 #[.slice X3 n.keys.length k3,.func (.func 230) #[] #[.pointer (some ⟨N,0,none⟩)]] wx λ e w'=>e=.returned (.bool bk)/\Keeps Nob wx w':=λ wx N k hb=>by
  have hn:=HN0.out.keeps k (λ _ _ _=>id)
  have:=containsC (p:=keyBad n.high) (q:=some ⟨N,0,none⟩) hn.2.keys (λ W u x hkW hx=>keyF (hb.keeps hkW id) (hn.keeps hkW (λ _ _ _=>id)).1.high hx)
  rwa [hbk] at this
 clear hbc hb0 hb1 hb2 hb3 hbr hbk hbl hbi
 cases bc
 ·have HCC:=Hd HC
  clear HC HL HI HRI HCO H0 H1 H2 H3
  go_enter Tryz.func215,Tryz.ntmps215
  go_wp2_with fail
  refine calls_at (λ wa hw=>?_)
  have hka:Keeps Nob w wa:=by rw [hw];exact (Keeps.alloc _ _ _).alloc' _
  have HK:=Hd hka
  clear hw hka
  refine (HCC.out wa).mono ?_
  rintro e w1 ⟨rfl,hk1⟩
  have HK1:=Hd (HK.out.trans hk1 (λ _ _ h=>h))
  clear hk1
  go_wp2
  go_ret
  exact ⟨rfl,HK1.out⟩
 ·have hmf:∀ (fn:Fn) (first cap:Array Value) (w:World),(Instr.makeFunc fn first cap).run Tryz.prog w=.ok (.func fn first cap) w:=λ _ _ _ _=>rfl
  have HCC:=Hd HC
  clear HC
  go_enter Tryz.func215,Tryz.ntmps215
  go_wp2_with fail
  refine calls_at (λ wa hw=>?_)
  obtain ⟨N,hN⟩:∃ N,w.heap.size=N:=⟨_,rfl⟩
  have hka:Keeps Nob w wa:=by rw [hw];exact (Keeps.alloc _ _ _).alloc' _
  have BN:Blk wa N 95 #[.int .i64 n.lvl,.slice X1 n.high.length k1,.int .i64 n.right,.slice X3 n.keys.length k3,.slice X4 n.vals.length k4,.slice X5 n.kids.length k5]:=by rw [hw,<-hN];exact (Blk.new w _ _).alloc _
  have BC:Blk wa (N+1) 23 #[.int .i64 a0,.int .i64 a1,.int .i64 a2,.int .i64 a3,.int .i64 a4]:=by rw [hw,<-hN];exact Blk.new' (by simp) _ _
  rw [hN]
  have HBN:=Hd BN
  have HBC:=Hd BC
  have HK:=Hd hka
  clear hw hN BN BC hka
  refine (HCC.out wa).mono ?_
  rintro e w1 ⟨rfl,hk1⟩
  replace HBN:=Hd (HBN.out.keeps hk1 id)
  replace HBC:=Hd (HBC.out.keeps hk1 id)
  replace HK:=Hd (HK.out.trans hk1 (λ _ _ h=>h))
  have q:=λ i=>HBN.out.cell i
  have q2:=λ i=>HBC.out.cell i
  have hb2:=H2.out
  have hb3:=H3.out
  clear hk1 HCC
  go_wp2_with (first
   | (go_at_call 214;refine (betweenP _ _ _ _).mono ?_;rintro e w2 ⟨rfl,rfl⟩;(first|rw [H0.out]|rw [H1.out]))
   | (go_at_call 228;refine (HRI _ HK.out).mono ?_;rintro e w2 ⟨rfl,hk1⟩;replace HBN:=Hd (HBN.out.keeps hk1 id);replace HBC:=Hd (HBC.out.keeps hk1 id);replace HK:=Hd (HK.out.trans hk1 (λ _ _ h=>h));have q:=λ i=>HBN.out.cell i;have q2:=λ i=>HBC.out.cell i;clear hk1)
   | (go_at_call 229;refine (HCO _ N HK.out HBN.out).mono ?_;rintro e w2 ⟨rfl,hk1⟩;replace HBN:=Hd (HBN.out.keeps hk1 id);replace HBC:=Hd (HBC.out.keeps hk1 id);replace HK:=Hd (HK.out.trans hk1 (λ _ _ h=>h));have q:=λ i=>HBN.out.cell i;have q2:=λ i=>HBC.out.cell i;clear hk1)
   | (go_at_call 233;refine (HL _ HK.out).mono ?_;rintro e w2 ⟨rfl,hk1⟩;replace HK:=Hd (HK.out.trans hk1 (λ _ _ h=>h));clear hk1)
   | (go_at_call 232;refine (HI _ HK.out).mono ?_;rintro e w2 ⟨rfl,hk1⟩;replace HK:=Hd (HK.out.trans hk1 (λ _ _ h=>h));clear hk1))
  all_goals
   go_ret
   first
    | exact ⟨rfl,HK.out⟩
    | (refine ⟨?_,HK.out⟩;simp_all)
end
end Go.Proofs.YtjcgphhpaenjkaaGreat
namespace Go.Proofs.YtjcgphhpaenjkaaGreat
open Go.RowKit
structure Rp where
 sound:Bool
 node:Int
 err:Int
 levels:Int
 nodes:Int
 entries:Int
 deriving DecidableEq
def Rp.wrong (id e:Int):Rp:=⟨false,id,e,0,0,0⟩
def Rp.ok:Rp:=⟨true,0,0,0,0,0⟩
abbrev Ch:=List (Int × List UInt8)
def keyBelow (low:List UInt8):List (List UInt8)->Bool
 | []=>false
 | k::_=>decide (cmp k low < 0)
def lowBad (low:List UInt8) (n:Nd):Bool:=
 decide (0 < low.length)&&(keyBelow low n.keys||(decide (0 < n.high.length)&&decide (cmp n.high low<=0)))
def chainM (A:Ar) (chk:Nd->Int) (level:Int):Nat->Int->List UInt8->List Int->Ch->Ch × List Int × Rp
 | 0,_,_,met,acc=>(acc,met,.ok)
 | f+1,id,low,met,acc=>match A.get id with
  | none=>(acc,met,.wrong id 101)
  | some s=>
   if met.contains id=true then (acc,met,.wrong id 112)
   else if s.nd.lvl≠level then (acc,met,.wrong id 111)
   else if chk s.nd≠0 then (acc,met,.wrong id (chk s.nd))
   else if lowBad low s.nd=true then (acc,met,.wrong id 112)
   else if s.nd.right=0 then (acc++[(id,low)],met++[id],.ok)
   else chainM A chk level f s.nd.right s.nd.high (met++[id]) (acc++[(id,low)])
def kidOk (down:Ch) (kid:Int) (want:List UInt8):Bool:=down.any (λ d=>d.1==kid&&d.2==want)
def wantLow (low:List UInt8) (n:Nd) (k:Nat):List UInt8:=if k=0 then low else n.keys.getD (k-1) []
def nodeKids (down:Ch) (low:List UInt8) (n:Nd):Bool:=(List.range n.kids.length).all (λ k=>kidOk down (n.kids.getD k 0) (wantLow low n k))
def kidsM (A:Ar) (down:Ch):Ch->Rp
 | []=>.ok
 | (id,low)::r=>if nodeKids down low (opNd A id)=true then kidsM A down r else .wrong id 113
def firstKid (A:Ar) (l:Ch):Int:=match l with
 | []=>0
 | e::_=>(opNd A e.1).kids.getD 0 0
def kidsLast (A:Ar) (out:List Ch) (l:Ch):Rp:=match out.getLast? with
 | none=>.ok
 | some up=>kidsM A l up
def levelsFrom (A:Ar) (chk:Nd->Int):Nat->Int->Int->List Int->List Ch->List Ch × Rp
 | 0,_,_,_,out=>(out,.ok)
 | f+1,level,first,met,out=>
  let c:=chainM A chk level (A.sl.length+1-met.length) first [] met []
  if c.2.2.sound=false then ([],c.2.2)
  else if (kidsLast A out c.1).sound=false then ([],kidsLast A out c.1)
  else if level=0 then (out++[c.1],.ok)
  else levelsFrom A chk f (level-1) (firstKid A c.1) c.2.1 (out++[c.1])
def chkM (a0 a1 a2 a3 a4:Int) (n:Nd):Int:=mayE n a0 a1 a2 a3 a4
def levelsM (A:Ar) (a0 a1 a2 a3 a4:Int):List Ch × Rp:=
 if confOk a0 a1 a2 a3 a4=false then ([],.wrong 0 1)
 else match heldFrom 1 A.sl with
 | h::_=>([],.wrong h 102)
 | []=>match A.get A.root with
  | none=>([],.wrong A.root 101)
  | some s=>levelsFrom A (chkM a0 a1 a2 a3 a4) (s.nd.lvl.toNat+1) s.nd.lvl A.root [] []
def MetA (A:Ar) (met:List Int):Prop:=met.Nodup/\∀ x ∈ met,1<=x/\x<=A.sl.length
section
variable {A:Ar} {chk:Nd->Int} {level id:Int} {low:List UInt8} {met:List Int} {acc l:Ch} {s:Sl}
theorem nodup_le {α:Type} [BEq α] [LawfulBEq α]:∀ (l m:List α),l.Nodup->(∀ x ∈ l,x ∈ m)->l.length<=m.length
 | [],_,_,_=>Nat.zero_le _
 | x::l,m,hn,hs=>by
  have hx:=hs x (List.mem_cons_self ..)
  rw [List.nodup_cons] at hn
  have ih:=nodup_le l (m.erase x) hn.2 (λ y hy=>(List.mem_erase_of_ne (λ e:y=x=>hn.1 (e▸hy))).2 (hs y (List.mem_cons_of_mem _ hy)))
  have h1:=List.length_erase_of_mem hx
  have h2:=List.length_pos_of_mem hx
  simp only [List.length_cons]
  omega
theorem MetA.len (h:MetA A met):met.length<=A.sl.length:=by
 obtain ⟨h1,h2⟩:=h
 have hsub:(met.map (λ x=>x.toNat-1)) ⊆ List.range A.sl.length:=λ y hy=>by
  obtain ⟨x,hx,rfl⟩:=List.mem_map.1 hy
  have:=h2 x hx
  exact List.mem_range.2 (by omega)
 have hnd:(met.map (λ x=>x.toNat-1)).Nodup:=by
  rw [List.nodup_iff_pairwise_ne,List.pairwise_map]
  refine List.Pairwise.imp_of_mem ?_ h1
  intro a b ha hb hab e
  have:=h2 a ha;have:=h2 b hb
  exact hab (by omega)
 have:=nodup_le _ _ hnd (λ x hx=>hsub hx)
 simpa using this
theorem MetA.snoc (h:MetA A met) (hs:A.get id=some s) (hm:met.contains id=false):MetA A (met++[id]):=by
 obtain ⟨h1,h2⟩:=h
 refine ⟨?_,λ x hx=>?_⟩
 ·rw [List.nodup_append]
  refine ⟨h1,by simp,λ a ha b hb e=>?_⟩
  simp at hb
  subst hb e
  have:met.contains a=true:=by simpa using ha
  rw [hm] at this;cases this
 ·rcases List.mem_append.1 hx with hx|hx
  ·exact h2 x hx
  ·simp at hx;subst hx;exact get_le hs
theorem chainM_round (hmet:MetA A met):chainM A chk level (A.sl.length+1-met.length) id low met acc=match A.get id with
  | none=>(acc,met,.wrong id 101)
  | some s=>
   if met.contains id=true then (acc,met,.wrong id 112)
   else if s.nd.lvl≠level then (acc,met,.wrong id 111)
   else if chk s.nd≠0 then (acc,met,.wrong id (chk s.nd))
   else if lowBad low s.nd=true then (acc,met,.wrong id 112)
   else if s.nd.right=0 then (acc++[(id,low)],met++[id],.ok)
   else chainM A chk level (A.sl.length+1-(met++[id]).length) s.nd.right s.nd.high (met++[id]) (acc++[(id,low)]):=by
 have hl:=hmet.len
 obtain ⟨f,hf⟩:∃ f,A.sl.length+1-met.length=f+1:=⟨A.sl.length-met.length,by omega⟩
 have hf2:A.sl.length+1-(met++[id]).length=f:=by simp;omega
 rw [hf,hf2]
 rfl
end
structure May (n:Nd) (a0 a1 a2:Int):Prop where
 lvl:0<=n.lvl/\n.lvl<=32
 right:0<=n.right/\n.right<=a0
 high:n.high.length=0 ↔ n.right=0
 high64:n.high.length<=64
 rise:Rise n.keys
 key:∀ k ∈ n.keys,(1<=k.length/\k.length<=64)/\beyond n.high k=false
 leaf:n.lvl=0->n.vals.length=n.keys.length/\(n.keys.length:Int)<=a1/\n.kids=[]/\∀ v ∈ n.vals,v.length<=256
 inner:n.lvl≠0->n.kids.Nodup/\(∀ k ∈ n.kids,1<=k/\k<=a0)/\n.vals=[]/\n.kids.length=n.keys.length+1/\(n.kids.length:Int)<=a2
theorem keyBad_iff (high x:List UInt8):keyBad high x=false ↔ (1<=x.length/\x.length<=64)/\beyond high x=false:=by
 unfold keyBad
 rw [Bool.or_eq_false_iff]
 simp only [Bool.not_eq_false',decide_eq_true_eq]
 constructor
 ·rintro ⟨h1,h2⟩;exact ⟨by omega,h2⟩
 ·rintro ⟨h1,h2⟩;exact ⟨by omega,h2⟩
theorem may_iff {n:Nd} {a0 a1 a2 a3 a4:Int} (hc:confOk a0 a1 a2 a3 a4=true):mayE n a0 a1 a2 a3 a4=0 ↔ May n a0 a1 a2:=by
 unfold mayE
 rw [if_pos hc]
 have hh:headOk n a0=true ↔ (0<=n.lvl/\n.lvl<=32)/\(0<=n.right/\n.right<=a0)/\(n.high.length=0 ↔ n.right=0)/\n.high.length<=64:=by
  unfold headOk
  simp only [Bool.and_eq_true,decide_eq_true_eq,beq_iff_eq]
  have e:(((n.high.length:Int)==0)=(n.right==0)) ↔ (n.high.length=0 ↔ n.right=0):=by
   rw [Bool.eq_iff_iff];simp
  rw [e]
  constructor
  ·rintro ⟨h1,h2,h3,h4⟩;exact ⟨h1,h2,h3,by omega⟩
  ·rintro ⟨h1,h2,h3,h4⟩;exact ⟨h1,h2,h3,by omega⟩
 have hk:keysOk n=true ↔ Rise n.keys/\∀ k ∈ n.keys,(1<=k.length/\k.length<=64)/\beyond n.high k=false:=by
  unfold keysOk
  rw [Bool.and_eq_true,rises_iff,Bool.not_eq_true',List.any_eq_false]
  constructor
  ·rintro ⟨h1,h2⟩
   exact ⟨h1,λ k hk=>(keyBad_iff _ _).1 (by simpa using h2 k hk)⟩
  ·rintro ⟨h1,h2⟩
   exact ⟨h1,λ k hk=>by rw [(keyBad_iff _ _).2 (h2 k hk)];simp⟩
 have hf:formOk n a0 a1 a2=true ↔ (n.lvl=0->n.vals.length=n.keys.length/\(n.keys.length:Int)<=a1/\n.kids=[]/\∀ v ∈ n.vals,v.length<=256)/\(n.lvl≠0->n.kids.Nodup/\(∀ k ∈ n.kids,1<=k/\k<=a0)/\n.vals=[]/\n.kids.length=n.keys.length+1/\(n.kids.length:Int)<=a2):=by
  unfold formOk
  by_cases hl:n.lvl=0
  ·rw [if_pos hl]
   unfold leafOk
   simp only [Bool.and_eq_true,decide_eq_true_eq,Bool.not_eq_true',List.any_eq_false,List.length_eq_zero_iff]
   constructor
   ·rintro ⟨h1,h2,h3,h4⟩
    refine ⟨λ _=>⟨h1,h2,h3,λ v hv=>?_⟩,λ h=>absurd hl h⟩
    have:=h4 v hv
    unfold valBad at this
    simp at this
    omega
   ·rintro ⟨h1,_⟩
    obtain ⟨h1,h2,h3,h4⟩:=h1 hl
    refine ⟨h1,h2,h3,λ v hv=>?_⟩
    have:=h4 v hv
    unfold valBad
    simp
    omega
  ·rw [if_neg hl]
   unfold innerOk kidsFine
   simp only [Bool.and_eq_true,decide_eq_true_eq,List.all_eq_true,List.length_eq_zero_iff]
   constructor
   ·rintro ⟨⟨h1,h2⟩,h3,h4,h5⟩
    exact ⟨λ h=>absurd h hl,λ _=>⟨h1,h2,h3,h4,h5⟩⟩
   ·rintro ⟨_,h1⟩
    obtain ⟨h1,h2,h3,h4,h5⟩:=h1 hl
    exact ⟨⟨h1,h2⟩,h3,h4,h5⟩
 constructor
 ·intro h
  by_cases hb:(headOk n a0&&(keysOk n&&formOk n a0 a1 a2))=true
  ·simp only [Bool.and_eq_true] at hb
   obtain ⟨b1,b2,b3⟩:=hb
   obtain ⟨g1,g2,g3,g4⟩:=hh.1 b1
   obtain ⟨g5,g6⟩:=hk.1 b2
   obtain ⟨g7,g8⟩:=hf.1 b3
   exact ⟨g1,g2,g3,g4,g5,g6,g7,g8⟩
  ·rw [if_neg hb] at h
   exact absurd h (by decide)
 ·intro h
  rw [hh.2 ⟨h.lvl,h.right,h.high,h.high64⟩,hk.2 ⟨h.rise,h.key⟩,hf.2 ⟨h.leaf,h.inner⟩]
  rfl
def below (l:List (List UInt8)) (k:List UInt8):Nat:=l.countP (λ x=>decide (cmp x k < 0))
def has (l:List (List UInt8)) (k:List UInt8):Bool:=l.any (λ x=>cmp x k==0)
theorem below_le (l k):below l k<=l.length:=List.countP_le_length
theorem below_take (l:List (List UInt8)) (k:List UInt8) (n:Nat):below (l.take n) k<=n:=Nat.le_trans (below_le _ _) (List.length_take_le _ _)
theorem below_succ {l:List (List UInt8)} {k x:List UInt8} {n:Nat} (h:l[n]?=some x):below (l.take (n+1)) k=below (l.take n) k+if cmp x k < 0 then 1 else 0:=by
 rw [List.take_add_one,h]
 unfold below
 rw [List.countP_append]
 simp [List.countP_cons]
theorem has_succ {l:List (List UInt8)} {k x:List UInt8} {n:Nat} (h:l[n]?=some x):has (l.take (n+1)) k=(has (l.take n) k||cmp x k==0):=by
 rw [List.take_add_one,h]
 unfold has
 rw [List.any_append]
 simp
end Go.Proofs.YtjcgphhpaenjkaaGreat

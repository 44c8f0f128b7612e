import Derived.Test.YtjcgphhpaenjkaaPkA5
import Derived.Maps.OwnOps
import Derived.Maps.Views
set_option maxHeartbeats 64000000
set_option maxRecDepth 100000
set_option linter.unusedVariables false
namespace Go.Proofs.Ytjcgphhpaenjkaa
open Go.RowKit
section
variable {S T:Nat->Prop} {w:World} {a:Value} {ls:List (List UInt8)}
theorem risingP (h1:Txts w S a ls):Calls Try.prog 83 #[a] w λ e w'=>e=.returned (.bool (rises ls))/\Keeps Nob w w':=by
 obtain ⟨A,c,rfl,hn1,hm1⟩:=h1.form
 have hz1:ls.length<=9223372036854775807:=Nat.le_trans hn1 hm1
 have hz2:c<=9223372036854775807:=hm1
 have H1:=Hd h1
 clear h1 hm1
 by_cases hz:ls.length=0
 ·have hz':ls=[]:=List.eq_nil_of_length_eq_zero hz
  subst hz'
  go_enter Try.func83,Try.ntmps83
  go_wp2
  all_goals
   go_loopw [10] (λ i wr=>i=.int .i64 0/\Keeps Nob w wr) (λ _ _=>0)
   case atStart=>exact ⟨rfl,Keeps.refl _ _⟩
   obtain ⟨rfl,hK⟩:=hrel
   have HK:=Hd hK
   clear hK
   go_wp2
   go_ret
   exact ⟨rfl,HK.out⟩
 obtain ⟨ad,rfl,_,hcells⟩:=H1.out.cells (i:=0) (by omega)
 have HCE:=Hd hcells
 clear hcells
 obtain ⟨L,hL⟩:∃ L,ls.length=L+1:=⟨ls.length-1,by omega⟩
 have HL:=Hd hL
 rw [hL] at hn1 hz1 ⊢
 clear hL hz
 have t1:¬((L:Int)+1) < 1:=by omega
 have t2:(1:Int)<=(L:Int)+1:=by omega
 by_cases hc1:c=1
 all_goals
  go_enter Try.func83,Try.ntmps83
  go_wp2
  go_loopw [10] (λ i wr=>∃ k:Nat,k<=L/\i=.int .i64 k/\(∀ (j:Nat) a b,j < k->ls[j]?=some a->ls[j+1]?=some b->cmp a b < 0)/\Keeps Nob w wr) (λ i _=>L-(intOf i).toNat)
  case atStart=>exact ⟨0,Nat.zero_le _,rfl,λ j a b h=>absurd h (Nat.not_lt_zero _),Keeps.refl _ _⟩
  obtain ⟨k,hk,rfl,hup,hK⟩:=hrel
  have HU:=Hd hup
  have HK:=Hd hK
  clear hup hK
  rcases Nat.lt_or_ge k L with hlt|hlt
  ·obtain ⟨x,hx⟩:∃ x,ls[k]?=some x:=⟨_,List.getElem?_eq_getElem (by have:=HL.out;omega)⟩
   obtain ⟨y,hy⟩:∃ y,ls[k+1]?=some y:=⟨_,List.getElem?_eq_getElem (by have:=HL.out;omega)⟩
   obtain ⟨u,hu,hbu⟩:=HCE.out k x hx
   obtain ⟨v,hv,hbv⟩:=HCE.out (k+1) y hy
   have hu':wr.cell? (ad.add k)=some u:=HK.out.cell hu id
   have hv':wr.cell? ⟨ad.block,ad.off+(k+1),none⟩=some v:=by have:=HK.out.cell hv id;unfold Addr.add at this;simpa using this
   have hwr:IntKind.i64.wrap ((k:Int)+1)=(k:Int)+1:=by rw [IntKind.wrap_i64];omega
   have hp1:(k:Int) < (L:Int)+1:=by omega
   have hp2:0<=(k:Int)+1/\(k:Int)+1 < (L:Int)+1:=by omega
   have htn:((k:Int)+1).toNat=k+1:=by omega
   have HX:=Hd hx
   have HY:=Hd hy
   have HC:=Hd (cmpP ((hbu.keeps HK.out (λ _ _ _=>id)).keeps (Keeps.drew Nob wr) (λ _ _ _=>id)) ((hbv.keeps HK.out (λ _ _ _=>id)).keeps (Keeps.drew Nob wr) (λ _ _ _=>id)))
   clear hu hv hbu hbv hx hy
   go_wp2
   refine rC_ [0,1,2,3,4,5,6,7,8,9,10] 99 (λ W=>W.cell? (ad.add k)=some u/\W.cell? ⟨ad.block,ad.off+(k+1),none⟩=some v) ⟨hu',hv'⟩ ?_
   iterate 9
    refine cR_ (v:=?_) rfl ?_ ?_
    rotate_left
    ·intro W hW
     try (obtain ⟨h1,h2⟩:_/\_:=hW)
     go_simp
     try simp only [hwr,if_pos hp1,if_pos hp2,htn]
     try rfl
    simp only [Act.put,sa_,sb_,sc_]
   refine cA_ rfl ?_
   rcases cmp_cases x y with hcm|hcm|hcm
   all_goals
    have HCM:=Hd hcm
    clear hcm
    go_wp2_with (go_at_call 63;refine HC.out.mono ?_;rintro e w1 ⟨rfl,rfl⟩;rw [HCM.out])
    refine ⟨.inr ⟨hu',hv'⟩,?_⟩
    refine cR_ (v:=?_) rfl ?_ ?_
    rotate_left
    ·intro W hW
     go_simp
     try rfl
    simp only [Act.put,sa_,sb_,sc_]
    refine wpCanon_nil ?_
    go_wp2
   ·go_roundw
    case rel=>
     refine ⟨k+1,by omega,by go_num,λ j a b hj ha hb=>?_,HK.out.drew'⟩
     by_cases hjm:j < k
     ·exact HU.out j a b hjm ha hb
     ·have:j=k:=by omega
      subst this
      have e1:=ha.symm.trans HX.out
      have e3:=hb.symm.trans HY.out
      injection e1 with e1
      injection e3 with e3
      subst e1 e3
      rw [HCM.out]
      decide
    case measure=>simp [intOf];omega
   all_goals
    go_ret
    refine ⟨?_,HK.out.drew'⟩
    have:rises ls=false:=by
     rcases hr:rises ls with _|_
     ·rfl
     ·have:=(rises_iff ls).1 hr k x y HX.out HY.out
      rw [HCM.out] at this
      exact absurd this (by decide)
    rw [this];rfl
  ·go_wp2
   go_ret
   refine ⟨?_,HK.out⟩
   have:rises ls=true:=(rises_iff ls).2 (λ j a b ha hb=>HU.out j a b (by have:=(List.getElem?_eq_some_iff.1 hb).1;have:=HL.out;omega) ha hb)
   rw [this];rfl
end
section
variable {S T:Nat->Prop} {w:World} {a:Value} {ls:List (List UInt8)}
def keyBad (high x:List UInt8):Bool:=!(decide ((1:Int)<=(x.length:Int)/\(x.length:Int)<=64))||beyond high x
def valBad (x:List UInt8):Bool:=decide ((256:Int) < (x.length:Int))
theorem keyF {B:Nat} {c0 c1 c2 c3 c4 c5 u:Value} {high x:List UInt8} (hb:Blk w B 75 #[c0,c1,c2,c3,c4,c5]) (h1:Byts w S c1 high) (h2:Byts w T u x) :
  Calls Try.prog 85 #[u,.pointer (some ⟨B,0,none⟩)] w λ e w'=>e=.returned (.bool (keyBad high x))/\Keeps Nob w w':=by
 obtain ⟨A,c,rfl,hn,hm⟩:=h2.form
 have hz:x.length<=9223372036854775807:=Nat.le_trans hn hm
 have HC:=Hd (beyondP (c0:=c0) (c2:=c2) (c3:=c3) (c4:=c4) (c5:=c5) h1 h2)
 unfold keyBad
 obtain ⟨b1,hb1⟩:∃ b,decide ((1:Int)<=(x.length:Int)/\(x.length:Int)<=64)=b:=⟨_,rfl⟩
 obtain ⟨b2,hb2⟩:∃ b,beyond high x=b:=⟨_,rfl⟩
 rw [hb1,hb2]
 have HB1:=Hd hb1
 have HB2:=Hd hb2
 have q:=λ i=>hb.cell i
 clear hb1 hb2 h1 h2 hb hn hm
 cases b1<;>cases b2
 all_goals
  go_enter Try.func85,Try.ntmps85
  go_wp2_with (first
   | (go_at_call 70;refine (betweenP _ _ _ _).mono ?_;rintro e w1 ⟨rfl,rfl⟩;rw [HB1.out])
   | (go_at_call 86;refine HC.out.mono ?_;rintro e w1 ⟨rfl,hk⟩;have HK:=Hd hk;clear hk;rw [HB2.out]))
  go_ret
  first
   | exact ⟨rfl,HK.out⟩
   | exact ⟨rfl,Keeps.refl _ _⟩
theorem valF {u:Value} {x:List UInt8} (h2:Byts w T u x) :
  Calls Try.prog 94 #[u] w λ e w'=>e=.returned (.bool (valBad x))/\Keeps Nob w w':=by
 obtain ⟨A,c,rfl,hn,hm⟩:=h2.form
 clear h2
 unfold valBad
 obtain ⟨b1,hb1⟩:∃ b,decide ((256:Int) < (x.length:Int))=b:=⟨_,rfl⟩
 rw [hb1]
 cases b1
 all_goals
  go_enter Try.func94,Try.ntmps94
  go_wp2
  go_ret
  exact ⟨rfl,Keeps.refl _ _⟩
theorem indexC {q:Option Addr} {p:List UInt8->Bool} (h:Txts w S a ls) (hp:∀ W u x,Keeps Nob w W->Byts W S u x->Calls Try.prog 85 #[u,.pointer q] W λ e w'=>e=.returned (.bool (p x))/\Keeps Nob W w') :
  Calls Try.prog 93 #[a,.func (.func 85) #[] #[.pointer q]] w λ e w'=>∃ r:Int,e=.returned (.int .i64 r)/\decide (0<=r)=ls.any p/\Keeps Nob w w':=by
 obtain ⟨A,c,rfl,hn,hm⟩:=h.form
 have hz:ls.length<=9223372036854775807:=Nat.le_trans hn hm
 have H:=Hd h
 have HP:=Hd hp
 clear h hp hn hm
 go_enter Try.func93,Try.ntmps93
 go_wp2
 go_loopw [8] (λ i wr=>∃ k:Nat,k<=ls.length/\i=.int .i64 k/\(ls.take k).any p=false/\Keeps Nob w wr) (λ i _=>ls.length-(intOf i).toNat)
 case atStart=>exact ⟨0,Nat.zero_le _,rfl,rfl,Keeps.refl _ _⟩
 obtain ⟨k,hk,rfl,hany,hK⟩:=hrel
 have HA:=Hd hany
 have HK:=Hd hK
 clear hany hK
 rcases Nat.lt_or_ge k ls.length with hlt|hlt
 ·obtain ⟨x,hx⟩:∃ x,ls[k]?=some x:=⟨_,List.getElem?_eq_getElem hlt⟩
  obtain ⟨ad,rfl,_,hc⟩:=H.out.cells hlt
  obtain ⟨u,hu,hbu⟩:=hc k x hx
  have hu':wr.cell? (ad.add k)=some u:=HK.out.cell hu id
  have HC:=Hd (HP.out wr u x HK.out (hbu.keeps HK.out (λ _ _ _=>id)))
  have HX:=Hd hx
  clear hc hu hbu hx
  obtain ⟨b,hb⟩:∃ b,p x=b:=⟨_,rfl⟩
  have HB:=Hd hb
  clear hb
  cases b
  ·go_wp2_with (go_at_call 85;refine HC.out.mono ?_;rintro e w1 ⟨rfl,hk1⟩;have HK1:=Hd hk1;clear hk1;rw [HB.out])
   go_roundw
   case rel=>exact ⟨k+1,by omega,by go_num,by rw [List.take_add_one,HX.out,List.any_append,HA.out];simp [HB.out],HK.out.trans HK1.out (λ _ _ h=>h)⟩
   case measure=>simp [intOf];omega
  ·go_wp2_with (go_at_call 85;refine HC.out.mono ?_;rintro e w1 ⟨rfl,hk1⟩;have HK1:=Hd hk1;clear hk1;rw [HB.out])
   go_ret
   refine ⟨k,rfl,?_,HK.out.trans HK1.out (λ _ _ h=>h)⟩
   have:ls.any p=true:=List.any_eq_true.2 ⟨x,List.mem_of_getElem? HX.out,HB.out⟩
   rw [this]
   exact decide_eq_true (by omega)
 ·obtain rfl:k=ls.length:=by omega
  go_wp2
  go_ret
  refine ⟨-1,rfl,?_,HK.out⟩
  have h:=HA.out
  rw [List.take_length] at h
  rw [h];rfl
theorem containsC {q:Option Addr} {p:List UInt8->Bool} (h:Txts w S a ls) (hp:∀ W u x,Keeps Nob w W->Byts W S u x->Calls Try.prog 85 #[u,.pointer q] W λ e w'=>e=.returned (.bool (p x))/\Keeps Nob W w') :
  Calls Try.prog 84 #[a,.func (.func 85) #[] #[.pointer q]] w λ e w'=>e=.returned (.bool (ls.any p))/\Keeps Nob w w':=by
 have HC:=Hd (indexC h hp)
 clear h hp
 go_enter Try.func84,Try.ntmps84
 go_wp2_with (go_at_call 93;refine HC.out.mono ?_;rintro e w1 ⟨r,rfl,hr,hk1⟩;have HR:=Hd hr;have HK1:=Hd hk1;clear hk1 hr)
 go_ret
 refine ⟨?_,HK1.out⟩
 rw [<-HR.out];rfl
theorem indexL {p:List UInt8->Bool} (h:Txts w S a ls) (hp:∀ W u x,Keeps Nob w W->Byts W S u x->Calls Try.prog 94 #[u] W λ e w'=>e=.returned (.bool (p x))/\Keeps Nob W w') :
  Calls Try.prog 93 #[a,.func (.func 94) #[] #[]] w λ e w'=>∃ r:Int,e=.returned (.int .i64 r)/\decide (0<=r)=ls.any p/\Keeps Nob w w':=by
 obtain ⟨A,c,rfl,hn,hm⟩:=h.form
 have hz:ls.length<=9223372036854775807:=Nat.le_trans hn hm
 have H:=Hd h
 have HP:=Hd hp
 clear h hp hn hm
 go_enter Try.func93,Try.ntmps93
 go_wp2
 go_loopw [8] (λ i wr=>∃ k:Nat,k<=ls.length/\i=.int .i64 k/\(ls.take k).any p=false/\Keeps Nob w wr) (λ i _=>ls.length-(intOf i).toNat)
 case atStart=>exact ⟨0,Nat.zero_le _,rfl,rfl,Keeps.refl _ _⟩
 obtain ⟨k,hk,rfl,hany,hK⟩:=hrel
 have HA:=Hd hany
 have HK:=Hd hK
 clear hany hK
 rcases Nat.lt_or_ge k ls.length with hlt|hlt
 ·obtain ⟨x,hx⟩:∃ x,ls[k]?=some x:=⟨_,List.getElem?_eq_getElem hlt⟩
  obtain ⟨ad,rfl,_,hc⟩:=H.out.cells hlt
  obtain ⟨u,hu,hbu⟩:=hc k x hx
  have hu':wr.cell? (ad.add k)=some u:=HK.out.cell hu id
  have HC:=Hd (HP.out wr u x HK.out (hbu.keeps HK.out (λ _ _ _=>id)))
  have HX:=Hd hx
  clear hc hu hbu hx
  obtain ⟨b,hb⟩:∃ b,p x=b:=⟨_,rfl⟩
  have HB:=Hd hb
  clear hb
  cases b
  ·go_wp2_with (go_at_call 94;refine HC.out.mono ?_;rintro e w1 ⟨rfl,hk1⟩;have HK1:=Hd hk1;clear hk1;rw [HB.out])
   go_roundw
   case rel=>exact ⟨k+1,by omega,by go_num,by rw [List.take_add_one,HX.out,List.any_append,HA.out];simp [HB.out],HK.out.trans HK1.out (λ _ _ h=>h)⟩
   case measure=>simp [intOf];omega
  ·go_wp2_with (go_at_call 94;refine HC.out.mono ?_;rintro e w1 ⟨rfl,hk1⟩;have HK1:=Hd hk1;clear hk1;rw [HB.out])
   go_ret
   refine ⟨k,rfl,?_,HK.out.trans HK1.out (λ _ _ h=>h)⟩
   have:ls.any p=true:=List.any_eq_true.2 ⟨x,List.mem_of_getElem? HX.out,HB.out⟩
   rw [this]
   exact decide_eq_true (by omega)
 ·obtain rfl:k=ls.length:=by omega
  go_wp2
  go_ret
  refine ⟨-1,rfl,?_,HK.out⟩
  have h:=HA.out
  rw [List.take_length] at h
  rw [h];rfl
theorem containsL {p:List UInt8->Bool} (h:Txts w S a ls) (hp:∀ W u x,Keeps Nob w W->Byts W S u x->Calls Try.prog 94 #[u] W λ e w'=>e=.returned (.bool (p x))/\Keeps Nob W w') :
  Calls Try.prog 84 #[a,.func (.func 94) #[] #[]] w λ e w'=>e=.returned (.bool (ls.any p))/\Keeps Nob w w':=by
 have HC:=Hd (indexL h hp)
 clear h hp
 go_enter Try.func84,Try.ntmps84
 go_wp2_with (go_at_call 93;refine HC.out.mono ?_;rintro e w1 ⟨r,rfl,hr,hk1⟩;have HR:=Hd hr;have HK1:=Hd hk1;clear hk1 hr)
 go_ret
 refine ⟨?_,HK1.out⟩
 rw [<-HR.out];rfl
end
end Go.Proofs.Ytjcgphhpaenjkaa
namespace Go.Proofs.Ytjcgphhpaenjkaa
open Go.RowKit Go.Maps
def leafOk (n:Nd) (leaf:Int):Bool:=decide (n.vals.length=n.keys.length)&&(decide ((n.keys.length:Int)<=leaf)&&(decide (n.kids.length=0)&&!(n.vals.any valBad)))
def kidsFine (l:List Int) (nodes:Int):Bool:=decide (l.Nodup)&&l.all (λ k=>decide (1<=k/\k<=nodes))
def innerOk (n:Nd) (nodes inner:Int):Bool:=kidsFine n.kids nodes&&(decide (n.vals.length=0)&&(decide (n.kids.length=n.keys.length+1)&&decide ((n.kids.length:Int)<=inner)))
def K64 (n:Int):Prop:=(Lit.int .i64 n).wf=true
section
variable {S T:Nat->Prop} {w:World} {c0 c1 c2 c3 c4 c5:Value} {n:Nd}
theorem leafP {a0 a1 a2 a3 a4:Int} (h:IsNd w S c0 c1 c2 c3 c4 c5 n):Calls Try.prog 88 #[.agg #[c0,c1,c2,c3,c4,c5],.agg #[.int .i64 a0,.int .i64 a1,.int .i64 a2,.int .i64 a3,.int .i64 a4]] w λ e w'=>e=.returned (.bool (leafOk n a1))/\Keeps Nob w w':=by
 obtain ⟨X1,k1,e1,_,_⟩:=h.1.high.form
 obtain ⟨X3,k3,e3,y3,z3⟩:=h.2.keys.form
 obtain ⟨X4,k4,e4,y4,z4⟩:=h.2.vals.form
 obtain ⟨X5,k5,e5,y5,z5⟩:=h.2.kids.form
 have e0:=h.1.lvl
 have e2:=h.1.right
 unfold iV at e0 e2
 subst e0 e1 e2 e3 e4 e5
 have HN0:=Hd h
 clear h y3 y4 y5 z3 z4 z5
 unfold leafOk
 obtain ⟨b,hb⟩:∃ b,n.vals.any valBad=b:=⟨_,rfl⟩
 rw [hb]
 have HB:=Hd hb
 clear hb
 have PRE:∀ (wa:World),Keeps Nob w wa->Calls Try.prog 84 #[.slice X4 n.vals.length k4,.func (.func 94) #[] #[]] wa λ e w'=>e=.returned (.bool b)/\Keeps Nob wa w':=λ wa hk=>by
  have:=containsL (p:=valBad) (HN0.out.keeps hk (λ _ _ _=>id)).2.vals (λ W u x hkW hx=>valF hx)
  rwa [HB.out] at this
 clear HN0 HB
 obtain ⟨bA,hA⟩:∃ b,((n.vals.length:Int)==(n.keys.length:Int))=b:=⟨_,rfl⟩
 obtain ⟨bB,hB⟩:∃ b,decide ((n.keys.length:Int)<=a1)=b:=⟨_,rfl⟩
 obtain ⟨bC,hC⟩:∃ b,((n.kids.length:Int)==0)=b:=⟨_,rfl⟩
 have eA:decide (n.vals.length=n.keys.length)=bA:=by rw [<-hA];apply Bool.eq_iff_iff.2;simp;omega
 have eC:decide (n.kids.length=0)=bC:=by rw [<-hC];apply Bool.eq_iff_iff.2;simp
 rw [eA,hB,eC]
 clear eA eC
 have HAH:=Hd hA
 have HBH:=Hd hB
 have HCH:=Hd hC
 clear hA hB hC
 cases bA<;>cases bB<;>cases bC<;>cases b
 all_goals
  go_enter Try.func88,Try.ntmps88
  go_wp2_with fail
  refine calls_at (λ wa hw=>?_)
  obtain ⟨N,hN⟩:∃ N,w.heap.size=N:=⟨_,rfl⟩
  have hka:Keeps Nob w wa:=by rw [hw];exact (Keeps.alloc _ _ _).alloc' _
  have BN:Blk wa N 75 #[.int .i64 n.lvl,.slice X1 n.high.length k1,.int .i64 n.right,.slice X3 n.keys.length k3,.slice X4 n.vals.length k4,.slice X5 n.kids.length k5]:=by rw [hw,<-hN];exact (Blk.new w _ _).alloc _
  have BC:Blk wa (N+1) 23 #[.int .i64 a0,.int .i64 a1,.int .i64 a2,.int .i64 a3,.int .i64 a4]:=by rw [hw,<-hN];exact Blk.new' (by simp) _ _
  rw [hN]
  have HBN:=Hd BN
  have HBC:=Hd BC
  have HKA:=Hd hka
  clear hw hN BN BC
  refine (PRE wa hka).mono ?_
  rintro e w1 ⟨rfl,hk1⟩
  have q:=λ i=>(HBN.out.keeps hk1 id).cell i
  have q2:=λ i=>(HBC.out.keeps hk1 id).cell i
  have HK:=Hd (HKA.out.trans hk1 (λ _ _ h=>h))
  clear hk1 hka PRE
  have hA:=HAH.out
  have hB:=HBH.out
  have hC:=HCH.out
  go_wp2
  go_ret
  exact ⟨rfl,HK.out⟩
end
theorem Try.lawInt:Keyed Try.prog 3:=int_keyed Try.underlying3
theorem Try.zeroInt (w:World):(zeroValue 3).run Try.prog w=.ok (.int .i64 0) w:=by kernel_rfl
theorem take_snocC {α:Type} (l:List α) (k:Nat) (x:α) (h:l[k]?=some x):l.take (k+1)=l.take k++[x]:=by
 rw [List.take_add_one,h];rfl
theorem lit_inj {a b:Int} (h:(DataW.lit (.int .i64 a):DataW Unit)=.lit (.int .i64 b)):a=b:=by
 injection h with h;injection h
def Met (D:DataW Unit) (l:List Int):Prop:=IsMap D/\∀ x:Int,D.atKey (.int .i64 x) (.lit (.int .i64 0))=.lit (.int .i64 (if x ∈ l then 1 else 0))
theorem Met.nil:Met (.map []) []:=⟨isMap_empty,λ x=>by simp;rfl⟩
theorem key_int (x:Int):WideAt.IsKeyLit (.int .i64 x):=by simp [WideAt.IsKeyLit]
theorem Met.step {D:DataW Unit} {l:List Int} (h:Met D l) (x:Int):Met (D.put (.int .i64 x) (.lit (.int .i64 1))) (l++[x]):=by
 refine ⟨h.1.put _ _,λ y=>?_⟩
 by_cases hy:y=x
 ·subst hy
  rw [atKey_put_same h.1 (key_int y)]
  simp
 ·rw [atKey_put_other (by intro e;injection e with _ e;exact hy e),h.2 y]
  simp [hy]
theorem nodup_snoc {l:List Int} {x:Int} (h:l.Nodup) (hx:x ∉ l):(l++[x]).Nodup:=by
 rw [List.nodup_append]
 refine ⟨h,by simp,λ a ha b hb=>?_⟩
 simp at hb;subst hb
 intro e;subst e;exact hx ha
theorem kidsFine_false {l:List Int} {nodes:Int} (h:¬(l.Nodup/\∀ k ∈ l,1<=k/\k<=nodes)):kidsFine l nodes=false:=by
 cases hb:kidsFine l nodes with
 | false=>rfl
 | true=>
  unfold kidsFine at hb
  simp only [Bool.and_eq_true,decide_eq_true_eq,List.all_eq_true] at hb
  exact absurd hb h
theorem kidsFine_true {l:List Int} {nodes:Int} (h1:l.Nodup) (h2:∀ k ∈ l,1<=k/\k<=nodes):kidsFine l nodes=true:=by
 unfold kidsFine
 simp only [Bool.and_eq_true,decide_eq_true_eq,List.all_eq_true]
 exact ⟨h1,h2⟩
section
variable {S T:Nat->Prop} {w:World} {c0 c1 c2 c3 c4 c5:Value} {n:Nd}
theorem innerP {a0 a1 a2 a3 a4:Int} (h:IsNd w S c0 c1 c2 c3 c4 c5 n) (hw:∀ k ∈ n.kids,K64 k) (hz:NdSm 0 n):Calls Try.prog 87 #[.agg #[c0,c1,c2,c3,c4,c5],.agg #[.int .i64 a0,.int .i64 a1,.int .i64 a2,.int .i64 a3,.int .i64 a4]] w λ e w'=>e=.returned (.bool (innerOk n a0 a2))/\Keeps Nob w w':=by
 obtain ⟨X1,k1,e1,_,_⟩:=h.1.high.form
 obtain ⟨X3,k3,e3,y3,z3⟩:=h.2.keys.form
 obtain ⟨X4,k4,e4,y4,z4⟩:=h.2.vals.form
 obtain ⟨X5,k5,e5,y5,z5⟩:=h.2.kids.form
 have e0:=h.1.lvl
 have e2:=h.1.right
 unfold iV at e0 e2
 subst e0 e1 e2 e3 e4 e5
 have HN0:=Hd h
 have HW:=Hd hw
 have hl5:n.kids.length<=9223372036854775807:=Nat.le_trans y5 z5
 have hl3:n.keys.length+1<=9223372036854775807:=by have:=hz.2.1.1;unfold Sm at this;omega
 clear h y3 y4 y5 z3 z4 z5 hw hz
 have hmm:=@run_makeMap Try.prog
 obtain ⟨res,hres⟩:∃ r,innerOk n a0 a2=r:=⟨_,rfl⟩
 rw [hres]
 have HR:=Hd hres
 clear hres
 go_enter Try.func87,Try.ntmps87
 go_wp2
 have hka:∀ o1 o2 o3,Keeps Nob w (((w.alloc o1).alloc o2).alloc o3):=λ o1 o2 o3=>((Keeps.alloc _ w _).alloc' _).alloc' _
 obtain ⟨N,hN⟩:∃ N,w.heap.size=N:=⟨_,rfl⟩
 have BN0:Hid (Blk (((w.alloc (.cells #[.int .i64 n.lvl,.slice X1 n.high.length k1,.int .i64 n.right,.slice X3 n.keys.length k3,.slice X4 n.vals.length k4,.slice X5 n.kids.length k5] 75)).alloc (.cells #[.int .i64 a0,.int .i64 a1,.int .i64 a2,.int .i64 a3,.int .i64 a4] 23)).alloc (.map #[] 0)) w.heap.size 75 #[.int .i64 n.lvl,.slice X1 n.high.length k1,.int .i64 n.right,.slice X3 n.keys.length k3,.slice X4 n.vals.length k4,.slice X5 n.kids.length k5]):=((Blk.new w _ _).alloc _).alloc _
 have BC0:Hid (Blk (((w.alloc (.cells #[.int .i64 n.lvl,.slice X1 n.high.length k1,.int .i64 n.right,.slice X3 n.keys.length k3,.slice X4 n.vals.length k4,.slice X5 n.kids.length k5] 75)).alloc (.cells #[.int .i64 a0,.int .i64 a1,.int .i64 a2,.int .i64 a3,.int .i64 a4] 23)).alloc (.map #[] 0)) (w.heap.size+1) 23 #[.int .i64 a0,.int .i64 a1,.int .i64 a2,.int .i64 a3,.int .i64 a4]):=(Blk.new' (by simp) _ _).alloc _
 have OM0:Hid ((((w.alloc (.cells #[.int .i64 n.lvl,.slice X1 n.high.length k1,.int .i64 n.right,.slice X3 n.keys.length k3,.slice X4 n.vals.length k4,.slice X5 n.kids.length k5] 75)).alloc (.cells #[.int .i64 a0,.int .i64 a1,.int .i64 a2,.int .i64 a3,.int .i64 a4] 23)).alloc (.map #[] 0)).ownsMap Try.prog 3 (plainElem (H:=Unit) Try.prog 3) (w.heap.size+2) 0 (.map [])):=by
  have:=World.ownsMap_made ((w.alloc (.cells #[.int .i64 n.lvl,.slice X1 n.high.length k1,.int .i64 n.right,.slice X3 n.keys.length k3,.slice X4 n.vals.length k4,.slice X5 n.kids.length k5] 75)).alloc (.cells #[.int .i64 a0,.int .i64 a1,.int .i64 a2,.int .i64 a3,.int .i64 a4] 23)) Try.prog 3 (plainElem (H:=Unit) Try.prog 3)
  rw [show (((w.alloc (.cells #[.int .i64 n.lvl,.slice X1 n.high.length k1,.int .i64 n.right,.slice X3 n.keys.length k3,.slice X4 n.vals.length k4,.slice X5 n.kids.length k5] 75)).alloc (.cells #[.int .i64 a0,.int .i64 a1,.int .i64 a2,.int .i64 a3,.int .i64 a4] 23)).heap.size)=w.heap.size+2 by simp] at this
  exact this
 have K0:=Hd hka
 clear hka hN
 go_loopw [13] (λ i wr=>∃ k:Nat,k<=n.kids.length/\i=.int .i64 k/\(n.kids.take k).Nodup/\(∀ x ∈ n.kids.take k,1<=x/\x<=a0)/\(∃ D,Met D (n.kids.take k)/\wr.ownsMap Try.prog 3 (plainElem (H:=Unit) Try.prog 3) (w.heap.size+2) k D)/\Keeps Nob w wr/\Blk wr w.heap.size 75 #[.int .i64 n.lvl,.slice X1 n.high.length k1,.int .i64 n.right,.slice X3 n.keys.length k3,.slice X4 n.vals.length k4,.slice X5 n.kids.length k5]/\Blk wr (w.heap.size+1) 23 #[.int .i64 a0,.int .i64 a1,.int .i64 a2,.int .i64 a3,.int .i64 a4]) (λ i _=>n.kids.length-(intOf i).toNat)
 case atStart=>exact ⟨0,Nat.zero_le _,rfl,by simp,by simp,⟨_,Met.nil,OM0.out⟩,K0.out _ _ _,BN0.out,BC0.out⟩
 obtain ⟨k,hk,rfl,hnd,hin,⟨D,hmet,hown⟩,hkr,hbn,hbc⟩:=hrel
 rcases Nat.lt_or_ge k n.kids.length with hlt|hlt
 ·obtain ⟨kid,hkid⟩:∃ x,n.kids[k]?=some x:=⟨_,List.getElem?_eq_getElem hlt⟩
  obtain ⟨ad,rfl,_,hc⟩:=HN0.out.2.kids.cells hlt
  have q0:wr.cell? (ad.add k)=some (.int .i64 kid):=hkr.cell (hc k kid hkid) id
  have hkey:keyOf Try.prog 3 (.int .i64 kid)=some (.int .i64 kid):=keyOf_int_mk Try.underlying3 (HW.out kid (List.mem_of_getElem? hkid))
  have HT:=Hd (take_snocC n.kids k kid hkid)
  have HMEM:Hid (kid ∈ n.kids):=List.mem_of_getElem? hkid
  have HND:=Hd hnd
  have HIN:=Hd hin
  have HMET:=Hd hmet
  have HOWN:=Hd hown
  have HK:=Hd hkr
  have HBN:=Hd hbn
  have HBC:=Hd hbc
  have HKID:Hid (n.kids[k]?=some kid):=hkid
  clear hkid hc hnd hin hmet hown hkr hbn hbc
  have hs2:w.heap.size+2≠w.heap.size:=by omega
  by_cases hmem:kid ∈ n.kids.take k
  ·have hat0:=HMET.out.2 kid
   rw [if_pos hmem] at hat0
   have HA0:=Hd hat0
   have HMM:=Hd hmem
   clear hat0 hmem
   go_wp2_with (first
    | (at_lookup;refine wpList_lookup_own_int _ rfl _ _ 93 rfl 3 3 .i64 Try.lawInt Try.underlying93 Try.underlying3 (Try.zeroInt _) (w.heap.size+2) _ _ rfl HOWN.out _ _ rfl hkey ?_;intro c hat hwc;have hcc:=lit_inj (hat.symm.trans HA0.out);subst hcc;clear hat hwc)
    | (at_mapUpdate;refine wpList_mapUpdate_own _ rfl _ _ _ 93 rfl 3 3 Try.lawInt Try.underlying93 _ (w.heap.size+2) _ _ rfl HOWN.out (by unfold maxLen;omega) _ _ _ rfl rfl hkey (.lit (.int .i64 2)) [] (plainElem_int Try.underlying3 (by decide)) ?_;intro w1 hown1 hgrow1;have hk1:Keeps (λ b=>b=w.heap.size+2) wr w1:=Keeps.grown hgrow1 (λ j hj=>by injection hj with hj;exact hj.symm);replace HOWN:=Hd hown1;replace HA0:=Hd (atKey_put_same HMET.out.1 (key_int kid) (.lit (.int .i64 2)) (.lit (.int .i64 0)));replace HBN:=Hd (HBN.out.keeps hk1 (by show ¬_=_;omega));replace HBC:=Hd (HBC.out.keeps hk1 (by show ¬_=_;omega));replace HK:=Hd (HK.out.trans hk1 (λ b hb e=>by have h2:b=_:=e;omega));have qc:=HBC.out.cell 0;clear hown1 hgrow1 hk1))
   go_ret
   refine ⟨?_,HK.out⟩
   have:res=false:=by
    rw [<-HR.out]
    unfold innerOk
    rw [kidsFine_false (λ hh=>?_)]
    ·rfl
    have h1:=hh.1
    rw [<-List.take_append_drop (k+1) n.kids,HT.out] at h1
    have h2:=(List.nodup_append.1 (List.nodup_append.1 h1).1).2.2 kid HMM.out kid (by simp)
    exact h2 rfl
   rw [this];rfl
  ·have hat0:=HMET.out.2 kid
   rw [if_neg hmem] at hat0
   have HA0:=Hd hat0
   have HMM:=Hd hmem
   clear hat0 hmem
   obtain ⟨bb,hbb⟩:∃ b,decide (1<=kid/\kid<=a0)=b:=⟨_,rfl⟩
   have HBB:=Hd hbb
   clear hbb
   cases bb
   ·go_wp2_with (first
     | (at_lookup;refine wpList_lookup_own_int _ rfl _ _ 93 rfl 3 3 .i64 Try.lawInt Try.underlying93 Try.underlying3 (Try.zeroInt _) (w.heap.size+2) _ _ rfl HOWN.out _ _ rfl hkey ?_;intro c hat hwc;have hcc:=lit_inj (hat.symm.trans HA0.out);subst hcc;clear hat hwc)
     | (at_mapUpdate;refine wpList_mapUpdate_own _ rfl _ _ _ 93 rfl 3 3 Try.lawInt Try.underlying93 _ (w.heap.size+2) _ _ rfl HOWN.out (by unfold maxLen;omega) _ _ _ rfl rfl hkey (.lit (.int .i64 1)) [] (plainElem_int Try.underlying3 (by decide)) ?_;intro w1 hown1 hgrow1;have hk1:Keeps (λ b=>b=w.heap.size+2) wr w1:=Keeps.grown hgrow1 (λ j hj=>by injection hj with hj;exact hj.symm);replace HOWN:=Hd hown1;replace HA0:=Hd (atKey_put_same HMET.out.1 (key_int kid) (.lit (.int .i64 1)) (.lit (.int .i64 0)));replace HBN:=Hd (HBN.out.keeps hk1 (by show ¬_=_;omega));replace HBC:=Hd (HBC.out.keeps hk1 (by show ¬_=_;omega));replace HK:=Hd (HK.out.trans hk1 (λ b hb e=>by have h2:b=_:=e;omega));have qc:=HBC.out.cell 0;clear hown1 hgrow1 hk1)
     | (go_at_call 70;refine (betweenP _ _ _ _).mono ?_;rintro e w2 ⟨rfl,rfl⟩;rw [HBB.out]))
    go_ret
    refine ⟨?_,HK.out⟩
    have:res=false:=by
     rw [<-HR.out]
     unfold innerOk
     rw [kidsFine_false (λ hh=>?_)]
     ·rfl
     exact absurd (decide_eq_true (hh.2 kid HMEM.out)) (by rw [HBB.out];decide)
    rw [this];rfl
   ·go_wp2_with (first
     | (at_lookup;refine wpList_lookup_own_int _ rfl _ _ 93 rfl 3 3 .i64 Try.lawInt Try.underlying93 Try.underlying3 (Try.zeroInt _) (w.heap.size+2) _ _ rfl HOWN.out _ _ rfl hkey ?_;intro c hat hwc;have hcc:=lit_inj (hat.symm.trans HA0.out);subst hcc;clear hat hwc)
     | (at_mapUpdate;refine wpList_mapUpdate_own _ rfl _ _ _ 93 rfl 3 3 Try.lawInt Try.underlying93 _ (w.heap.size+2) _ _ rfl HOWN.out (by unfold maxLen;omega) _ _ _ rfl rfl hkey (.lit (.int .i64 1)) [] (plainElem_int Try.underlying3 (by decide)) ?_;intro w1 hown1 hgrow1;have hk1:Keeps (λ b=>b=w.heap.size+2) wr w1:=Keeps.grown hgrow1 (λ j hj=>by injection hj with hj;exact hj.symm);replace HOWN:=Hd hown1;replace HA0:=Hd (atKey_put_same HMET.out.1 (key_int kid) (.lit (.int .i64 1)) (.lit (.int .i64 0)));replace HBN:=Hd (HBN.out.keeps hk1 (by show ¬_=_;omega));replace HBC:=Hd (HBC.out.keeps hk1 (by show ¬_=_;omega));replace HK:=Hd (HK.out.trans hk1 (λ b hb e=>by have h2:b=_:=e;omega));have qc:=HBC.out.cell 0;clear hown1 hgrow1 hk1)
     | (go_at_call 70;refine (betweenP _ _ _ _).mono ?_;rintro e w2 ⟨rfl,rfl⟩;rw [HBB.out]))
    go_roundw
    case rel=>
     refine ⟨k+1,by omega,by go_num,?_,?_,⟨_,?_,HOWN.out⟩,HK.out,HBN.out,HBC.out⟩
     ·rw [HT.out];exact nodup_snoc HND.out HMM.out
     ·rw [HT.out]
      intro x hx
      rcases List.mem_append.1 hx with hx|hx
      ·exact HIN.out x hx
      ·simp at hx;subst hx;exact of_decide_eq_true HBB.out
     ·rw [HT.out];exact HMET.out.step kid
    case measure=>simp [intOf];omega
 ·obtain rfl:k=n.kids.length:=by omega
  rw [List.take_length] at hnd hin
  have hfine:=kidsFine_true hnd hin
  have HK:=Hd hkr
  obtain ⟨bA,hA⟩:∃ b,((n.vals.length:Int)==0)=b:=⟨_,rfl⟩
  obtain ⟨bB,hB⟩:∃ b,((n.kids.length:Int)==(n.keys.length:Int)+1)=b:=⟨_,rfl⟩
  obtain ⟨bC,hC⟩:∃ b,decide ((n.kids.length:Int)<=a2)=b:=⟨_,rfl⟩
  have eA:decide (n.vals.length=0)=bA:=by rw [<-hA];apply Bool.eq_iff_iff.2;simp<;>omega
  have eB:decide (n.kids.length=n.keys.length+1)=bB:=by rw [<-hB];apply Bool.eq_iff_iff.2;simp<;>omega
  have hr:=HR.out
  unfold innerOk at hr
  rw [hfine,eA,eB,hC] at hr
  have HR2:=Hd hr
  have q:=λ i=>hbn.cell i
  have q2:=λ i=>hbc.cell i
  clear hnd hin hmet hown hkr hbn hbc hfine eA eB hr HR
  have HAH:=Hd hA
  have HBH:=Hd hB
  have HCH:=Hd hC
  clear hA hB hC
  cases bA<;>cases bB<;>cases bC
  all_goals
   have hA:=HAH.out
   have hB:=HBH.out
   have hC:=HCH.out
   go_wp2
   go_ret
   exact ⟨by rw [<-HR2.out];rfl,HK.out⟩
end
end Go.Proofs.Ytjcgphhpaenjkaa

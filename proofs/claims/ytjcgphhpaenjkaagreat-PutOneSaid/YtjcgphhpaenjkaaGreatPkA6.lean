import Derived.Test.YtjcgphhpaenjkaaGreatPkA5
import Derived.Test.YtjcgphhpaenjkaaGreatPkA0
import Derived.BigQuiet
import Derived.Maps.OwnOps
import Derived.Maps.Views
set_option maxHeartbeats 64000000
set_option maxRecDepth 100000
set_option linter.unusedVariables false
namespace Go.Proofs.YtjcgphhpaenjkaaGreat
open Go.RowKit
structure E1 where
 key:List UInt8
 val:List UInt8
def IsE1 (w:World) (lo:Nat) (cs:Array Value) (o:E1):Prop:=
 ∃ kv vv,cs=#[kv,vv]/\(Byts w (λ b=>b < lo) kv o.key/\Byts w (λ b=>b < lo) vv o.val)/\Sm BG 1 o.key.length/\Sm BG 1 o.val.length
abbrev E1At:=RowAt 2 48 IsE1
end Go.Proofs.YtjcgphhpaenjkaaGreat
namespace Go.Proofs.YtjcgphhpaenjkaaGreat
open Go.ChangeShapes Go.WideShapes Go.ChangeAt Go.RowKit
section
variable {H:Type} {enc:TypeId × Value->H} {w:World} {base:Nat} {spare:Nat->Bool} {held:Bool} {fuel:Nat} {cs:List Value} {x:DataW H × List MemPlace}
theorem open_e1 (h:DataW.trod enc Tryz.prog w base spare held fuel 46 cs=some x) (hsz:Sz 46 x.1):∃ o,IsE1 w w.heap.size cs.toArray o/\cs.length=2:=by
 obtain ⟨xs,m,_,rfl,hl,hlen,hf⟩:=DataW.trod_struct Tryz.underlying46 h
 have hcl:Tryz.prog.cellsOf 46=2:=by kernel_rfl
 have k_txt:Tryz.prog.cellsOf 29=1:=by kernel_rfl
 rw [hcl] at hl
 match cs,hl with
 | [d0,d1],_=>
  have hs:xs.length=2:=hlen
  have e0:DataW.trod enc Tryz.prog w base spare held m 29 (([d0,d1].drop 0).take (Tryz.prog.cellsOf 29))=xs[0]?:=hf 0 _ rfl
  rw [k_txt] at e0
  replace e0:=e0.trans (List.getElem?_eq_getElem (by omega))
  have e1:DataW.trod enc Tryz.prog w base spare held m 29 (([d0,d1].drop 1).take (Tryz.prog.cellsOf 29))=xs[1]?:=hf 1 _ rfl
  rw [k_txt] at e1
  replace e1:=e1.trans (List.getElem?_eq_getElem (by omega))
  obtain ⟨n0,w0,s0⟩:=open_txt e0
  obtain ⟨n1,w1,s1⟩:=open_txt e1
  refine ⟨⟨n0,n1⟩,⟨_,_,rfl,⟨w0,w1⟩,?_,?_⟩,rfl⟩
  ·exact s0 (sz_struct hsz Tryz.underlying46 (j:=0) rfl (by rw [List.getElem?_map,List.getElem?_eq_getElem (by omega)];rfl))
  ·exact s1 (sz_struct hsz Tryz.underlying46 (j:=1) rfl (by rw [List.getElem?_map,List.getElem?_eq_getElem (by omega)];rfl))
theorem open_e1s {v:Value} (h:DataW.trod enc Tryz.prog w base spare held fuel 35 [v]=some x) (hsz:Sz 35 x.1):∃ os,E1At w w.heap.size v os:=
 open_row Tryz.underlying35 (by kernel_rfl) (by kernel_rfl) (by decide) (by decide) (λ _ _ _ h hz=>open_e1 h hz) h hsz
end
end Go.Proofs.YtjcgphhpaenjkaaGreat
namespace Go.Proofs.YtjcgphhpaenjkaaGreat
open Go.RowKit
def Rise (l:List (List UInt8)):Prop:=∀ (j:Nat) a b,l[j]?=some a->l[j+1]?=some b->cmp a b < 0
def rises:List (List UInt8)->Bool
 | []=>true
 | [_]=>true
 | a::b::l=>decide (cmp a b < 0)&&rises (b::l)
theorem rises_iff:∀ (l:List (List UInt8)),rises l=true ↔ Rise l
 | []=>⟨λ _ j a b h=>by simp at h,λ _=>rfl⟩
 | [_]=>⟨λ _ j a b _ h=>by simp at h,λ _=>rfl⟩
 | a::b::l=>by
  unfold rises
  rw [Bool.and_eq_true,decide_eq_true_eq,rises_iff (b::l)]
  constructor
  ·rintro ⟨h1,h2⟩ j x y hx hy
   cases j with
   | zero=>simp at hx hy;subst hx hy;exact h1
   | succ j=>exact h2 j x y (by simpa using hx) (by simpa using hy)
  ·intro h
   exact ⟨h 0 a b rfl rfl,λ j x y hx hy=>h (j+1) x y (by simpa using hx) (by simpa using hy)⟩
section
variable {S T:Nat->Prop} {w:World} {a:Value} {ls:List (List UInt8)}
def right (n:Nd):Bool:=if n.lvl=0 then rises n.keys&&(decide (n.vals.length=n.keys.length)&&decide (n.kids.length=0)) else rises n.keys&&(decide (0 < n.lvl)&&(decide (n.vals.length=0)&&decide (n.kids.length=n.keys.length+1)))
def leaf (n:Nd):Bool:=right n&&decide (n.lvl=0)
def inner (n:Nd):Bool:=right n&&decide (0 < n.lvl)
variable {c0 c1 c2 c3 c4 c5:Value} {n:Nd}
end
def confOk (c0 c1 c2 c3 c4:Int):Bool:=decide (1<=c0/\c0<=65536)&&(decide (2<=c1/\c1<=64)&&(decide (3<=c2/\c2<=64)&&(decide (1<=c3/\c3<=c1)&&decide (1<=c4/\c4<=64))))
def confE (c0 c1 c2 c3 c4:Int):Int:=if confOk c0 c1 c2 c3 c4 then 0 else 1
theorem betweenP (n lo hi:Int) (w:World):Calls Tryz.prog 214 #[.int .i64 n,.int .i64 lo,.int .i64 hi] w λ e w'=>e=.returned (.bool (decide (lo<=n/\n<=hi)))/\w'=w:=by
 by_cases h1:lo<=n
 ·by_cases h2:n<=hi
  ·go_enter Tryz.func214,Tryz.ntmps214
   go_wp2
   go_ret
   exact ⟨by simp [h1,h2],rfl⟩
  ·go_enter Tryz.func214,Tryz.ntmps214
   go_wp2
   go_ret
   exact ⟨by simp [h2],rfl⟩
 ·go_enter Tryz.func214,Tryz.ntmps214
  go_wp2
  go_ret
  exact ⟨by simp;intro _;omega,rfl⟩
theorem confP (c0 c1 c2 c3 c4:Int) (w:World):Calls Tryz.prog 188 #[.agg #[.int .i64 c0,.int .i64 c1,.int .i64 c2,.int .i64 c3,.int .i64 c4]] w λ e w'=>e=.returned (.int .i64 (confE c0 c1 c2 c3 c4))/\Keeps Nob w w':=by
 unfold confE confOk
 generalize h0:decide (1<=c0/\c0<=65536)=b0
 generalize h1:decide (2<=c1/\c1<=64)=b1
 generalize h2:decide (3<=c2/\c2<=64)=b2
 generalize h3:decide (1<=c3/\c3<=c1)=b3
 generalize h4:decide (1<=c4/\c4<=64)=b4
 have H0:=Hd h0
 have H1:=Hd h1
 have H2:=Hd h2
 have H3:=Hd h3
 have H4:=Hd h4
 clear h0 h1 h2 h3 h4
 cases b0<;>cases b1<;>cases b2<;>cases b3<;>cases b4
 all_goals
  go_enter Tryz.func188,Tryz.ntmps188
  go_wp2_with (go_at_call 214;refine (betweenP _ _ _ _).mono ?_;rintro e w1 ⟨rfl,rfl⟩;(first|rw [H0.out]|rw [H1.out]|rw [H2.out]|rw [H3.out]|rw [H4.out]))
  go_ret
  exact ⟨rfl,Keeps.alloc _ _ _⟩
section
variable {S T:Nat->Prop} {w:World} {a:Value} {ls:List (List UInt8)}
theorem risingP (h1:Txts w S a ls):Calls Tryz.prog 228 #[a] w λ e w'=>e=.returned (.bool (rises ls))/\Keeps Nob w w':=by
 obtain ⟨A,c,rfl,hn1,hm1⟩:=h1.form
 have hz1:ls.length<=9223372036854775807:=Nat.le_trans hn1 hm1
 have hz2:c<=9223372036854775807:=hm1
 have H1:=Hd h1
 clear h1 hm1
 by_cases hz:ls.length=0
 ·have hz':ls=[]:=List.eq_nil_of_length_eq_zero hz
  subst hz'
  go_enter Tryz.func228,Tryz.ntmps228
  go_wp2
  all_goals
   go_loopw [10] (λ i wr=>i=.int .i64 0/\Keeps Nob w wr) (λ _ _=>0)
   case atStart=>exact ⟨rfl,Keeps.refl _ _⟩
   obtain ⟨rfl,hK⟩:=hrel
   have HK:=Hd hK
   clear hK
   go_wp2
   go_ret
   exact ⟨rfl,HK.out⟩
 obtain ⟨ad,rfl,_,hcells⟩:=H1.out.cells (i:=0) (by omega)
 have HCE:=Hd hcells
 clear hcells
 obtain ⟨L,hL⟩:∃ L,ls.length=L+1:=⟨ls.length-1,by omega⟩
 have HL:=Hd hL
 rw [hL] at hn1 hz1 ⊢
 clear hL hz
 have t1:¬((L:Int)+1) < 1:=by omega
 have t2:(1:Int)<=(L:Int)+1:=by omega
 by_cases hc1:c=1
 all_goals
  go_enter Tryz.func228,Tryz.ntmps228
  go_wp2
  go_loopw [10] (λ i wr=>∃ k:Nat,k<=L/\i=.int .i64 k/\(∀ (j:Nat) a b,j < k->ls[j]?=some a->ls[j+1]?=some b->cmp a b < 0)/\Keeps Nob w wr) (λ i _=>L-(intOf i).toNat)
  case atStart=>exact ⟨0,Nat.zero_le _,rfl,λ j a b h=>absurd h (Nat.not_lt_zero _),Keeps.refl _ _⟩
  obtain ⟨k,hk,rfl,hup,hK⟩:=hrel
  have HU:=Hd hup
  have HK:=Hd hK
  clear hup hK
  rcases Nat.lt_or_ge k L with hlt|hlt
  ·obtain ⟨x,hx⟩:∃ x,ls[k]?=some x:=⟨_,List.getElem?_eq_getElem (by have:=HL.out;omega)⟩
   obtain ⟨y,hy⟩:∃ y,ls[k+1]?=some y:=⟨_,List.getElem?_eq_getElem (by have:=HL.out;omega)⟩
   obtain ⟨u,hu,hbu⟩:=HCE.out k x hx
   obtain ⟨v,hv,hbv⟩:=HCE.out (k+1) y hy
   have hu':wr.cell? (ad.add k)=some u:=HK.out.cell hu id
   have hv':wr.cell? ⟨ad.block,ad.off+(k+1),none⟩=some v:=by have:=HK.out.cell hv id;unfold Addr.add at this;simpa using this
   have hwr:IntKind.i64.wrap ((k:Int)+1)=(k:Int)+1:=by rw [IntKind.wrap_i64];omega
   have hp1:(k:Int) < (L:Int)+1:=by omega
   have hp2:0<=(k:Int)+1/\(k:Int)+1 < (L:Int)+1:=by omega
   have htn:((k:Int)+1).toNat=k+1:=by omega
   have HX:=Hd hx
   have HY:=Hd hy
   have HC:=Hd (cmpP ((hbu.keeps HK.out (λ _ _ _=>id)).keeps (Keeps.drew Nob wr) (λ _ _ _=>id)) ((hbv.keeps HK.out (λ _ _ _=>id)).keeps (Keeps.drew Nob wr) (λ _ _ _=>id)))
   clear hu hv hbu hbv hx hy
   go_wp2
   refine rC_ [0,1,2,3,4,5,6,7,8,9,10] 99 (λ W=>W.cell? (ad.add k)=some u/\W.cell? ⟨ad.block,ad.off+(k+1),none⟩=some v) ⟨hu',hv'⟩ ?_
   iterate 9
    refine cR_ (v:=?_) rfl ?_ ?_
    rotate_left
    ·intro W hW
     try (obtain ⟨h1,h2⟩:_/\_:=hW)
     go_simp
     try simp only [hwr,if_pos hp1,if_pos hp2,htn]
     try rfl
    simp only [Act.put,sa_,sb_,sc_]
   refine cA_ rfl ?_
   rcases cmp_cases x y with hcm|hcm|hcm
   all_goals
    have HCM:=Hd hcm
    clear hcm
    go_wp2_with (go_at_call 88;refine HC.out.mono ?_;rintro e w1 ⟨rfl,rfl⟩;rw [HCM.out])
    refine ⟨.inr ⟨hu',hv'⟩,?_⟩
    refine cR_ (v:=?_) rfl ?_ ?_
    rotate_left
    ·intro W hW
     go_simp
     try rfl
    simp only [Act.put,sa_,sb_,sc_]
    refine wpCanon_nil ?_
    go_wp2
   ·go_roundw
    case rel=>
     refine ⟨k+1,by omega,by go_num,λ j a b hj ha hb=>?_,HK.out.drew'⟩
     by_cases hjm:j < k
     ·exact HU.out j a b hjm ha hb
     ·have:j=k:=by omega
      subst this
      have e1:=ha.symm.trans HX.out
      have e3:=hb.symm.trans HY.out
      injection e1 with e1
      injection e3 with e3
      subst e1 e3
      rw [HCM.out]
      decide
    case measure=>simp [intOf];omega
   all_goals
    go_ret
    refine ⟨?_,HK.out.drew'⟩
    have:rises ls=false:=by
     rcases hr:rises ls with _|_
     ·rfl
     ·have:=(rises_iff ls).1 hr k x y HX.out HY.out
      rw [HCM.out] at this
      exact absurd this (by decide)
    rw [this];rfl
  ·go_wp2
   go_ret
   refine ⟨?_,HK.out⟩
   have:rises ls=true:=(rises_iff ls).2 (λ j a b ha hb=>HU.out j a b (by have:=(List.getElem?_eq_some_iff.1 hb).1;have:=HL.out;omega) ha hb)
   rw [this];rfl
end
section
variable {S T:Nat->Prop} {w:World} {a:Value} {ls:List (List UInt8)}
def keyBad (high x:List UInt8):Bool:=!(decide ((1:Int)<=(x.length:Int)/\(x.length:Int)<=64))||beyond high x
def valBad (x:List UInt8):Bool:=decide ((256:Int) < (x.length:Int))
theorem keyF {B:Nat} {c0 c1 c2 c3 c4 c5 u:Value} {high x:List UInt8} (hb:Blk w B 95 #[c0,c1,c2,c3,c4,c5]) (h1:Byts w S c1 high) (h2:Byts w T u x) :
  Calls Tryz.prog 230 #[u,.pointer (some ⟨B,0,none⟩)] w λ e w'=>e=.returned (.bool (keyBad high x))/\Keeps Nob w w':=by
 obtain ⟨A,c,rfl,hn,hm⟩:=h2.form
 have hz:x.length<=9223372036854775807:=Nat.le_trans hn hm
 have HC:=Hd (beyondP (c0:=c0) (c2:=c2) (c3:=c3) (c4:=c4) (c5:=c5) h1 h2)
 unfold keyBad
 obtain ⟨b1,hb1⟩:∃ b,decide ((1:Int)<=(x.length:Int)/\(x.length:Int)<=64)=b:=⟨_,rfl⟩
 obtain ⟨b2,hb2⟩:∃ b,beyond high x=b:=⟨_,rfl⟩
 rw [hb1,hb2]
 have HB1:=Hd hb1
 have HB2:=Hd hb2
 have q:=λ i=>hb.cell i
 clear hb1 hb2 h1 h2 hb hn hm
 cases b1<;>cases b2
 all_goals
  go_enter Tryz.func230,Tryz.ntmps230
  go_wp2_with (first
   | (go_at_call 214;refine (betweenP _ _ _ _).mono ?_;rintro e w1 ⟨rfl,rfl⟩;rw [HB1.out])
   | (go_at_call 231;refine HC.out.mono ?_;rintro e w1 ⟨rfl,hk⟩;have HK:=Hd hk;clear hk;rw [HB2.out]))
  go_ret
  first
   | exact ⟨rfl,HK.out⟩
   | exact ⟨rfl,Keeps.refl _ _⟩
theorem valF {u:Value} {x:List UInt8} (h2:Byts w T u x) :
  Calls Tryz.prog 239 #[u] w λ e w'=>e=.returned (.bool (valBad x))/\Keeps Nob w w':=by
 obtain ⟨A,c,rfl,hn,hm⟩:=h2.form
 clear h2
 unfold valBad
 obtain ⟨b1,hb1⟩:∃ b,decide ((256:Int) < (x.length:Int))=b:=⟨_,rfl⟩
 rw [hb1]
 cases b1
 all_goals
  go_enter Tryz.func239,Tryz.ntmps239
  go_wp2
  go_ret
  exact ⟨rfl,Keeps.refl _ _⟩
theorem indexC {q:Option Addr} {p:List UInt8->Bool} (h:Txts w S a ls) (hp:∀ W u x,Keeps Nob w W->Byts W S u x->Calls Tryz.prog 230 #[u,.pointer q] W λ e w'=>e=.returned (.bool (p x))/\Keeps Nob W w') :
  Calls Tryz.prog 238 #[a,.func (.func 230) #[] #[.pointer q]] w λ e w'=>∃ r:Int,e=.returned (.int .i64 r)/\decide (0<=r)=ls.any p/\Keeps Nob w w':=by
 obtain ⟨A,c,rfl,hn,hm⟩:=h.form
 have hz:ls.length<=9223372036854775807:=Nat.le_trans hn hm
 have H:=Hd h
 have HP:=Hd hp
 clear h hp hn hm
 go_enter Tryz.func238,Tryz.ntmps238
 go_wp2
 go_loopw [8] (λ i wr=>∃ k:Nat,k<=ls.length/\i=.int .i64 k/\(ls.take k).any p=false/\Keeps Nob w wr) (λ i _=>ls.length-(intOf i).toNat)
 case atStart=>exact ⟨0,Nat.zero_le _,rfl,rfl,Keeps.refl _ _⟩
 obtain ⟨k,hk,rfl,hany,hK⟩:=hrel
 have HA:=Hd hany
 have HK:=Hd hK
 clear hany hK
 rcases Nat.lt_or_ge k ls.length with hlt|hlt
 ·obtain ⟨x,hx⟩:∃ x,ls[k]?=some x:=⟨_,List.getElem?_eq_getElem hlt⟩
  obtain ⟨ad,rfl,_,hc⟩:=H.out.cells hlt
  obtain ⟨u,hu,hbu⟩:=hc k x hx
  have hu':wr.cell? (ad.add k)=some u:=HK.out.cell hu id
  have HC:=Hd (HP.out wr u x HK.out (hbu.keeps HK.out (λ _ _ _=>id)))
  have HX:=Hd hx
  clear hc hu hbu hx
  obtain ⟨b,hb⟩:∃ b,p x=b:=⟨_,rfl⟩
  have HB:=Hd hb
  clear hb
  cases b
  ·go_wp2_with (go_at_call 230;refine HC.out.mono ?_;rintro e w1 ⟨rfl,hk1⟩;have HK1:=Hd hk1;clear hk1;rw [HB.out])
   go_roundw
   case rel=>exact ⟨k+1,by omega,by go_num,by rw [List.take_add_one,HX.out,List.any_append,HA.out];simp [HB.out],HK.out.trans HK1.out (λ _ _ h=>h)⟩
   case measure=>simp [intOf];omega
  ·go_wp2_with (go_at_call 230;refine HC.out.mono ?_;rintro e w1 ⟨rfl,hk1⟩;have HK1:=Hd hk1;clear hk1;rw [HB.out])
   go_ret
   refine ⟨k,rfl,?_,HK.out.trans HK1.out (λ _ _ h=>h)⟩
   have:ls.any p=true:=List.any_eq_true.2 ⟨x,List.mem_of_getElem? HX.out,HB.out⟩
   rw [this]
   exact decide_eq_true (by omega)
 ·obtain rfl:k=ls.length:=by omega
  go_wp2
  go_ret
  refine ⟨-1,rfl,?_,HK.out⟩
  have h:=HA.out
  rw [List.take_length] at h
  rw [h];rfl
theorem containsC {q:Option Addr} {p:List UInt8->Bool} (h:Txts w S a ls) (hp:∀ W u x,Keeps Nob w W->Byts W S u x->Calls Tryz.prog 230 #[u,.pointer q] W λ e w'=>e=.returned (.bool (p x))/\Keeps Nob W w') :
  Calls Tryz.prog 229 #[a,.func (.func 230) #[] #[.pointer q]] w λ e w'=>e=.returned (.bool (ls.any p))/\Keeps Nob w w':=by
 have HC:=Hd (indexC h hp)
 clear h hp
 go_enter Tryz.func229,Tryz.ntmps229
 go_wp2_with (go_at_call 238;refine HC.out.mono ?_;rintro e w1 ⟨r,rfl,hr,hk1⟩;have HR:=Hd hr;have HK1:=Hd hk1;clear hk1 hr)
 go_ret
 refine ⟨?_,HK1.out⟩
 rw [<-HR.out];rfl
theorem indexL {p:List UInt8->Bool} (h:Txts w S a ls) (hp:∀ W u x,Keeps Nob w W->Byts W S u x->Calls Tryz.prog 239 #[u] W λ e w'=>e=.returned (.bool (p x))/\Keeps Nob W w') :
  Calls Tryz.prog 238 #[a,.func (.func 239) #[] #[]] w λ e w'=>∃ r:Int,e=.returned (.int .i64 r)/\decide (0<=r)=ls.any p/\Keeps Nob w w':=by
 obtain ⟨A,c,rfl,hn,hm⟩:=h.form
 have hz:ls.length<=9223372036854775807:=Nat.le_trans hn hm
 have H:=Hd h
 have HP:=Hd hp
 clear h hp hn hm
 go_enter Tryz.func238,Tryz.ntmps238
 go_wp2
 go_loopw [8] (λ i wr=>∃ k:Nat,k<=ls.length/\i=.int .i64 k/\(ls.take k).any p=false/\Keeps Nob w wr) (λ i _=>ls.length-(intOf i).toNat)
 case atStart=>exact ⟨0,Nat.zero_le _,rfl,rfl,Keeps.refl _ _⟩
 obtain ⟨k,hk,rfl,hany,hK⟩:=hrel
 have HA:=Hd hany
 have HK:=Hd hK
 clear hany hK
 rcases Nat.lt_or_ge k ls.length with hlt|hlt
 ·obtain ⟨x,hx⟩:∃ x,ls[k]?=some x:=⟨_,List.getElem?_eq_getElem hlt⟩
  obtain ⟨ad,rfl,_,hc⟩:=H.out.cells hlt
  obtain ⟨u,hu,hbu⟩:=hc k x hx
  have hu':wr.cell? (ad.add k)=some u:=HK.out.cell hu id
  have HC:=Hd (HP.out wr u x HK.out (hbu.keeps HK.out (λ _ _ _=>id)))
  have HX:=Hd hx
  clear hc hu hbu hx
  obtain ⟨b,hb⟩:∃ b,p x=b:=⟨_,rfl⟩
  have HB:=Hd hb
  clear hb
  cases b
  ·go_wp2_with (go_at_call 239;refine HC.out.mono ?_;rintro e w1 ⟨rfl,hk1⟩;have HK1:=Hd hk1;clear hk1;rw [HB.out])
   go_roundw
   case rel=>exact ⟨k+1,by omega,by go_num,by rw [List.take_add_one,HX.out,List.any_append,HA.out];simp [HB.out],HK.out.trans HK1.out (λ _ _ h=>h)⟩
   case measure=>simp [intOf];omega
  ·go_wp2_with (go_at_call 239;refine HC.out.mono ?_;rintro e w1 ⟨rfl,hk1⟩;have HK1:=Hd hk1;clear hk1;rw [HB.out])
   go_ret
   refine ⟨k,rfl,?_,HK.out.trans HK1.out (λ _ _ h=>h)⟩
   have:ls.any p=true:=List.any_eq_true.2 ⟨x,List.mem_of_getElem? HX.out,HB.out⟩
   rw [this]
   exact decide_eq_true (by omega)
 ·obtain rfl:k=ls.length:=by omega
  go_wp2
  go_ret
  refine ⟨-1,rfl,?_,HK.out⟩
  have h:=HA.out
  rw [List.take_length] at h
  rw [h];rfl
theorem containsL {p:List UInt8->Bool} (h:Txts w S a ls) (hp:∀ W u x,Keeps Nob w W->Byts W S u x->Calls Tryz.prog 239 #[u] W λ e w'=>e=.returned (.bool (p x))/\Keeps Nob W w') :
  Calls Tryz.prog 229 #[a,.func (.func 239) #[] #[]] w λ e w'=>e=.returned (.bool (ls.any p))/\Keeps Nob w w':=by
 have HC:=Hd (indexL h hp)
 clear h hp
 go_enter Tryz.func229,Tryz.ntmps229
 go_wp2_with (go_at_call 238;refine HC.out.mono ?_;rintro e w1 ⟨r,rfl,hr,hk1⟩;have HR:=Hd hr;have HK1:=Hd hk1;clear hk1 hr)
 go_ret
 refine ⟨?_,HK1.out⟩
 rw [<-HR.out];rfl
end
end Go.Proofs.YtjcgphhpaenjkaaGreat
namespace Go.Proofs.YtjcgphhpaenjkaaGreat
open Go.RowKit Go.Maps
def leafOk (n:Nd) (leaf:Int):Bool:=decide (n.vals.length=n.keys.length)&&(decide ((n.keys.length:Int)<=leaf)&&(decide (n.kids.length=0)&&!(n.vals.any valBad)))
def kidsFine (l:List Int) (nodes:Int):Bool:=decide (l.Nodup)&&l.all (λ k=>decide (1<=k/\k<=nodes))
def innerOk (n:Nd) (nodes inner:Int):Bool:=kidsFine n.kids nodes&&(decide (n.vals.length=0)&&(decide (n.kids.length=n.keys.length+1)&&decide ((n.kids.length:Int)<=inner)))
def K64 (n:Int):Prop:=(Lit.int .i64 n).wf=true
section
variable {S T:Nat->Prop} {w:World} {c0 c1 c2 c3 c4 c5:Value} {n:Nd}
theorem leafP {a0 a1 a2 a3 a4:Int} (h:IsNd w S c0 c1 c2 c3 c4 c5 n):Calls Tryz.prog 233 #[.agg #[c0,c1,c2,c3,c4,c5],.agg #[.int .i64 a0,.int .i64 a1,.int .i64 a2,.int .i64 a3,.int .i64 a4]] w λ e w'=>e=.returned (.bool (leafOk n a1))/\Keeps Nob w w':=by
 obtain ⟨X1,k1,e1,_,_⟩:=h.1.high.form
 obtain ⟨X3,k3,e3,y3,z3⟩:=h.2.keys.form
 obtain ⟨X4,k4,e4,y4,z4⟩:=h.2.vals.form
 obtain ⟨X5,k5,e5,y5,z5⟩:=h.2.kids.form
 have e0:=h.1.lvl
 have e2:=h.1.right
 unfold iV at e0 e2
 subst e0 e1 e2 e3 e4 e5
 have HN0:=Hd h
 clear h y3 y4 y5 z3 z4 z5
 unfold leafOk
 obtain ⟨b,hb⟩:∃ b,n.vals.any valBad=b:=⟨_,rfl⟩
 rw [hb]
 have HB:=Hd hb
 clear hb
 have PRE:∀ (wa:World),Keeps Nob w wa->Calls Tryz.prog 229 #[.slice X4 n.vals.length k4,.func (.func 239) #[] #[]] wa λ e w'=>e=.returned (.bool b)/\Keeps Nob wa w':=λ wa hk=>by
  have:=containsL (p:=valBad) (HN0.out.keeps hk (λ _ _ _=>id)).2.vals (λ W u x hkW hx=>valF hx)
  rwa [HB.out] at this
 clear HN0 HB
 obtain ⟨bA,hA⟩:∃ b,((n.vals.length:Int)==(n.keys.length:Int))=b:=⟨_,rfl⟩
 obtain ⟨bB,hB⟩:∃ b,decide ((n.keys.length:Int)<=a1)=b:=⟨_,rfl⟩
 obtain ⟨bC,hC⟩:∃ b,((n.kids.length:Int)==0)=b:=⟨_,rfl⟩
 have eA:decide (n.vals.length=n.keys.length)=bA:=by rw [<-hA];apply Bool.eq_iff_iff.2;simp;omega
 have eC:decide (n.kids.length=0)=bC:=by rw [<-hC];apply Bool.eq_iff_iff.2;simp
 rw [eA,hB,eC]
 clear eA eC
 have HAH:=Hd hA
 have HBH:=Hd hB
 have HCH:=Hd hC
 clear hA hB hC
 cases bA<;>cases bB<;>cases bC<;>cases b
 all_goals
  go_enter Tryz.func233,Tryz.ntmps233
  go_wp2_with fail
  refine calls_at (λ wa hw=>?_)
  obtain ⟨N,hN⟩:∃ N,w.heap.size=N:=⟨_,rfl⟩
  have hka:Keeps Nob w wa:=by rw [hw];exact (Keeps.alloc _ _ _).alloc' _
  have BN:Blk wa N 95 #[.int .i64 n.lvl,.slice X1 n.high.length k1,.int .i64 n.right,.slice X3 n.keys.length k3,.slice X4 n.vals.length k4,.slice X5 n.kids.length k5]:=by rw [hw,<-hN];exact (Blk.new w _ _).alloc _
  have BC:Blk wa (N+1) 23 #[.int .i64 a0,.int .i64 a1,.int .i64 a2,.int .i64 a3,.int .i64 a4]:=by rw [hw,<-hN];exact Blk.new' (by simp) _ _
  rw [hN]
  have HBN:=Hd BN
  have HBC:=Hd BC
  have HKA:=Hd hka
  clear hw hN BN BC
  refine (PRE wa hka).mono ?_
  rintro e w1 ⟨rfl,hk1⟩
  have q:=λ i=>(HBN.out.keeps hk1 id).cell i
  have q2:=λ i=>(HBC.out.keeps hk1 id).cell i
  have HK:=Hd (HKA.out.trans hk1 (λ _ _ h=>h))
  clear hk1 hka PRE
  have hA:=HAH.out
  have hB:=HBH.out
  have hC:=HCH.out
  go_wp2
  go_ret
  exact ⟨rfl,HK.out⟩
end
end Go.Proofs.YtjcgphhpaenjkaaGreat

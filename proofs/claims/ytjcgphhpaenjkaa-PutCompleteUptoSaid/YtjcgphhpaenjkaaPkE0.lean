import Derived.Test.YtjcgphhpaenjkaaPkD9
import Derived.WalkMore
set_option maxHeartbeats 64000000
set_option maxRecDepth 100000
set_option linter.unusedVariables false
namespace Go.Proofs.Ytjcgphhpaenjkaa
open Go.RowKit Go.Maps
def lenS:Value->Nat
 | .slice _ n _=>n
 | _=>0
section
variable {w:World} {M D0:Nat->Prop} {p m:Nat} {slots:Value} {ids:List Nat} {A:Ar} {a0 a1 a2 a3 a4 first level:Int} {met0:List Int}
theorem pchainR {R:Ch × List Int × Rp} (h0:Fam w Nob [axOb M D0 p slots ids A,metOb m met0]) (hsm:∀ s ∈ A.sl,NdSm 0 s.nd) (hkw:∀ s ∈ A.sl,∀ k ∈ s.nd.kids,K64 k) (hmet:MetA A met0) (hR:chainM A (chkM a0 a1 a2 a3 a4) level (A.sl.length+1-met0.length) first [] met0 []=R) :
  Calls Try.prog 56 #[pV p,.agg #[.int .i64 a0,.int .i64 a1,.int .i64 a2,.int .i64 a3,.int .i64 a4],.int .i64 first,.int .i64 level,.map (some m)] w λ e w'=>Keeps (λ x=>x=m) w w'/\((R.2.2.sound=true/\∃ lv ks D,e=.returned lv/\ks.map Lk.pr=R.1/\(∀ k ∈ ks,∃ s,A.get k.id=some s/\s.nd=k.nd)/\Own w' (Fresh w w') 90 8 lv ks.length (lkCells ks)/\(∀ k ∈ ks,IsLk w' D k)/\(∀ x,D x->Fresh w w' x/\lv.ownBlock≠some x)/\(metOb m R.2.1).P w')\/(R.2.2.sound=false/\e=.panicked [{v:=wrongV R.2.2.node R.2.2.err,recovered:=false}])):=by
 have H0:=Hd h0
 have HSM:=Hd hsm
 have HKW:=Hd hkw
 have HR:=Hd hR
 have HM:=Hd hmet
 clear h0 hsm hkw hmet hR
 unfold pV
 go_enter Try.func56,Try.ntmps56
 go_wp2
 go_step3
 go_wp2
 go_step3
 go_wp2
 refine code_at (λ w1 hw=>?_)
 obtain ⟨P6,hP6⟩:∃ N,w.heap.size=N:=⟨_,rfl⟩
 rw [hP6]
 have HP6:=Hd hP6
 have HF:Hid (Fam w1 Nob [axOb M D0 p slots ids A,metOb m met0,muBlk P6 23 #[.int .i64 a0,.int .i64 a1,.int .i64 a2,.int .i64 a3,.int .i64 a4],rowOb 90 8 (.slice none 0 0) 0 [],lkOb Nob [] (.slice none 0 0) [],noOb]):=by
  subst hP6
  rw [hw]
  have f1:=(H0.out.alloc' (t:=23) (cs:=#[.int .i64 a0,.int .i64 a1,.int .i64 a2,.int .i64 a3,.int .i64 a4]) rfl).nilRow 90 8
  have f2:=f1.add (o:=lkOb Nob [] (.slice none 0 0) []) (Keeps.refl _ _) ⟨λ k hk=>by simp at hk,SlR.nil _ _ _ _ (by decide)⟩ (λ x hx=>hx.elim) (λ x hx=>hx.elim)
  exact f2.addNo
 have K:Hid (Keeps (λ x=>x=m) w w1):=by
  show Keeps _ _ _
  rw [hw];exact Keeps.alloc _ _ _
 clear hw H0 hP6
 go_loopw [11,12,13] (λ lvv lowv idv wr=>∃ (ks:List Lk) (met:List Int) (low:List UInt8) (id:Int) (D:Nat->Prop) (o5:Ob),idv=.int .i64 id/\MetA A met/\ks.length<=met.length/\chainM A (chkM a0 a1 a2 a3 a4) level (A.sl.length+1-met.length) id low met (ks.map Lk.pr)=R/\Fam wr Nob [axOb M D0 p slots ids A,metOb m met,muBlk P6 23 #[.int .i64 a0,.int .i64 a1,.int .i64 a2,.int .i64 a3,.int .i64 a4],rowOb 90 8 lvv ks.length (lkCells ks),lkOb D ks lowv low,o5]/\(∀ x,D x->P6<=x)/\(∀ x,lvv.ownBlock=some x->P6<=x)/\(∀ k ∈ ks,∃ s,A.get k.id=some s/\s.nd=k.nd)/\Keeps (λ x=>x=m) w wr) (λ lvv _ _ _=>A.sl.length+1-lenS lvv)
 case atStart=>exact ⟨[],met0,[],first,Nob,noOb,rfl,HM.out,Nat.zero_le _,HR.out,HF.out,λ x hx=>hx.elim,λ x hx=>(by cases hx),λ k hk=>by simp at hk,K.out⟩
 clear HF K HM HR
 obtain ⟨ks,met,low,id,D,o5,rfl,hmet,hal,hR,hF,hD,hlv,hnd,hk⟩:=hrel
 rw [chainM_round hmet] at hR
 have HF:=Hd hF
 have HR:=Hd hR
 have HM:=Hd hmet
 have HDD:=Hd hD
 have HLV:=Hd hlv
 have HNS:=Hd hnd
 have K:=Hd hk
 have HAR:=Hd (hF.ok 0 _ rfl)
 obtain ⟨lA,lc,elv⟩:=(hF.ok 3 _ rfl:Own wr _ _ 8 _ _ _).form
 obtain ⟨loA,loc,elo,_,_⟩:=(hF.ok 4 _ rfl:(∀ k ∈ ks,IsLk wr D k)/\Byts wr D _ low).2.form
 subst elv elo
 have hml:=hmet.len
 have hbd:=(hF.ok 0 _ rfl:ArW wr M D0 p slots ids A).bound
 clear hF hR hmet hD hlv hnd hk
 rcases hg:A.get id with _|s
 ·rw [hg] at HR
  have FN:=λ wx (h:ArW wx M D0 p slots ids A)=>readNo hg h HSM.out
  unfold pV at FN
  go_wp2_with fail
  refine (FN _ HAR.out).mono ?_
  rintro e w2 ⟨X1,k1,X3,k3,X4,k4,X5,k5,rfl,hk⟩
  replace K:=tr_ K hk
  clear hk
  have f0:=((Blk.new w2 75 #[.int .i64 0,.slice none 0 0,.int .i64 0,.slice none 0 0,.slice none 0 0,.slice none 0 0])).frozen 0
  have z0:=((Blk.new w2 75 #[.int .i64 0,.slice none 0 0,.int .i64 0,.slice none 0 0,.slice none 0 0,.slice none 0 0])).cell 0
  have f1:=λ (v0:Value)=>(((Blk.new w2 75 #[.int .i64 0,.slice none 0 0,.int .i64 0,.slice none 0 0,.slice none 0 0,.slice none 0 0])).set_ 0 v0).frozen 1
  have z1:=λ (v0:Value)=>(((Blk.new w2 75 #[.int .i64 0,.slice none 0 0,.int .i64 0,.slice none 0 0,.slice none 0 0,.slice none 0 0])).set_ 0 v0).cell 1
  have f2:=λ (v0 v1:Value)=>((((Blk.new w2 75 #[.int .i64 0,.slice none 0 0,.int .i64 0,.slice none 0 0,.slice none 0 0,.slice none 0 0])).set_ 0 v0).set_ 1 v1).frozen 2
  have z2:=λ (v0 v1:Value)=>((((Blk.new w2 75 #[.int .i64 0,.slice none 0 0,.int .i64 0,.slice none 0 0,.slice none 0 0,.slice none 0 0])).set_ 0 v0).set_ 1 v1).cell 2
  have f3:=λ (v0 v1 v2:Value)=>(((((Blk.new w2 75 #[.int .i64 0,.slice none 0 0,.int .i64 0,.slice none 0 0,.slice none 0 0,.slice none 0 0])).set_ 0 v0).set_ 1 v1).set_ 2 v2).frozen 3
  have z3:=λ (v0 v1 v2:Value)=>(((((Blk.new w2 75 #[.int .i64 0,.slice none 0 0,.int .i64 0,.slice none 0 0,.slice none 0 0,.slice none 0 0])).set_ 0 v0).set_ 1 v1).set_ 2 v2).cell 3
  have f4:=λ (v0 v1 v2 v3:Value)=>((((((Blk.new w2 75 #[.int .i64 0,.slice none 0 0,.int .i64 0,.slice none 0 0,.slice none 0 0,.slice none 0 0])).set_ 0 v0).set_ 1 v1).set_ 2 v2).set_ 3 v3).frozen 4
  have z4:=λ (v0 v1 v2 v3:Value)=>((((((Blk.new w2 75 #[.int .i64 0,.slice none 0 0,.int .i64 0,.slice none 0 0,.slice none 0 0,.slice none 0 0])).set_ 0 v0).set_ 1 v1).set_ 2 v2).set_ 3 v3).cell 4
  have f5:=λ (v0 v1 v2 v3 v4:Value)=>(((((((Blk.new w2 75 #[.int .i64 0,.slice none 0 0,.int .i64 0,.slice none 0 0,.slice none 0 0,.slice none 0 0])).set_ 0 v0).set_ 1 v1).set_ 2 v2).set_ 3 v3).set_ 4 v4).frozen 5
  have z5:=λ (v0 v1 v2 v3 v4:Value)=>(((((((Blk.new w2 75 #[.int .i64 0,.slice none 0 0,.int .i64 0,.slice none 0 0,.slice none 0 0,.slice none 0 0])).set_ 0 v0).set_ 1 v1).set_ 2 v2).set_ 3 v3).set_ 4 v4).cell 5
  go_wp2_with fail
  clear f0 z0 f1 z1 f2 z2 f3 z3 f4 z4 f5 z5
  refine calls_at (λ w3 hw=>?_)
  have hk:Keeps Nob w2 w3:=by rw [hw];exact Keeps.alloc _ _ _
  replace K:=tr_ K hk
  clear hk
  clear hw
  refine (needNo _ _ _).mono ?_
  rintro e w4 ⟨rfl,rfl⟩
  obtain rfl:R=(ks.map Lk.pr,met,.wrong id 101):=HR.out.symm
  exact ⟨rfl,K.out,.inr ⟨rfl,rfl⟩⟩
 rw [hg] at HR
 have FY:=λ wx (h:ArW wx M D0 p slots ids A)=>readYes hg h HSM.out
 unfold pV at FY
 have HMEM:Hid (s ∈ A.sl):=by obtain ⟨_,_,h2,_⟩:=get_some hg;exact Hd (List.mem_of_getElem? h2)
 have HZ:=Hd (HSM.out s HMEM.out)
 have HKS:=Hd (HKW.out s HMEM.out)
 have HIN:=Hd (get_le hg)
 have HG:=Hd hg
 clear hg
 go_wp2_with fail
 refine (FY _ HAR.out).mono ?_
 rintro e w2 ⟨X1,k1,X3,k3,X4,k4,X5,k5,rfl,hn,hk⟩
 obtain ⟨D2,hF2,hN2,hD2⟩:∃ D2:Nat->Prop,Fam w2 Nob [axOb M D0 p slots ids A,metOb m met,muBlk P6 23 #[.int .i64 a0,.int .i64 a1,.int .i64 a2,.int .i64 a3,.int .i64 a4],rowOb 90 8 (.slice lA ks.length lc) ks.length (lkCells ks),lkOb D2 ks (.slice loA low.length loc) low,o5]/\IsNd w2 D2 (.int .i64 s.nd.lvl) (.slice X1 s.nd.high.length k1) (.int .i64 s.nd.right) (.slice X3 s.nd.keys.length k3) (.slice X4 s.nd.vals.length k4) (.slice X5 s.nd.kids.length k5) s.nd/\∀ x,D2 x->P6<=x:=by
  refine ⟨λ x=>D x\/Fresh wr w2 x,?_,hn.mono (λ x _ hx=>.inr hx),λ x hx=>hx.elim (HDD.out x) (λ h=>by have:=h.1;have:=K.out.size;have:=HP6.out;omega)⟩
  have h4:(∀ k ∈ ks,IsLk w2 D k)/\Byts w2 D (.slice loA low.length loc) low:=(HF.out.nob0 hk).ok 4 _ rfl
  exact HF.out.wr (i:=4) rfl hk (λ _ _ h=>h.elim) ⟨λ k hx=>(h4.1 k hx).mono (λ x=>.inl),h4.2.mono (λ x _=>.inl)⟩ (λ x hx=>hx) (λ x hx=>hx.elim) (λ x hx=>hx.elim)
 replace HF:=Hd hF2
 have HND:=Hd hN2
 replace HDD:=Hd hD2
 replace K:=tr_ K hk
 clear hk hn hF2 hN2 hD2 HAR
 have f0:=((Blk.new w2 75 #[.int .i64 0,.slice none 0 0,.int .i64 0,.slice none 0 0,.slice none 0 0,.slice none 0 0])).frozen 0
 have z0:=((Blk.new w2 75 #[.int .i64 0,.slice none 0 0,.int .i64 0,.slice none 0 0,.slice none 0 0,.slice none 0 0])).cell 0
 have f1:=λ (v0:Value)=>(((Blk.new w2 75 #[.int .i64 0,.slice none 0 0,.int .i64 0,.slice none 0 0,.slice none 0 0,.slice none 0 0])).set_ 0 v0).frozen 1
 have z1:=λ (v0:Value)=>(((Blk.new w2 75 #[.int .i64 0,.slice none 0 0,.int .i64 0,.slice none 0 0,.slice none 0 0,.slice none 0 0])).set_ 0 v0).cell 1
 have f2:=λ (v0 v1:Value)=>((((Blk.new w2 75 #[.int .i64 0,.slice none 0 0,.int .i64 0,.slice none 0 0,.slice none 0 0,.slice none 0 0])).set_ 0 v0).set_ 1 v1).frozen 2
 have z2:=λ (v0 v1:Value)=>((((Blk.new w2 75 #[.int .i64 0,.slice none 0 0,.int .i64 0,.slice none 0 0,.slice none 0 0,.slice none 0 0])).set_ 0 v0).set_ 1 v1).cell 2
 have f3:=λ (v0 v1 v2:Value)=>(((((Blk.new w2 75 #[.int .i64 0,.slice none 0 0,.int .i64 0,.slice none 0 0,.slice none 0 0,.slice none 0 0])).set_ 0 v0).set_ 1 v1).set_ 2 v2).frozen 3
 have z3:=λ (v0 v1 v2:Value)=>(((((Blk.new w2 75 #[.int .i64 0,.slice none 0 0,.int .i64 0,.slice none 0 0,.slice none 0 0,.slice none 0 0])).set_ 0 v0).set_ 1 v1).set_ 2 v2).cell 3
 have f4:=λ (v0 v1 v2 v3:Value)=>((((((Blk.new w2 75 #[.int .i64 0,.slice none 0 0,.int .i64 0,.slice none 0 0,.slice none 0 0,.slice none 0 0])).set_ 0 v0).set_ 1 v1).set_ 2 v2).set_ 3 v3).frozen 4
 have z4:=λ (v0 v1 v2 v3:Value)=>((((((Blk.new w2 75 #[.int .i64 0,.slice none 0 0,.int .i64 0,.slice none 0 0,.slice none 0 0,.slice none 0 0])).set_ 0 v0).set_ 1 v1).set_ 2 v2).set_ 3 v3).cell 4
 have f5:=λ (v0 v1 v2 v3 v4:Value)=>(((((((Blk.new w2 75 #[.int .i64 0,.slice none 0 0,.int .i64 0,.slice none 0 0,.slice none 0 0,.slice none 0 0])).set_ 0 v0).set_ 1 v1).set_ 2 v2).set_ 3 v3).set_ 4 v4).frozen 5
 have z5:=λ (v0 v1 v2 v3 v4:Value)=>(((((((Blk.new w2 75 #[.int .i64 0,.slice none 0 0,.int .i64 0,.slice none 0 0,.slice none 0 0,.slice none 0 0])).set_ 0 v0).set_ 1 v1).set_ 2 v2).set_ 3 v3).set_ 4 v4).cell 5
 go_wp2_with fail
 clear f0 z0 f1 z1 f2 z2 f3 z3 f4 z4 f5 z5
 obtain ⟨N14,hN⟩:∃ N,w2.heap.size=N:=⟨_,rfl⟩
 rw [hN]
 refine calls_at (λ w3 hw=>?_)
 have hk:Keeps Nob w2 w3:=by rw [hw];exact Keeps.alloc _ _ _
 replace HF:Hid (Fam w3 Nob [axOb M D0 p slots ids A,metOb m met,muBlk P6 23 #[.int .i64 a0,.int .i64 a1,.int .i64 a2,.int .i64 a3,.int .i64 a4],rowOb 90 8 (.slice lA ks.length lc) ks.length (lkCells ks),lkOb D2 ks (.slice loA low.length loc) low,muBlk N14 75 #[.int .i64 s.nd.lvl,.slice X1 s.nd.high.length k1,.int .i64 s.nd.right,.slice X3 s.nd.keys.length k3,.slice X4 s.nd.vals.length k4,.slice X5 s.nd.kids.length k5]]):=Hd (HF.out.allocAt (i:=5) rfl hk (by rw [hw,<-hN];exact Blk.new _ _ _) (by rw [hN];exact Nat.le_refl _))
 replace HND:=Hd (HND.out.keeps hk (λ _ _ _ h=>h))
 replace K:=tr_ K hk
 clear hk
 clear hw hN
 refine (needOk _ _ _).mono ?_
 rintro e w4 ⟨rfl,rfl⟩
 obtain ⟨Dm,hmt,hown⟩:=(HF.out.ok 1 _ rfl:∃ Dm,Met Dm met/\OwnsI w4 m met.length Dm)
 have HMT:=Hd hmt
 have HOWN:=Hd hown
 have HKEY:Hid (keyOf Try.prog 3 (.int .i64 id)=some (.int .i64 id)):=Hd (keyOf_int_mk Try.underlying3 (k64_in HIN.out.1 (by have:=HIN.out.2;omega)))
 clear hmt hown
 rcases hcon:met.contains id with _|_
 rotate_left
 ·have HAT:Hid (Dm.atKey (.int .i64 id) (.lit (.int .i64 0))=.lit (.int .i64 1)):=by
   have h:=HMT.out.2 id
   rw [if_pos (by simpa using hcon)] at h
   exact Hd h
  have HCON:=Hd hcon
  clear hcon
  go_wp2_with (at_lookup;refine wpList_lookup_own_int _ rfl _ _ 93 rfl 3 3 .i64 Try.lawInt Try.underlying93 Try.underlying3 (Try.zeroInt _) m _ _ rfl HOWN.out _ _ rfl HKEY.out ?_;intro c hat hwc;have hcc:=lit_inj (hat.symm.trans HAT.out);subst hcc;clear hat hwc)
  refine (needNo _ _ _).mono ?_
  rintro e w4 ⟨rfl,rfl⟩
  obtain rfl:R=(ks.map Lk.pr,met,.wrong id 112):=by have h:=HR.out;simp only [HCON.out,if_true] at h;exact h.symm
  exact ⟨rfl,K.out,.inr ⟨rfl,rfl⟩⟩
 have HAT:Hid (Dm.atKey (.int .i64 id) (.lit (.int .i64 0))=.lit (.int .i64 0)):=by
  have h:=HMT.out.2 id
  rw [if_neg (by simpa using hcon)] at h
  exact Hd h
 have HCON:=Hd hcon
 clear hcon
 go_wp2_with (at_lookup;refine wpList_lookup_own_int _ rfl _ _ 93 rfl 3 3 .i64 Try.lawInt Try.underlying93 Try.underlying3 (Try.zeroInt _) m _ _ rfl HOWN.out _ _ rfl HKEY.out ?_;intro c hat hwc;have hcc:=lit_inj (hat.symm.trans HAT.out);subst hcc;clear hat hwc)
 clear HAT HMT HOWN
 refine (needOk _ _ _).mono ?_
 rintro e w4 ⟨rfl,rfl⟩
 have n0:=(HF.out.ok 5 _ rfl:Blk w4 N14 _ _).cell 0
 by_cases hlv:s.nd.lvl=level
 rotate_left
 ·have hne:(s.nd.lvl==level)=false:=by simpa using hlv
  go_wp2_with fail
  refine (needNo _ _ _).mono ?_
  rintro e w4 ⟨rfl,rfl⟩
  obtain rfl:R=(ks.map Lk.pr,met,.wrong id 111):=by have h:=HR.out;rw [HCON.out] at h;simp only [Bool.false_eq_true,if_false,hlv,ne_eq,not_false_eq_true,if_true] at h;exact h.symm
  exact ⟨rfl,K.out,.inr ⟨rfl,rfl⟩⟩
 have HLVL:=Hd hlv
 have heq:(s.nd.lvl==level)=true:=by simpa using hlv
 clear hlv
 go_wp2_with fail
 clear heq n0
 refine (needOk _ _ _).mono ?_
 rintro e w4 ⟨rfl,rfl⟩
 have n0:=(HF.out.ok 5 _ rfl:Blk w4 N14 _ _).cell 0
 have n1:=(HF.out.ok 5 _ rfl:Blk w4 N14 _ _).cell 1
 have n2:=(HF.out.ok 5 _ rfl:Blk w4 N14 _ _).cell 2
 have n3:=(HF.out.ok 5 _ rfl:Blk w4 N14 _ _).cell 3
 have n4:=(HF.out.ok 5 _ rfl:Blk w4 N14 _ _).cell 4
 have n5:=(HF.out.ok 5 _ rfl:Blk w4 N14 _ _).cell 5
 have c0:=(HF.out.ok 2 _ rfl:Blk w4 P6 _ _).cell 0
 have c1:=(HF.out.ok 2 _ rfl:Blk w4 P6 _ _).cell 1
 have c2:=(HF.out.ok 2 _ rfl:Blk w4 P6 _ _).cell 2
 have c3:=(HF.out.ok 2 _ rfl:Blk w4 P6 _ _).cell 3
 have c4:=(HF.out.ok 2 _ rfl:Blk w4 P6 _ _).cell 4
 go_wp2_with fail
 clear n0 n1 n2 n3 n4 n5
 clear c0 c1 c2 c3 c4
 refine (checkP HND.out HKS.out HZ.out).mono ?_
 rintro e w5 ⟨rfl,hk⟩
 replace HF:Hid (Fam w5 Nob [axOb M D0 p slots ids A,metOb m met,muBlk P6 23 #[.int .i64 a0,.int .i64 a1,.int .i64 a2,.int .i64 a3,.int .i64 a4],rowOb 90 8 (.slice lA ks.length lc) ks.length (lkCells ks),lkOb D2 ks (.slice loA low.length loc) low,muBlk N14 75 #[.int .i64 s.nd.lvl,.slice X1 s.nd.high.length k1,.int .i64 s.nd.right,.slice X3 s.nd.keys.length k3,.slice X4 s.nd.vals.length k4,.slice X5 s.nd.kids.length k5]]):=Hd (HF.out.nob0 hk)
 replace HND:=Hd (HND.out.keeps hk (λ _ _ _ h=>h))
 replace K:=tr_ K hk
 clear hk
 by_cases hck:mayE s.nd a0 a1 a2 a3 a4=0
 rotate_left
 ·have hne:(mayE s.nd a0 a1 a2 a3 a4==0)=false:=by simpa using hck
  go_wp2_with fail
  refine (needNo _ _ _).mono ?_
  rintro e w4 ⟨rfl,rfl⟩
  obtain rfl:R=(ks.map Lk.pr,met,.wrong id (mayE s.nd a0 a1 a2 a3 a4)):=by have h:=HR.out;rw [HCON.out] at h;simp only [Bool.false_eq_true,if_false,HLVL.out,ne_eq,not_true_eq_false,chkM,hck,not_false_eq_true,if_true] at h;exact h.symm
  exact ⟨rfl,K.out,.inr ⟨rfl,rfl⟩⟩
 have HCK:=Hd hck
 rw [hck]
 clear hck
 go_wp2_with fail
 refine (needOk _ _ _).mono ?_
 rintro e w4 ⟨rfl,rfl⟩
 have HR2:Hid ((if lowBad low s.nd=true then (ks.map Lk.pr,met,Rp.wrong id 112) else if s.nd.right=0 then (ks.map Lk.pr++[(id,low)],met++[id],.ok) else chainM A (chkM a0 a1 a2 a3 a4) level (A.sl.length+1-(met++[id]).length) s.nd.right s.nd.high (met++[id]) (ks.map Lk.pr++[(id,low)]))=R):=by
  have h:=HR.out
  rw [HCON.out] at h
  simp only [Bool.false_eq_true,if_false,HLVL.out,ne_eq,not_true_eq_false,chkM,HCK.out] at h
  exact Hd h
 clear HR
 by_cases hz:(0:Int) < (low.length:Int)
 rotate_left
 ·have HLB:Hid (lowBad low s.nd=false):=by show _=_;unfold lowBad;rw [decide_eq_false (show ¬0 < low.length by omega)];rfl
  as_aux_lemma=>
   obtain ⟨Dm,hmt,hown⟩:=(HF.out.ok 1 _ rfl:∃ Dm,Met Dm met/\OwnsI w4 m met.length Dm)
   have HMT:=Hd hmt
   have HOWN:=Hd hown
   have HAT:Hid (Dm.atKey (.int .i64 id) (.lit (.int .i64 0))=.lit (.int .i64 0)):=by
    have h:=HMT.out.2 id
    rw [if_neg (by simpa using HCON.out)] at h
    exact Hd h
   clear hmt hown
   obtain ⟨j0,hj⟩:=info_parts Try.inf_link
   have HJ:=Hd hj
   clear hj
   go_upto_region 14 with (first|(at_lookup;refine wpList_lookup_own_int _ rfl _ _ 93 rfl 3 3 .i64 Try.lawInt Try.underlying93 Try.underlying3 (Try.zeroInt _) m _ _ rfl HOWN.out _ _ rfl HKEY.out ?_;intro c hat hwc;have hcc:=lit_inj (hat.symm.trans HAT.out);subst hcc;clear hat hwc)|(at_mapUpdate;refine wpList_mapUpdate_own _ rfl _ _ _ 93 rfl 3 3 Try.lawInt Try.underlying93 _ m _ _ rfl HOWN.out (by unfold maxLen;omega) _ _ _ rfl rfl HKEY.out (.lit (.int .i64 1)) [] (plainElem_int Try.underlying3 (by decide)) ?_;intro b1 hown1 hgrow1;have hk1:Keeps (λ b=>b=m) w4 b1:=Keeps.grown hgrow1 (λ j hj=>by injection hj with hj;exact hj.symm);replace HND:=Hd (HND.out.keeps hk1 (λ x _ hx e=>HF.out.apart 1 4 _ _ rfl rfl (by decide) x e hx));replace K:=Hd (K.out.trans hk1 (λ _ _ h=>h));replace HF:Hid (Fam b1 Nob [axOb M D0 p slots ids A,metOb m (met++[id]),muBlk P6 23 #[.int .i64 a0,.int .i64 a1,.int .i64 a2,.int .i64 a3,.int .i64 a4],rowOb 90 8 (.slice lA ks.length lc) ks.length (lkCells ks),lkOb D2 ks (.slice loA low.length loc) low,muBlk N14 75 #[.int .i64 s.nd.lvl,.slice X1 s.nd.high.length k1,.int .i64 s.nd.right,.slice X3 s.nd.keys.length k3,.slice X4 s.nd.vals.length k4,.slice X5 s.nd.kids.length k5]]):=Hd (HF.out.wr (i:=1) rfl hk1 (λ x _ e=>e) ⟨_,HMT.out.step id,by rw [List.length_append,List.length_singleton];exact hown1⟩ (λ x hx=>.inl hx) (λ x hx=>.inl hx) (λ _ h=>h));clear hown1 hgrow1 hk1))
   clear HAT HMT HOWN
   refine wp_region_list ?_
   refine wpList_takeS 4 [(some 87,.slice lA ks.length lc),(some 88,.int .i64 id),(some 89,.slice loA low.length loc),(some 90,.agg #[.int .i64 s.nd.lvl,.slice X1 s.nd.high.length k1,.int .i64 s.nd.right,.slice X3 s.nd.keys.length k3,.slice X4 s.nd.vals.length k4,.slice X5 s.nd.kids.length k5])] (λ W'=>W'=b1) ?_ ?_
   ·have n0:=(HF.out.ok 5 _ rfl:Blk b1 N14 _ _).cell 0
    have n1:=(HF.out.ok 5 _ rfl:Blk b1 N14 _ _).cell 1
    have n2:=(HF.out.ok 5 _ rfl:Blk b1 N14 _ _).cell 2
    have n3:=(HF.out.ok 5 _ rfl:Blk b1 N14 _ _).cell 3
    have n4:=(HF.out.ok 5 _ rfl:Blk b1 N14 _ _).cell 4
    have n5:=(HF.out.ok 5 _ rfl:Blk b1 N14 _ _).cell 5
    show wpList _ _ _ [_,_,_,_] _ _
    go_wp2
    exact ⟨by simp only [putsA,Act.put,sa_,sb_,sc_],rfl⟩
   intro b9 e9;replace e9:=e9.symm;subst e9
   simp only [putsA,Act.put,sa_,sb_,sc_]
   show wpList _ _ _ [_,_,_,_] _ _
   refine wpList_link rfl (.tmp 88) (.tmp 89) (.tmp 90) rfl rfl rfl rfl ?_
   simp only [Act.put,sa_,sb_,sc_]
   refine wpList_linkSl rfl (.tmp 91) rfl rfl ?_
   simp only [Act.put,sa_,sb_,sc_]
   obtain ⟨hi0,hz0,hz1,hz2⟩:=HJ.out
   refine wpList_app rfl (.tmp 87) (.tmp 92) 88 rfl Try.underlying88 hi0 hz0 hz1 hz2 rfl (by decide) (v:=.slice lA ks.length lc) (n:=ks.length) (m:=1) (S:=λ x=>(Value.slice lA ks.length lc).ownBlock=some x) (T:=λ _=>True) (xs:=lkCells ks) (news:=[.int .i64 id,.slice loA low.length loc,.int .i64 s.nd.lvl,.slice X1 s.nd.high.length k1,.int .i64 s.nd.right,.slice X3 s.nd.keys.length k3,.slice X4 s.nd.vals.length k4,.slice X5 s.nd.kids.length k5]) rfl ?c1 (y:=.slice (some ⟨b1.heap.size,0,none⟩) 1 1) rfl ?c2 ?c3 ?c4 ?c5 ?c6
   case c1=>exact (HF.out.nob0 (Keeps.alloc Nob _ _)).ok 3 _ rfl
   case c2=>exact (SlG.lit _ _ [.int .i64 id,.slice loA low.length loc,.int .i64 s.nd.lvl,.slice X1 s.nd.high.length k1,.int .i64 s.nd.right,.slice X3 s.nd.keys.length k3,.slice X4 s.nd.vals.length k4,.slice X5 s.nd.kids.length k5] 8 1 _ (by simp) rfl (by decide)).mono (λ _ _ _=>trivial)
   case c3=>intro u hu;simp at hu;rcases hu with rfl|rfl|rfl|rfl|rfl|rfl|rfl|rfl<;>rfl
   case c4=>unfold maxLen;omega
   case c5=>omega
   case c6=>
    intro v' b2 ho hk6 _
    obtain ⟨lA2,lc2,ev⟩:=ho.form
    subst ev
    have HLV2:Hid (∀ x,(Value.slice lA2 (ks.length+1) lc2).ownBlock=some x->P6<=x):=λ x hx=>by
     rcases (ho.blk hx).1 with h|h
     ·exact HLV.out x h
     ·have h1:=h.1;have h2:=K.out.size;have h3:=HP6.out;first|omega|(simp at h1;omega)
    replace HND:=Hd ((HND.out.keeps (Keeps.alloc Nob _ _) (λ _ _ _ h=>h)).keeps hk6 (λ x _ hd e=>HF.out.apart 3 4 _ _ rfl rfl (by decide) x e hd))
    replace K:=Hd ((K.out.alloc' _).trans hk6 (λ x hx e=>absurd hx (by have:=HP6.out;have:=HLV.out x e;omega)))
    replace HF:Hid (Fam b2 Nob [axOb M D0 p slots ids A,metOb m (met++[id]),muBlk P6 23 #[.int .i64 a0,.int .i64 a1,.int .i64 a2,.int .i64 a3,.int .i64 a4],rowOb 90 8 (.slice lA2 (ks.length+1) lc2) (ks.length+1) (lkCells ks++[.int .i64 id,.slice loA low.length loc,.int .i64 s.nd.lvl,.slice X1 s.nd.high.length k1,.int .i64 s.nd.right,.slice X3 s.nd.keys.length k3,.slice X4 s.nd.vals.length k4,.slice X5 s.nd.kids.length k5]),lkOb D2 ks (.slice loA low.length loc) low,muBlk N14 75 #[.int .i64 s.nd.lvl,.slice X1 s.nd.high.length k1,.int .i64 s.nd.right,.slice X3 s.nd.keys.length k3,.slice X4 s.nd.vals.length k4,.slice X5 s.nd.kids.length k5]]):=Hd ((HF.out.nob0 (Keeps.alloc Nob _ _)).app0 (i:=3) rfl hk6 (ho.mono (λ b _ hb=>hb.imp (λ h=>h) (λ h=>⟨by simpa using h.1,h.2⟩))))
    clear ho hk6 hi0 hz0 hz1 hz2
    have E1:(ks++[Lk.mk id low s.nd (.slice loA low.length loc) (.slice X1 s.nd.high.length k1) (.slice X3 s.nd.keys.length k3) (.slice X4 s.nd.vals.length k4) (.slice X5 s.nd.kids.length k5)]).length=ks.length+1:=by simp
    have E2:lkCells (ks++[Lk.mk id low s.nd (.slice loA low.length loc) (.slice X1 s.nd.high.length k1) (.slice X3 s.nd.keys.length k3) (.slice X4 s.nd.vals.length k4) (.slice X5 s.nd.kids.length k5)])=lkCells ks++[.int .i64 id,.slice loA low.length loc,.int .i64 s.nd.lvl,.slice X1 s.nd.high.length k1,.int .i64 s.nd.right,.slice X3 s.nd.keys.length k3,.slice X4 s.nd.vals.length k4,.slice X5 s.nd.kids.length k5]:=lkCells_snoc _ _
    have E3:(ks++[Lk.mk id low s.nd (.slice loA low.length loc) (.slice X1 s.nd.high.length k1) (.slice X3 s.nd.keys.length k3) (.slice X4 s.nd.vals.length k4) (.slice X5 s.nd.kids.length k5)]).map Lk.pr=ks.map Lk.pr++[(id,low)]:=by rw [List.map_append];rfl
    have h4:(∀ k ∈ ks,IsLk b2 D2 k)/\Byts b2 D2 (.slice loA low.length loc) low:=HF.out.ok 4 _ rfl
    have h5:∀ k ∈ ks++[Lk.mk id low s.nd (.slice loA low.length loc) (.slice X1 s.nd.high.length k1) (.slice X3 s.nd.keys.length k3) (.slice X4 s.nd.vals.length k4) (.slice X5 s.nd.kids.length k5)],IsLk b2 D2 k:=λ k hk=>by
     rcases List.mem_append.1 hk with hk|hk
     ·exact h4.1 k hk
     ·rw [List.mem_singleton.1 hk];exact ⟨h4.2,HND.out⟩
    have HNS2:Hid (∀ k ∈ ks++[Lk.mk id low s.nd (.slice loA low.length loc) (.slice X1 s.nd.high.length k1) (.slice X3 s.nd.keys.length k3) (.slice X4 s.nd.vals.length k4) (.slice X5 s.nd.kids.length k5)],∃ s,A.get k.id=some s/\s.nd=k.nd):=λ k hk=>by
     rcases List.mem_append.1 hk with hk|hk
     ·exact HNS.out k hk
     ·rw [List.mem_singleton.1 hk];exact ⟨s,HG.out,rfl⟩
    by_cases hr:s.nd.right=0
    ·as_aux_lemma=>
     have HT:Hid (Fam b2 Nob [axOb M D0 p slots ids A,metOb m (met++[id]),muBlk P6 23 #[.int .i64 a0,.int .i64 a1,.int .i64 a2,.int .i64 a3,.int .i64 a4],rowOb 90 8 (.slice lA2 (ks.length+1) lc2) (ks++[Lk.mk id low s.nd (.slice loA low.length loc) (.slice X1 s.nd.high.length k1) (.slice X3 s.nd.keys.length k3) (.slice X4 s.nd.vals.length k4) (.slice X5 s.nd.kids.length k5)]).length (lkCells (ks++[Lk.mk id low s.nd (.slice loA low.length loc) (.slice X1 s.nd.high.length k1) (.slice X3 s.nd.keys.length k3) (.slice X4 s.nd.vals.length k4) (.slice X5 s.nd.kids.length k5)])),lkOb D2 (ks++[Lk.mk id low s.nd (.slice loA low.length loc) (.slice X1 s.nd.high.length k1) (.slice X3 s.nd.keys.length k3) (.slice X4 s.nd.vals.length k4) (.slice X5 s.nd.kids.length k5)]) (.slice loA low.length loc) low,muBlk N14 75 #[.int .i64 s.nd.lvl,.slice X1 s.nd.high.length k1,.int .i64 s.nd.right,.slice X3 s.nd.keys.length k3,.slice X4 s.nd.vals.length k4,.slice X5 s.nd.kids.length k5]]):=by
      show Fam _ _ _
      rw [E1,E2]
      exact HF.out.swap (i:=4) rfl ⟨h5,h4.2⟩ (λ x hx=>hx) (λ x h=>h)
     have HX:Hid (R=(ks.map Lk.pr++[(id,low)],met++[id],.ok)):=by have h:=HR2.out;rw [HLB.out,if_neg (by decide),if_pos hr] at h;exact Hd h.symm
     have n2:=(HF.out.ok 5 _ rfl:Blk b2 N14 _ _).cell 2
     rw [hr] at n2
     clear hr E1 E2 h4 h5 HF HND HR2
     go_wp2_with fail
     rw [Exit.noGoto_ret]
     go_wp2
     obtain rfl:R=(ks.map Lk.pr++[(id,low)],met++[id],.ok):=HX.out
     refine bodyPost_ret (results_tmp rfl _ _ _) rfl ⟨K.out,.inl ⟨rfl,_,ks++[Lk.mk id low s.nd (.slice loA low.length loc) (.slice X1 s.nd.high.length k1) (.slice X3 s.nd.keys.length k3) (.slice X4 s.nd.vals.length k4) (.slice X5 s.nd.kids.length k5)],D2,rfl,E3,HNS2.out,(HT.out.ok 3 _ rfl:Own b2 _ 90 8 _ _ _).mono (λ x hx e=>⟨by have h1:=HLV2.out x e;have h2:=HP6.out;omega,hx⟩),(HT.out.ok 4 _ rfl:(∀ k ∈ _,IsLk b2 D2 k)/\_).1,λ x hx=>⟨⟨by have h1:=HDD.out x hx;have h2:=HP6.out;omega,HT.out.old 4 _ rfl x hx⟩,λ e=>HT.out.apart 3 4 _ _ rfl rfl (by decide) x e hx⟩,HT.out.ok 1 _ rfl⟩⟩
    have HT:Hid (Fam b2 Nob [axOb M D0 p slots ids A,metOb m (met++[id]),muBlk P6 23 #[.int .i64 a0,.int .i64 a1,.int .i64 a2,.int .i64 a3,.int .i64 a4],rowOb 90 8 (.slice lA2 (ks.length+1) lc2) (ks++[Lk.mk id low s.nd (.slice loA low.length loc) (.slice X1 s.nd.high.length k1) (.slice X3 s.nd.keys.length k3) (.slice X4 s.nd.vals.length k4) (.slice X5 s.nd.kids.length k5)]).length (lkCells (ks++[Lk.mk id low s.nd (.slice loA low.length loc) (.slice X1 s.nd.high.length k1) (.slice X3 s.nd.keys.length k3) (.slice X4 s.nd.vals.length k4) (.slice X5 s.nd.kids.length k5)])),lkOb D2 (ks++[Lk.mk id low s.nd (.slice loA low.length loc) (.slice X1 s.nd.high.length k1) (.slice X3 s.nd.keys.length k3) (.slice X4 s.nd.vals.length k4) (.slice X5 s.nd.kids.length k5)]) (.slice X1 s.nd.high.length k1) s.nd.high,muBlk N14 75 #[.int .i64 s.nd.lvl,.slice X1 s.nd.high.length k1,.int .i64 s.nd.right,.slice X3 s.nd.keys.length k3,.slice X4 s.nd.vals.length k4,.slice X5 s.nd.kids.length k5]]):=by
     show Fam _ _ _
     rw [E1,E2]
     exact HF.out.swap (i:=4) rfl ⟨h5,HND.out.1.high⟩ (λ x hx=>hx) (λ x h=>h)
    have HR3:Hid (chainM A (chkM a0 a1 a2 a3 a4) level (A.sl.length+1-(met++[id]).length) s.nd.right s.nd.high (met++[id]) ((ks++[Lk.mk id low s.nd (.slice loA low.length loc) (.slice X1 s.nd.high.length k1) (.slice X3 s.nd.keys.length k3) (.slice X4 s.nd.vals.length k4) (.slice X5 s.nd.kids.length k5)]).map Lk.pr)=R):=by have h:=HR2.out;rw [HLB.out,if_neg (by decide),if_neg hr] at h;rw [E3];exact Hd h
    have n1:=(HF.out.ok 5 _ rfl:Blk b2 N14 _ _).cell 1
    have n2:=(HF.out.ok 5 _ rfl:Blk b2 N14 _ _).cell 2
    have hr':(s.nd.right==0)=false:=by simpa using hr
    have HM2:=Hd (HM.out.snoc HG.out HCON.out)
    clear E2 E3 h4 h5 HF HND HR2 hr
    go_upto_region 16 with (fail)
    go_quiet (fail)
    go_wp2
    go_roundw
    case rel=>exact ⟨ks++[Lk.mk id low s.nd (.slice loA low.length loc) (.slice X1 s.nd.high.length k1) (.slice X3 s.nd.keys.length k3) (.slice X4 s.nd.vals.length k4) (.slice X5 s.nd.kids.length k5)],met++[id],s.nd.high,s.nd.right,D2,_,rfl,HM2.out,by rw [E1,List.length_append,List.length_singleton];omega,HR3.out,HT.out.nob0 (Keeps.drewN _ _ _),HDD.out,HLV2.out,HNS2.out,K.out.trans (Keeps.drewN Nob _ _) (λ _ _ h=>h.elim)⟩
    case measure=>simp only [lenS];omega
 have hz':0 < low.length:=by omega
 have n3:=(HF.out.ok 5 _ rfl:Blk w4 N14 _ _).cell 3
 by_cases hkz:(0:Int) < (s.nd.keys.length:Int)
 rotate_left
 ·have HKB:Hid (keyBelow low s.nd.keys=false):=by
   show _=_
   rcases hk:s.nd.keys with _|⟨a,b⟩
   ·rfl
   ·exact absurd (by rw [hk,List.length_cons];omega) hkz
  have hh0:((s.nd.keys.length:Int)==0)=true:=by simp only [beq_iff_eq];omega
  go_wp2_with fail
  clear hh0 n3
  refine (needOk _ _ _).mono ?_
  rintro e w4 ⟨rfl,rfl⟩
  have n1:=(HF.out.ok 5 _ rfl:Blk w4 N14 _ _).cell 1
  by_cases hhz:(0:Int) < (s.nd.high.length:Int)
  rotate_left
  ·have HLB:Hid (lowBad low s.nd=false):=by show _=_;unfold lowBad;rw [HKB.out,decide_eq_false (show ¬0 < s.nd.high.length by omega)];simp
   have hh0:((s.nd.high.length:Int)==0)=true:=by simp only [beq_iff_eq];omega
   go_wp2_with fail
   clear hh0 n1
   refine (needOk _ _ _).mono ?_
   rintro e w4 ⟨rfl,rfl⟩
   as_aux_lemma=>
    obtain ⟨Dm,hmt,hown⟩:=(HF.out.ok 1 _ rfl:∃ Dm,Met Dm met/\OwnsI w4 m met.length Dm)
    have HMT:=Hd hmt
    have HOWN:=Hd hown
    have HAT:Hid (Dm.atKey (.int .i64 id) (.lit (.int .i64 0))=.lit (.int .i64 0)):=by
     have h:=HMT.out.2 id
     rw [if_neg (by simpa using HCON.out)] at h
     exact Hd h
    clear hmt hown
    obtain ⟨j0,hj⟩:=info_parts Try.inf_link
    have HJ:=Hd hj
    clear hj
    go_upto_region 14 with (first|(at_lookup;refine wpList_lookup_own_int _ rfl _ _ 93 rfl 3 3 .i64 Try.lawInt Try.underlying93 Try.underlying3 (Try.zeroInt _) m _ _ rfl HOWN.out _ _ rfl HKEY.out ?_;intro c hat hwc;have hcc:=lit_inj (hat.symm.trans HAT.out);subst hcc;clear hat hwc)|(at_mapUpdate;refine wpList_mapUpdate_own _ rfl _ _ _ 93 rfl 3 3 Try.lawInt Try.underlying93 _ m _ _ rfl HOWN.out (by unfold maxLen;omega) _ _ _ rfl rfl HKEY.out (.lit (.int .i64 1)) [] (plainElem_int Try.underlying3 (by decide)) ?_;intro b1 hown1 hgrow1;have hk1:Keeps (λ b=>b=m) w4 b1:=Keeps.grown hgrow1 (λ j hj=>by injection hj with hj;exact hj.symm);replace HND:=Hd (HND.out.keeps hk1 (λ x _ hx e=>HF.out.apart 1 4 _ _ rfl rfl (by decide) x e hx));replace K:=Hd (K.out.trans hk1 (λ _ _ h=>h));replace HF:Hid (Fam b1 Nob [axOb M D0 p slots ids A,metOb m (met++[id]),muBlk P6 23 #[.int .i64 a0,.int .i64 a1,.int .i64 a2,.int .i64 a3,.int .i64 a4],rowOb 90 8 (.slice lA ks.length lc) ks.length (lkCells ks),lkOb D2 ks (.slice loA low.length loc) low,muBlk N14 75 #[.int .i64 s.nd.lvl,.slice X1 s.nd.high.length k1,.int .i64 s.nd.right,.slice X3 s.nd.keys.length k3,.slice X4 s.nd.vals.length k4,.slice X5 s.nd.kids.length k5]]):=Hd (HF.out.wr (i:=1) rfl hk1 (λ x _ e=>e) ⟨_,HMT.out.step id,by rw [List.length_append,List.length_singleton];exact hown1⟩ (λ x hx=>.inl hx) (λ x hx=>.inl hx) (λ _ h=>h));clear hown1 hgrow1 hk1))
    clear HAT HMT HOWN
    refine wp_region_list ?_
    refine wpList_takeS 4 [(some 87,.slice lA ks.length lc),(some 88,.int .i64 id),(some 89,.slice loA low.length loc),(some 90,.agg #[.int .i64 s.nd.lvl,.slice X1 s.nd.high.length k1,.int .i64 s.nd.right,.slice X3 s.nd.keys.length k3,.slice X4 s.nd.vals.length k4,.slice X5 s.nd.kids.length k5])] (λ W'=>W'=b1) ?_ ?_
    ·have n0:=(HF.out.ok 5 _ rfl:Blk b1 N14 _ _).cell 0
     have n1:=(HF.out.ok 5 _ rfl:Blk b1 N14 _ _).cell 1
     have n2:=(HF.out.ok 5 _ rfl:Blk b1 N14 _ _).cell 2
     have n3:=(HF.out.ok 5 _ rfl:Blk b1 N14 _ _).cell 3
     have n4:=(HF.out.ok 5 _ rfl:Blk b1 N14 _ _).cell 4
     have n5:=(HF.out.ok 5 _ rfl:Blk b1 N14 _ _).cell 5
     show wpList _ _ _ [_,_,_,_] _ _
     go_wp2
     exact ⟨by simp only [putsA,Act.put,sa_,sb_,sc_],rfl⟩
    intro b9 e9;replace e9:=e9.symm;subst e9
    simp only [putsA,Act.put,sa_,sb_,sc_]
    show wpList _ _ _ [_,_,_,_] _ _
    refine wpList_link rfl (.tmp 88) (.tmp 89) (.tmp 90) rfl rfl rfl rfl ?_
    simp only [Act.put,sa_,sb_,sc_]
    refine wpList_linkSl rfl (.tmp 91) rfl rfl ?_
    simp only [Act.put,sa_,sb_,sc_]
    obtain ⟨hi0,hz0,hz1,hz2⟩:=HJ.out
    refine wpList_app rfl (.tmp 87) (.tmp 92) 88 rfl Try.underlying88 hi0 hz0 hz1 hz2 rfl (by decide) (v:=.slice lA ks.length lc) (n:=ks.length) (m:=1) (S:=λ x=>(Value.slice lA ks.length lc).ownBlock=some x) (T:=λ _=>True) (xs:=lkCells ks) (news:=[.int .i64 id,.slice loA low.length loc,.int .i64 s.nd.lvl,.slice X1 s.nd.high.length k1,.int .i64 s.nd.right,.slice X3 s.nd.keys.length k3,.slice X4 s.nd.vals.length k4,.slice X5 s.nd.kids.length k5]) rfl ?c1 (y:=.slice (some ⟨b1.heap.size,0,none⟩) 1 1) rfl ?c2 ?c3 ?c4 ?c5 ?c6
    case c1=>exact (HF.out.nob0 (Keeps.alloc Nob _ _)).ok 3 _ rfl
    case c2=>exact (SlG.lit _ _ [.int .i64 id,.slice loA low.length loc,.int .i64 s.nd.lvl,.slice X1 s.nd.high.length k1,.int .i64 s.nd.right,.slice X3 s.nd.keys.length k3,.slice X4 s.nd.vals.length k4,.slice X5 s.nd.kids.length k5] 8 1 _ (by simp) rfl (by decide)).mono (λ _ _ _=>trivial)
    case c3=>intro u hu;simp at hu;rcases hu with rfl|rfl|rfl|rfl|rfl|rfl|rfl|rfl<;>rfl
    case c4=>unfold maxLen;omega
    case c5=>omega
    case c6=>
     intro v' b2 ho hk6 _
     obtain ⟨lA2,lc2,ev⟩:=ho.form
     subst ev
     have HLV2:Hid (∀ x,(Value.slice lA2 (ks.length+1) lc2).ownBlock=some x->P6<=x):=λ x hx=>by
      rcases (ho.blk hx).1 with h|h
      ·exact HLV.out x h
      ·have h1:=h.1;have h2:=K.out.size;have h3:=HP6.out;first|omega|(simp at h1;omega)
     replace HND:=Hd ((HND.out.keeps (Keeps.alloc Nob _ _) (λ _ _ _ h=>h)).keeps hk6 (λ x _ hd e=>HF.out.apart 3 4 _ _ rfl rfl (by decide) x e hd))
     replace K:=Hd ((K.out.alloc' _).trans hk6 (λ x hx e=>absurd hx (by have:=HP6.out;have:=HLV.out x e;omega)))
     replace HF:Hid (Fam b2 Nob [axOb M D0 p slots ids A,metOb m (met++[id]),muBlk P6 23 #[.int .i64 a0,.int .i64 a1,.int .i64 a2,.int .i64 a3,.int .i64 a4],rowOb 90 8 (.slice lA2 (ks.length+1) lc2) (ks.length+1) (lkCells ks++[.int .i64 id,.slice loA low.length loc,.int .i64 s.nd.lvl,.slice X1 s.nd.high.length k1,.int .i64 s.nd.right,.slice X3 s.nd.keys.length k3,.slice X4 s.nd.vals.length k4,.slice X5 s.nd.kids.length k5]),lkOb D2 ks (.slice loA low.length loc) low,muBlk N14 75 #[.int .i64 s.nd.lvl,.slice X1 s.nd.high.length k1,.int .i64 s.nd.right,.slice X3 s.nd.keys.length k3,.slice X4 s.nd.vals.length k4,.slice X5 s.nd.kids.length k5]]):=Hd ((HF.out.nob0 (Keeps.alloc Nob _ _)).app0 (i:=3) rfl hk6 (ho.mono (λ b _ hb=>hb.imp (λ h=>h) (λ h=>⟨by simpa using h.1,h.2⟩))))
     clear ho hk6 hi0 hz0 hz1 hz2
     have E1:(ks++[Lk.mk id low s.nd (.slice loA low.length loc) (.slice X1 s.nd.high.length k1) (.slice X3 s.nd.keys.length k3) (.slice X4 s.nd.vals.length k4) (.slice X5 s.nd.kids.length k5)]).length=ks.length+1:=by simp
     have E2:lkCells (ks++[Lk.mk id low s.nd (.slice loA low.length loc) (.slice X1 s.nd.high.length k1) (.slice X3 s.nd.keys.length k3) (.slice X4 s.nd.vals.length k4) (.slice X5 s.nd.kids.length k5)])=lkCells ks++[.int .i64 id,.slice loA low.length loc,.int .i64 s.nd.lvl,.slice X1 s.nd.high.length k1,.int .i64 s.nd.right,.slice X3 s.nd.keys.length k3,.slice X4 s.nd.vals.length k4,.slice X5 s.nd.kids.length k5]:=lkCells_snoc _ _
     have E3:(ks++[Lk.mk id low s.nd (.slice loA low.length loc) (.slice X1 s.nd.high.length k1) (.slice X3 s.nd.keys.length k3) (.slice X4 s.nd.vals.length k4) (.slice X5 s.nd.kids.length k5)]).map Lk.pr=ks.map Lk.pr++[(id,low)]:=by rw [List.map_append];rfl
     have h4:(∀ k ∈ ks,IsLk b2 D2 k)/\Byts b2 D2 (.slice loA low.length loc) low:=HF.out.ok 4 _ rfl
     have h5:∀ k ∈ ks++[Lk.mk id low s.nd (.slice loA low.length loc) (.slice X1 s.nd.high.length k1) (.slice X3 s.nd.keys.length k3) (.slice X4 s.nd.vals.length k4) (.slice X5 s.nd.kids.length k5)],IsLk b2 D2 k:=λ k hk=>by
      rcases List.mem_append.1 hk with hk|hk
      ·exact h4.1 k hk
      ·rw [List.mem_singleton.1 hk];exact ⟨h4.2,HND.out⟩
     have HNS2:Hid (∀ k ∈ ks++[Lk.mk id low s.nd (.slice loA low.length loc) (.slice X1 s.nd.high.length k1) (.slice X3 s.nd.keys.length k3) (.slice X4 s.nd.vals.length k4) (.slice X5 s.nd.kids.length k5)],∃ s,A.get k.id=some s/\s.nd=k.nd):=λ k hk=>by
      rcases List.mem_append.1 hk with hk|hk
      ·exact HNS.out k hk
      ·rw [List.mem_singleton.1 hk];exact ⟨s,HG.out,rfl⟩
     by_cases hr:s.nd.right=0
     ·as_aux_lemma=>
      have HT:Hid (Fam b2 Nob [axOb M D0 p slots ids A,metOb m (met++[id]),muBlk P6 23 #[.int .i64 a0,.int .i64 a1,.int .i64 a2,.int .i64 a3,.int .i64 a4],rowOb 90 8 (.slice lA2 (ks.length+1) lc2) (ks++[Lk.mk id low s.nd (.slice loA low.length loc) (.slice X1 s.nd.high.length k1) (.slice X3 s.nd.keys.length k3) (.slice X4 s.nd.vals.length k4) (.slice X5 s.nd.kids.length k5)]).length (lkCells (ks++[Lk.mk id low s.nd (.slice loA low.length loc) (.slice X1 s.nd.high.length k1) (.slice X3 s.nd.keys.length k3) (.slice X4 s.nd.vals.length k4) (.slice X5 s.nd.kids.length k5)])),lkOb D2 (ks++[Lk.mk id low s.nd (.slice loA low.length loc) (.slice X1 s.nd.high.length k1) (.slice X3 s.nd.keys.length k3) (.slice X4 s.nd.vals.length k4) (.slice X5 s.nd.kids.length k5)]) (.slice loA low.length loc) low,muBlk N14 75 #[.int .i64 s.nd.lvl,.slice X1 s.nd.high.length k1,.int .i64 s.nd.right,.slice X3 s.nd.keys.length k3,.slice X4 s.nd.vals.length k4,.slice X5 s.nd.kids.length k5]]):=by
       show Fam _ _ _
       rw [E1,E2]
       exact HF.out.swap (i:=4) rfl ⟨h5,h4.2⟩ (λ x hx=>hx) (λ x h=>h)
      have HX:Hid (R=(ks.map Lk.pr++[(id,low)],met++[id],.ok)):=by have h:=HR2.out;rw [HLB.out,if_neg (by decide),if_pos hr] at h;exact Hd h.symm
      have n2:=(HF.out.ok 5 _ rfl:Blk b2 N14 _ _).cell 2
      rw [hr] at n2
      clear hr E1 E2 h4 h5 HF HND HR2
      go_wp2_with fail
      rw [Exit.noGoto_ret]
      go_wp2
      obtain rfl:R=(ks.map Lk.pr++[(id,low)],met++[id],.ok):=HX.out
      refine bodyPost_ret (results_tmp rfl _ _ _) rfl ⟨K.out,.inl ⟨rfl,_,ks++[Lk.mk id low s.nd (.slice loA low.length loc) (.slice X1 s.nd.high.length k1) (.slice X3 s.nd.keys.length k3) (.slice X4 s.nd.vals.length k4) (.slice X5 s.nd.kids.length k5)],D2,rfl,E3,HNS2.out,(HT.out.ok 3 _ rfl:Own b2 _ 90 8 _ _ _).mono (λ x hx e=>⟨by have h1:=HLV2.out x e;have h2:=HP6.out;omega,hx⟩),(HT.out.ok 4 _ rfl:(∀ k ∈ _,IsLk b2 D2 k)/\_).1,λ x hx=>⟨⟨by have h1:=HDD.out x hx;have h2:=HP6.out;omega,HT.out.old 4 _ rfl x hx⟩,λ e=>HT.out.apart 3 4 _ _ rfl rfl (by decide) x e hx⟩,HT.out.ok 1 _ rfl⟩⟩
     have HT:Hid (Fam b2 Nob [axOb M D0 p slots ids A,metOb m (met++[id]),muBlk P6 23 #[.int .i64 a0,.int .i64 a1,.int .i64 a2,.int .i64 a3,.int .i64 a4],rowOb 90 8 (.slice lA2 (ks.length+1) lc2) (ks++[Lk.mk id low s.nd (.slice loA low.length loc) (.slice X1 s.nd.high.length k1) (.slice X3 s.nd.keys.length k3) (.slice X4 s.nd.vals.length k4) (.slice X5 s.nd.kids.length k5)]).length (lkCells (ks++[Lk.mk id low s.nd (.slice loA low.length loc) (.slice X1 s.nd.high.length k1) (.slice X3 s.nd.keys.length k3) (.slice X4 s.nd.vals.length k4) (.slice X5 s.nd.kids.length k5)])),lkOb D2 (ks++[Lk.mk id low s.nd (.slice loA low.length loc) (.slice X1 s.nd.high.length k1) (.slice X3 s.nd.keys.length k3) (.slice X4 s.nd.vals.length k4) (.slice X5 s.nd.kids.length k5)]) (.slice X1 s.nd.high.length k1) s.nd.high,muBlk N14 75 #[.int .i64 s.nd.lvl,.slice X1 s.nd.high.length k1,.int .i64 s.nd.right,.slice X3 s.nd.keys.length k3,.slice X4 s.nd.vals.length k4,.slice X5 s.nd.kids.length k5]]):=by
      show Fam _ _ _
      rw [E1,E2]
      exact HF.out.swap (i:=4) rfl ⟨h5,HND.out.1.high⟩ (λ x hx=>hx) (λ x h=>h)
     have HR3:Hid (chainM A (chkM a0 a1 a2 a3 a4) level (A.sl.length+1-(met++[id]).length) s.nd.right s.nd.high (met++[id]) ((ks++[Lk.mk id low s.nd (.slice loA low.length loc) (.slice X1 s.nd.high.length k1) (.slice X3 s.nd.keys.length k3) (.slice X4 s.nd.vals.length k4) (.slice X5 s.nd.kids.length k5)]).map Lk.pr)=R):=by have h:=HR2.out;rw [HLB.out,if_neg (by decide),if_neg hr] at h;rw [E3];exact Hd h
     have n1:=(HF.out.ok 5 _ rfl:Blk b2 N14 _ _).cell 1
     have n2:=(HF.out.ok 5 _ rfl:Blk b2 N14 _ _).cell 2
     have hr':(s.nd.right==0)=false:=by simpa using hr
     have HM2:=Hd (HM.out.snoc HG.out HCON.out)
     clear E2 E3 h4 h5 HF HND HR2 hr
     go_upto_region 16 with (fail)
     go_quiet (fail)
     go_wp2
     go_roundw
     case rel=>exact ⟨ks++[Lk.mk id low s.nd (.slice loA low.length loc) (.slice X1 s.nd.high.length k1) (.slice X3 s.nd.keys.length k3) (.slice X4 s.nd.vals.length k4) (.slice X5 s.nd.kids.length k5)],met++[id],s.nd.high,s.nd.right,D2,_,rfl,HM2.out,by rw [E1,List.length_append,List.length_singleton];omega,HR3.out,HT.out.nob0 (Keeps.drewN _ _ _),HDD.out,HLV2.out,HNS2.out,K.out.trans (Keeps.drewN Nob _ _) (λ _ _ h=>h.elim)⟩
     case measure=>simp only [lenS];omega
  have hh1:((s.nd.high.length:Int)==0)=false:=by simp only [beq_eq_false_iff_ne];omega
  go_wp2_with fail
  clear n1 hh1
  refine (cmpP HND.out.1.high (HF.out.ok 4 _ rfl:(∀ k ∈ ks,IsLk w4 D2 k)/\Byts w4 D2 _ low).2).mono ?_
  rintro e w6 ⟨rfl,rfl⟩
  by_cases hb2:cmp s.nd.high low<=0
  ·have HLB:Hid (lowBad low s.nd=true):=by show _=_;unfold lowBad;rw [HKB.out,decide_eq_true hz',decide_eq_true (show 0 < s.nd.high.length by omega),decide_eq_true hb2];rfl
   have hd:decide (0 < cmp s.nd.high low)=false:=decide_eq_false (by omega)
   go_wp2_with fail
   try rw [hd]
   refine (needNo _ _ _).mono ?_
   rintro e w4 ⟨rfl,rfl⟩
   obtain rfl:R=(ks.map Lk.pr,met,.wrong id 112):=by have h:=HR2.out;rw [HLB.out,if_pos rfl] at h;exact h.symm
   exact ⟨rfl,K.out,.inr ⟨rfl,rfl⟩⟩
  have HLB:Hid (lowBad low s.nd=false):=by show _=_;unfold lowBad;rw [HKB.out,decide_eq_false hb2];simp
  have hd:decide (0 < cmp s.nd.high low)=true:=decide_eq_true (by omega)
  go_wp2_with fail
  try rw [hd]
  clear hd
  refine (needOk _ _ _).mono ?_
  rintro e w4 ⟨rfl,rfl⟩
  as_aux_lemma=>
   obtain ⟨Dm,hmt,hown⟩:=(HF.out.ok 1 _ rfl:∃ Dm,Met Dm met/\OwnsI w4 m met.length Dm)
   have HMT:=Hd hmt
   have HOWN:=Hd hown
   have HAT:Hid (Dm.atKey (.int .i64 id) (.lit (.int .i64 0))=.lit (.int .i64 0)):=by
    have h:=HMT.out.2 id
    rw [if_neg (by simpa using HCON.out)] at h
    exact Hd h
   clear hmt hown
   obtain ⟨j0,hj⟩:=info_parts Try.inf_link
   have HJ:=Hd hj
   clear hj
   go_upto_region 14 with (first|(at_lookup;refine wpList_lookup_own_int _ rfl _ _ 93 rfl 3 3 .i64 Try.lawInt Try.underlying93 Try.underlying3 (Try.zeroInt _) m _ _ rfl HOWN.out _ _ rfl HKEY.out ?_;intro c hat hwc;have hcc:=lit_inj (hat.symm.trans HAT.out);subst hcc;clear hat hwc)|(at_mapUpdate;refine wpList_mapUpdate_own _ rfl _ _ _ 93 rfl 3 3 Try.lawInt Try.underlying93 _ m _ _ rfl HOWN.out (by unfold maxLen;omega) _ _ _ rfl rfl HKEY.out (.lit (.int .i64 1)) [] (plainElem_int Try.underlying3 (by decide)) ?_;intro b1 hown1 hgrow1;have hk1:Keeps (λ b=>b=m) w4 b1:=Keeps.grown hgrow1 (λ j hj=>by injection hj with hj;exact hj.symm);replace HND:=Hd (HND.out.keeps hk1 (λ x _ hx e=>HF.out.apart 1 4 _ _ rfl rfl (by decide) x e hx));replace K:=Hd (K.out.trans hk1 (λ _ _ h=>h));replace HF:Hid (Fam b1 Nob [axOb M D0 p slots ids A,metOb m (met++[id]),muBlk P6 23 #[.int .i64 a0,.int .i64 a1,.int .i64 a2,.int .i64 a3,.int .i64 a4],rowOb 90 8 (.slice lA ks.length lc) ks.length (lkCells ks),lkOb D2 ks (.slice loA low.length loc) low,muBlk N14 75 #[.int .i64 s.nd.lvl,.slice X1 s.nd.high.length k1,.int .i64 s.nd.right,.slice X3 s.nd.keys.length k3,.slice X4 s.nd.vals.length k4,.slice X5 s.nd.kids.length k5]]):=Hd (HF.out.wr (i:=1) rfl hk1 (λ x _ e=>e) ⟨_,HMT.out.step id,by rw [List.length_append,List.length_singleton];exact hown1⟩ (λ x hx=>.inl hx) (λ x hx=>.inl hx) (λ _ h=>h));clear hown1 hgrow1 hk1))
   clear HAT HMT HOWN
   refine wp_region_list ?_
   refine wpList_takeS 4 [(some 87,.slice lA ks.length lc),(some 88,.int .i64 id),(some 89,.slice loA low.length loc),(some 90,.agg #[.int .i64 s.nd.lvl,.slice X1 s.nd.high.length k1,.int .i64 s.nd.right,.slice X3 s.nd.keys.length k3,.slice X4 s.nd.vals.length k4,.slice X5 s.nd.kids.length k5])] (λ W'=>W'=b1) ?_ ?_
   ·have n0:=(HF.out.ok 5 _ rfl:Blk b1 N14 _ _).cell 0
    have n1:=(HF.out.ok 5 _ rfl:Blk b1 N14 _ _).cell 1
    have n2:=(HF.out.ok 5 _ rfl:Blk b1 N14 _ _).cell 2
    have n3:=(HF.out.ok 5 _ rfl:Blk b1 N14 _ _).cell 3
    have n4:=(HF.out.ok 5 _ rfl:Blk b1 N14 _ _).cell 4
    have n5:=(HF.out.ok 5 _ rfl:Blk b1 N14 _ _).cell 5
    show wpList _ _ _ [_,_,_,_] _ _
    go_wp2
    exact ⟨by simp only [putsA,Act.put,sa_,sb_,sc_],rfl⟩
   intro b9 e9;replace e9:=e9.symm;subst e9
   simp only [putsA,Act.put,sa_,sb_,sc_]
   show wpList _ _ _ [_,_,_,_] _ _
   refine wpList_link rfl (.tmp 88) (.tmp 89) (.tmp 90) rfl rfl rfl rfl ?_
   simp only [Act.put,sa_,sb_,sc_]
   refine wpList_linkSl rfl (.tmp 91) rfl rfl ?_
   simp only [Act.put,sa_,sb_,sc_]
   obtain ⟨hi0,hz0,hz1,hz2⟩:=HJ.out
   refine wpList_app rfl (.tmp 87) (.tmp 92) 88 rfl Try.underlying88 hi0 hz0 hz1 hz2 rfl (by decide) (v:=.slice lA ks.length lc) (n:=ks.length) (m:=1) (S:=λ x=>(Value.slice lA ks.length lc).ownBlock=some x) (T:=λ _=>True) (xs:=lkCells ks) (news:=[.int .i64 id,.slice loA low.length loc,.int .i64 s.nd.lvl,.slice X1 s.nd.high.length k1,.int .i64 s.nd.right,.slice X3 s.nd.keys.length k3,.slice X4 s.nd.vals.length k4,.slice X5 s.nd.kids.length k5]) rfl ?c1 (y:=.slice (some ⟨b1.heap.size,0,none⟩) 1 1) rfl ?c2 ?c3 ?c4 ?c5 ?c6
   case c1=>exact (HF.out.nob0 (Keeps.alloc Nob _ _)).ok 3 _ rfl
   case c2=>exact (SlG.lit _ _ [.int .i64 id,.slice loA low.length loc,.int .i64 s.nd.lvl,.slice X1 s.nd.high.length k1,.int .i64 s.nd.right,.slice X3 s.nd.keys.length k3,.slice X4 s.nd.vals.length k4,.slice X5 s.nd.kids.length k5] 8 1 _ (by simp) rfl (by decide)).mono (λ _ _ _=>trivial)
   case c3=>intro u hu;simp at hu;rcases hu with rfl|rfl|rfl|rfl|rfl|rfl|rfl|rfl<;>rfl
   case c4=>unfold maxLen;omega
   case c5=>omega
   case c6=>
    intro v' b2 ho hk6 _
    obtain ⟨lA2,lc2,ev⟩:=ho.form
    subst ev
    have HLV2:Hid (∀ x,(Value.slice lA2 (ks.length+1) lc2).ownBlock=some x->P6<=x):=λ x hx=>by
     rcases (ho.blk hx).1 with h|h
     ·exact HLV.out x h
     ·have h1:=h.1;have h2:=K.out.size;have h3:=HP6.out;first|omega|(simp at h1;omega)
    replace HND:=Hd ((HND.out.keeps (Keeps.alloc Nob _ _) (λ _ _ _ h=>h)).keeps hk6 (λ x _ hd e=>HF.out.apart 3 4 _ _ rfl rfl (by decide) x e hd))
    replace K:=Hd ((K.out.alloc' _).trans hk6 (λ x hx e=>absurd hx (by have:=HP6.out;have:=HLV.out x e;omega)))
    replace HF:Hid (Fam b2 Nob [axOb M D0 p slots ids A,metOb m (met++[id]),muBlk P6 23 #[.int .i64 a0,.int .i64 a1,.int .i64 a2,.int .i64 a3,.int .i64 a4],rowOb 90 8 (.slice lA2 (ks.length+1) lc2) (ks.length+1) (lkCells ks++[.int .i64 id,.slice loA low.length loc,.int .i64 s.nd.lvl,.slice X1 s.nd.high.length k1,.int .i64 s.nd.right,.slice X3 s.nd.keys.length k3,.slice X4 s.nd.vals.length k4,.slice X5 s.nd.kids.length k5]),lkOb D2 ks (.slice loA low.length loc) low,muBlk N14 75 #[.int .i64 s.nd.lvl,.slice X1 s.nd.high.length k1,.int .i64 s.nd.right,.slice X3 s.nd.keys.length k3,.slice X4 s.nd.vals.length k4,.slice X5 s.nd.kids.length k5]]):=Hd ((HF.out.nob0 (Keeps.alloc Nob _ _)).app0 (i:=3) rfl hk6 (ho.mono (λ b _ hb=>hb.imp (λ h=>h) (λ h=>⟨by simpa using h.1,h.2⟩))))
    clear ho hk6 hi0 hz0 hz1 hz2
    have E1:(ks++[Lk.mk id low s.nd (.slice loA low.length loc) (.slice X1 s.nd.high.length k1) (.slice X3 s.nd.keys.length k3) (.slice X4 s.nd.vals.length k4) (.slice X5 s.nd.kids.length k5)]).length=ks.length+1:=by simp
    have E2:lkCells (ks++[Lk.mk id low s.nd (.slice loA low.length loc) (.slice X1 s.nd.high.length k1) (.slice X3 s.nd.keys.length k3) (.slice X4 s.nd.vals.length k4) (.slice X5 s.nd.kids.length k5)])=lkCells ks++[.int .i64 id,.slice loA low.length loc,.int .i64 s.nd.lvl,.slice X1 s.nd.high.length k1,.int .i64 s.nd.right,.slice X3 s.nd.keys.length k3,.slice X4 s.nd.vals.length k4,.slice X5 s.nd.kids.length k5]:=lkCells_snoc _ _
    have E3:(ks++[Lk.mk id low s.nd (.slice loA low.length loc) (.slice X1 s.nd.high.length k1) (.slice X3 s.nd.keys.length k3) (.slice X4 s.nd.vals.length k4) (.slice X5 s.nd.kids.length k5)]).map Lk.pr=ks.map Lk.pr++[(id,low)]:=by rw [List.map_append];rfl
    have h4:(∀ k ∈ ks,IsLk b2 D2 k)/\Byts b2 D2 (.slice loA low.length loc) low:=HF.out.ok 4 _ rfl
    have h5:∀ k ∈ ks++[Lk.mk id low s.nd (.slice loA low.length loc) (.slice X1 s.nd.high.length k1) (.slice X3 s.nd.keys.length k3) (.slice X4 s.nd.vals.length k4) (.slice X5 s.nd.kids.length k5)],IsLk b2 D2 k:=λ k hk=>by
     rcases List.mem_append.1 hk with hk|hk
     ·exact h4.1 k hk
     ·rw [List.mem_singleton.1 hk];exact ⟨h4.2,HND.out⟩
    have HNS2:Hid (∀ k ∈ ks++[Lk.mk id low s.nd (.slice loA low.length loc) (.slice X1 s.nd.high.length k1) (.slice X3 s.nd.keys.length k3) (.slice X4 s.nd.vals.length k4) (.slice X5 s.nd.kids.length k5)],∃ s,A.get k.id=some s/\s.nd=k.nd):=λ k hk=>by
     rcases List.mem_append.1 hk with hk|hk
     ·exact HNS.out k hk
     ·rw [List.mem_singleton.1 hk];exact ⟨s,HG.out,rfl⟩
    by_cases hr:s.nd.right=0
    ·as_aux_lemma=>
     have HT:Hid (Fam b2 Nob [axOb M D0 p slots ids A,metOb m (met++[id]),muBlk P6 23 #[.int .i64 a0,.int .i64 a1,.int .i64 a2,.int .i64 a3,.int .i64 a4],rowOb 90 8 (.slice lA2 (ks.length+1) lc2) (ks++[Lk.mk id low s.nd (.slice loA low.length loc) (.slice X1 s.nd.high.length k1) (.slice X3 s.nd.keys.length k3) (.slice X4 s.nd.vals.length k4) (.slice X5 s.nd.kids.length k5)]).length (lkCells (ks++[Lk.mk id low s.nd (.slice loA low.length loc) (.slice X1 s.nd.high.length k1) (.slice X3 s.nd.keys.length k3) (.slice X4 s.nd.vals.length k4) (.slice X5 s.nd.kids.length k5)])),lkOb D2 (ks++[Lk.mk id low s.nd (.slice loA low.length loc) (.slice X1 s.nd.high.length k1) (.slice X3 s.nd.keys.length k3) (.slice X4 s.nd.vals.length k4) (.slice X5 s.nd.kids.length k5)]) (.slice loA low.length loc) low,muBlk N14 75 #[.int .i64 s.nd.lvl,.slice X1 s.nd.high.length k1,.int .i64 s.nd.right,.slice X3 s.nd.keys.length k3,.slice X4 s.nd.vals.length k4,.slice X5 s.nd.kids.length k5]]):=by
      show Fam _ _ _
      rw [E1,E2]
      exact HF.out.swap (i:=4) rfl ⟨h5,h4.2⟩ (λ x hx=>hx) (λ x h=>h)
     have HX:Hid (R=(ks.map Lk.pr++[(id,low)],met++[id],.ok)):=by have h:=HR2.out;rw [HLB.out,if_neg (by decide),if_pos hr] at h;exact Hd h.symm
     have n2:=(HF.out.ok 5 _ rfl:Blk b2 N14 _ _).cell 2
     rw [hr] at n2
     clear hr E1 E2 h4 h5 HF HND HR2
     go_wp2_with fail
     rw [Exit.noGoto_ret]
     go_wp2
     obtain rfl:R=(ks.map Lk.pr++[(id,low)],met++[id],.ok):=HX.out
     refine bodyPost_ret (results_tmp rfl _ _ _) rfl ⟨K.out,.inl ⟨rfl,_,ks++[Lk.mk id low s.nd (.slice loA low.length loc) (.slice X1 s.nd.high.length k1) (.slice X3 s.nd.keys.length k3) (.slice X4 s.nd.vals.length k4) (.slice X5 s.nd.kids.length k5)],D2,rfl,E3,HNS2.out,(HT.out.ok 3 _ rfl:Own b2 _ 90 8 _ _ _).mono (λ x hx e=>⟨by have h1:=HLV2.out x e;have h2:=HP6.out;omega,hx⟩),(HT.out.ok 4 _ rfl:(∀ k ∈ _,IsLk b2 D2 k)/\_).1,λ x hx=>⟨⟨by have h1:=HDD.out x hx;have h2:=HP6.out;omega,HT.out.old 4 _ rfl x hx⟩,λ e=>HT.out.apart 3 4 _ _ rfl rfl (by decide) x e hx⟩,HT.out.ok 1 _ rfl⟩⟩
    have HT:Hid (Fam b2 Nob [axOb M D0 p slots ids A,metOb m (met++[id]),muBlk P6 23 #[.int .i64 a0,.int .i64 a1,.int .i64 a2,.int .i64 a3,.int .i64 a4],rowOb 90 8 (.slice lA2 (ks.length+1) lc2) (ks++[Lk.mk id low s.nd (.slice loA low.length loc) (.slice X1 s.nd.high.length k1) (.slice X3 s.nd.keys.length k3) (.slice X4 s.nd.vals.length k4) (.slice X5 s.nd.kids.length k5)]).length (lkCells (ks++[Lk.mk id low s.nd (.slice loA low.length loc) (.slice X1 s.nd.high.length k1) (.slice X3 s.nd.keys.length k3) (.slice X4 s.nd.vals.length k4) (.slice X5 s.nd.kids.length k5)])),lkOb D2 (ks++[Lk.mk id low s.nd (.slice loA low.length loc) (.slice X1 s.nd.high.length k1) (.slice X3 s.nd.keys.length k3) (.slice X4 s.nd.vals.length k4) (.slice X5 s.nd.kids.length k5)]) (.slice X1 s.nd.high.length k1) s.nd.high,muBlk N14 75 #[.int .i64 s.nd.lvl,.slice X1 s.nd.high.length k1,.int .i64 s.nd.right,.slice X3 s.nd.keys.length k3,.slice X4 s.nd.vals.length k4,.slice X5 s.nd.kids.length k5]]):=by
     show Fam _ _ _
     rw [E1,E2]
     exact HF.out.swap (i:=4) rfl ⟨h5,HND.out.1.high⟩ (λ x hx=>hx) (λ x h=>h)
    have HR3:Hid (chainM A (chkM a0 a1 a2 a3 a4) level (A.sl.length+1-(met++[id]).length) s.nd.right s.nd.high (met++[id]) ((ks++[Lk.mk id low s.nd (.slice loA low.length loc) (.slice X1 s.nd.high.length k1) (.slice X3 s.nd.keys.length k3) (.slice X4 s.nd.vals.length k4) (.slice X5 s.nd.kids.length k5)]).map Lk.pr)=R):=by have h:=HR2.out;rw [HLB.out,if_neg (by decide),if_neg hr] at h;rw [E3];exact Hd h
    have n1:=(HF.out.ok 5 _ rfl:Blk b2 N14 _ _).cell 1
    have n2:=(HF.out.ok 5 _ rfl:Blk b2 N14 _ _).cell 2
    have hr':(s.nd.right==0)=false:=by simpa using hr
    have HM2:=Hd (HM.out.snoc HG.out HCON.out)
    clear E2 E3 h4 h5 HF HND HR2 hr
    go_upto_region 16 with (fail)
    go_quiet (fail)
    go_wp2
    go_roundw
    case rel=>exact ⟨ks++[Lk.mk id low s.nd (.slice loA low.length loc) (.slice X1 s.nd.high.length k1) (.slice X3 s.nd.keys.length k3) (.slice X4 s.nd.vals.length k4) (.slice X5 s.nd.kids.length k5)],met++[id],s.nd.high,s.nd.right,D2,_,rfl,HM2.out,by rw [E1,List.length_append,List.length_singleton];omega,HR3.out,HT.out.nob0 (Keeps.drewN _ _ _),HDD.out,HLV2.out,HNS2.out,K.out.trans (Keeps.drewN Nob _ _) (λ _ _ h=>h.elim)⟩
    case measure=>simp only [lenS];omega
 have hh1:((s.nd.keys.length:Int)==0)=false:=by simp only [beq_eq_false_iff_ne];omega
 obtain ⟨ad,eX,_,hkc⟩:=Txts.cells HND.out.2.keys (i:=0) (by omega)
 subst eX
 obtain ⟨k0,kt,hks⟩:∃ k0 kt,s.nd.keys=k0::kt:=by
  rcases hk:s.nd.keys with _|⟨a,b⟩
  ·rw [hk] at hkz;simp at hkz
  ·exact ⟨a,b,rfl⟩
 obtain ⟨u,hu,hbu⟩:=hkc 0 k0 (by rw [hks];rfl)
 obtain ⟨KA,kc,ek,_,_⟩:=hbu.form
 subst ek
 have hu0:w4.cell? ad=some (.slice KA k0.length kc):=by have h:=hu;have e:ad.add 0=ad:=rfl;rw [e] at h;exact h
 have HKS:=Hd hks
 have HBU:=Hd hbu
 clear hks hbu hkc hu
 go_wp2_with fail
 clear n3 hh1 hu0
 refine (cmpP HBU.out (HF.out.ok 4 _ rfl:(∀ k ∈ ks,IsLk w4 D2 k)/\Byts w4 D2 _ low).2).mono ?_
 rintro e w6 ⟨rfl,rfl⟩
 by_cases hb1:cmp k0 low < 0
 ·have HLB:Hid (lowBad low s.nd=true):=by show _=_;unfold lowBad;rw [HKS.out,decide_eq_true hz'];simp only [keyBelow,decide_eq_true hb1];rfl
  have hd:decide (0<=cmp k0 low)=false:=decide_eq_false (by omega)
  go_wp2_with fail
  try rw [hd]
  refine (needNo _ _ _).mono ?_
  rintro e w4 ⟨rfl,rfl⟩
  obtain rfl:R=(ks.map Lk.pr,met,.wrong id 112):=by have h:=HR2.out;rw [HLB.out,if_pos rfl] at h;exact h.symm
  exact ⟨rfl,K.out,.inr ⟨rfl,rfl⟩⟩
 have HKB:Hid (keyBelow low s.nd.keys=false):=by show _=_;rw [HKS.out];exact decide_eq_false hb1
 have hd:decide (0<=cmp k0 low)=true:=decide_eq_true (by omega)
 go_wp2_with fail
 try rw [hd]
 clear hd
 refine (needOk _ _ _).mono ?_
 rintro e w4 ⟨rfl,rfl⟩
 have n1:=(HF.out.ok 5 _ rfl:Blk w4 N14 _ _).cell 1
 by_cases hhz:(0:Int) < (s.nd.high.length:Int)
 rotate_left
 ·have HLB:Hid (lowBad low s.nd=false):=by show _=_;unfold lowBad;rw [HKB.out,decide_eq_false (show ¬0 < s.nd.high.length by omega)];simp
  have hh0:((s.nd.high.length:Int)==0)=true:=by simp only [beq_iff_eq];omega
  go_wp2_with fail
  clear hh0 n1
  refine (needOk _ _ _).mono ?_
  rintro e w4 ⟨rfl,rfl⟩
  as_aux_lemma=>
   obtain ⟨Dm,hmt,hown⟩:=(HF.out.ok 1 _ rfl:∃ Dm,Met Dm met/\OwnsI w4 m met.length Dm)
   have HMT:=Hd hmt
   have HOWN:=Hd hown
   have HAT:Hid (Dm.atKey (.int .i64 id) (.lit (.int .i64 0))=.lit (.int .i64 0)):=by
    have h:=HMT.out.2 id
    rw [if_neg (by simpa using HCON.out)] at h
    exact Hd h
   clear hmt hown
   obtain ⟨j0,hj⟩:=info_parts Try.inf_link
   have HJ:=Hd hj
   clear hj
   go_upto_region 14 with (first|(at_lookup;refine wpList_lookup_own_int _ rfl _ _ 93 rfl 3 3 .i64 Try.lawInt Try.underlying93 Try.underlying3 (Try.zeroInt _) m _ _ rfl HOWN.out _ _ rfl HKEY.out ?_;intro c hat hwc;have hcc:=lit_inj (hat.symm.trans HAT.out);subst hcc;clear hat hwc)|(at_mapUpdate;refine wpList_mapUpdate_own _ rfl _ _ _ 93 rfl 3 3 Try.lawInt Try.underlying93 _ m _ _ rfl HOWN.out (by unfold maxLen;omega) _ _ _ rfl rfl HKEY.out (.lit (.int .i64 1)) [] (plainElem_int Try.underlying3 (by decide)) ?_;intro b1 hown1 hgrow1;have hk1:Keeps (λ b=>b=m) w4 b1:=Keeps.grown hgrow1 (λ j hj=>by injection hj with hj;exact hj.symm);replace HND:=Hd (HND.out.keeps hk1 (λ x _ hx e=>HF.out.apart 1 4 _ _ rfl rfl (by decide) x e hx));replace K:=Hd (K.out.trans hk1 (λ _ _ h=>h));replace HF:Hid (Fam b1 Nob [axOb M D0 p slots ids A,metOb m (met++[id]),muBlk P6 23 #[.int .i64 a0,.int .i64 a1,.int .i64 a2,.int .i64 a3,.int .i64 a4],rowOb 90 8 (.slice lA ks.length lc) ks.length (lkCells ks),lkOb D2 ks (.slice loA low.length loc) low,muBlk N14 75 #[.int .i64 s.nd.lvl,.slice X1 s.nd.high.length k1,.int .i64 s.nd.right,.slice (some ad) s.nd.keys.length k3,.slice X4 s.nd.vals.length k4,.slice X5 s.nd.kids.length k5]]):=Hd (HF.out.wr (i:=1) rfl hk1 (λ x _ e=>e) ⟨_,HMT.out.step id,by rw [List.length_append,List.length_singleton];exact hown1⟩ (λ x hx=>.inl hx) (λ x hx=>.inl hx) (λ _ h=>h));clear hown1 hgrow1 hk1))
   clear HAT HMT HOWN
   refine wp_region_list ?_
   refine wpList_takeS 4 [(some 87,.slice lA ks.length lc),(some 88,.int .i64 id),(some 89,.slice loA low.length loc),(some 90,.agg #[.int .i64 s.nd.lvl,.slice X1 s.nd.high.length k1,.int .i64 s.nd.right,.slice (some ad) s.nd.keys.length k3,.slice X4 s.nd.vals.length k4,.slice X5 s.nd.kids.length k5])] (λ W'=>W'=b1) ?_ ?_
   ·have n0:=(HF.out.ok 5 _ rfl:Blk b1 N14 _ _).cell 0
    have n1:=(HF.out.ok 5 _ rfl:Blk b1 N14 _ _).cell 1
    have n2:=(HF.out.ok 5 _ rfl:Blk b1 N14 _ _).cell 2
    have n3:=(HF.out.ok 5 _ rfl:Blk b1 N14 _ _).cell 3
    have n4:=(HF.out.ok 5 _ rfl:Blk b1 N14 _ _).cell 4
    have n5:=(HF.out.ok 5 _ rfl:Blk b1 N14 _ _).cell 5
    show wpList _ _ _ [_,_,_,_] _ _
    go_wp2
    exact ⟨by simp only [putsA,Act.put,sa_,sb_,sc_],rfl⟩
   intro b9 e9;replace e9:=e9.symm;subst e9
   simp only [putsA,Act.put,sa_,sb_,sc_]
   show wpList _ _ _ [_,_,_,_] _ _
   refine wpList_link rfl (.tmp 88) (.tmp 89) (.tmp 90) rfl rfl rfl rfl ?_
   simp only [Act.put,sa_,sb_,sc_]
   refine wpList_linkSl rfl (.tmp 91) rfl rfl ?_
   simp only [Act.put,sa_,sb_,sc_]
   obtain ⟨hi0,hz0,hz1,hz2⟩:=HJ.out
   refine wpList_app rfl (.tmp 87) (.tmp 92) 88 rfl Try.underlying88 hi0 hz0 hz1 hz2 rfl (by decide) (v:=.slice lA ks.length lc) (n:=ks.length) (m:=1) (S:=λ x=>(Value.slice lA ks.length lc).ownBlock=some x) (T:=λ _=>True) (xs:=lkCells ks) (news:=[.int .i64 id,.slice loA low.length loc,.int .i64 s.nd.lvl,.slice X1 s.nd.high.length k1,.int .i64 s.nd.right,.slice (some ad) s.nd.keys.length k3,.slice X4 s.nd.vals.length k4,.slice X5 s.nd.kids.length k5]) rfl ?c1 (y:=.slice (some ⟨b1.heap.size,0,none⟩) 1 1) rfl ?c2 ?c3 ?c4 ?c5 ?c6
   case c1=>exact (HF.out.nob0 (Keeps.alloc Nob _ _)).ok 3 _ rfl
   case c2=>exact (SlG.lit _ _ [.int .i64 id,.slice loA low.length loc,.int .i64 s.nd.lvl,.slice X1 s.nd.high.length k1,.int .i64 s.nd.right,.slice (some ad) s.nd.keys.length k3,.slice X4 s.nd.vals.length k4,.slice X5 s.nd.kids.length k5] 8 1 _ (by simp) rfl (by decide)).mono (λ _ _ _=>trivial)
   case c3=>intro u hu;simp at hu;rcases hu with rfl|rfl|rfl|rfl|rfl|rfl|rfl|rfl<;>rfl
   case c4=>unfold maxLen;omega
   case c5=>omega
   case c6=>
    intro v' b2 ho hk6 _
    obtain ⟨lA2,lc2,ev⟩:=ho.form
    subst ev
    have HLV2:Hid (∀ x,(Value.slice lA2 (ks.length+1) lc2).ownBlock=some x->P6<=x):=λ x hx=>by
     rcases (ho.blk hx).1 with h|h
     ·exact HLV.out x h
     ·have h1:=h.1;have h2:=K.out.size;have h3:=HP6.out;first|omega|(simp at h1;omega)
    replace HND:=Hd ((HND.out.keeps (Keeps.alloc Nob _ _) (λ _ _ _ h=>h)).keeps hk6 (λ x _ hd e=>HF.out.apart 3 4 _ _ rfl rfl (by decide) x e hd))
    replace K:=Hd ((K.out.alloc' _).trans hk6 (λ x hx e=>absurd hx (by have:=HP6.out;have:=HLV.out x e;omega)))
    replace HF:Hid (Fam b2 Nob [axOb M D0 p slots ids A,metOb m (met++[id]),muBlk P6 23 #[.int .i64 a0,.int .i64 a1,.int .i64 a2,.int .i64 a3,.int .i64 a4],rowOb 90 8 (.slice lA2 (ks.length+1) lc2) (ks.length+1) (lkCells ks++[.int .i64 id,.slice loA low.length loc,.int .i64 s.nd.lvl,.slice X1 s.nd.high.length k1,.int .i64 s.nd.right,.slice (some ad) s.nd.keys.length k3,.slice X4 s.nd.vals.length k4,.slice X5 s.nd.kids.length k5]),lkOb D2 ks (.slice loA low.length loc) low,muBlk N14 75 #[.int .i64 s.nd.lvl,.slice X1 s.nd.high.length k1,.int .i64 s.nd.right,.slice (some ad) s.nd.keys.length k3,.slice X4 s.nd.vals.length k4,.slice X5 s.nd.kids.length k5]]):=Hd ((HF.out.nob0 (Keeps.alloc Nob _ _)).app0 (i:=3) rfl hk6 (ho.mono (λ b _ hb=>hb.imp (λ h=>h) (λ h=>⟨by simpa using h.1,h.2⟩))))
    clear ho hk6 hi0 hz0 hz1 hz2
    have E1:(ks++[Lk.mk id low s.nd (.slice loA low.length loc) (.slice X1 s.nd.high.length k1) (.slice (some ad) s.nd.keys.length k3) (.slice X4 s.nd.vals.length k4) (.slice X5 s.nd.kids.length k5)]).length=ks.length+1:=by simp
    have E2:lkCells (ks++[Lk.mk id low s.nd (.slice loA low.length loc) (.slice X1 s.nd.high.length k1) (.slice (some ad) s.nd.keys.length k3) (.slice X4 s.nd.vals.length k4) (.slice X5 s.nd.kids.length k5)])=lkCells ks++[.int .i64 id,.slice loA low.length loc,.int .i64 s.nd.lvl,.slice X1 s.nd.high.length k1,.int .i64 s.nd.right,.slice (some ad) s.nd.keys.length k3,.slice X4 s.nd.vals.length k4,.slice X5 s.nd.kids.length k5]:=lkCells_snoc _ _
    have E3:(ks++[Lk.mk id low s.nd (.slice loA low.length loc) (.slice X1 s.nd.high.length k1) (.slice (some ad) s.nd.keys.length k3) (.slice X4 s.nd.vals.length k4) (.slice X5 s.nd.kids.length k5)]).map Lk.pr=ks.map Lk.pr++[(id,low)]:=by rw [List.map_append];rfl
    have h4:(∀ k ∈ ks,IsLk b2 D2 k)/\Byts b2 D2 (.slice loA low.length loc) low:=HF.out.ok 4 _ rfl
    have h5:∀ k ∈ ks++[Lk.mk id low s.nd (.slice loA low.length loc) (.slice X1 s.nd.high.length k1) (.slice (some ad) s.nd.keys.length k3) (.slice X4 s.nd.vals.length k4) (.slice X5 s.nd.kids.length k5)],IsLk b2 D2 k:=λ k hk=>by
     rcases List.mem_append.1 hk with hk|hk
     ·exact h4.1 k hk
     ·rw [List.mem_singleton.1 hk];exact ⟨h4.2,HND.out⟩
    have HNS2:Hid (∀ k ∈ ks++[Lk.mk id low s.nd (.slice loA low.length loc) (.slice X1 s.nd.high.length k1) (.slice (some ad) s.nd.keys.length k3) (.slice X4 s.nd.vals.length k4) (.slice X5 s.nd.kids.length k5)],∃ s,A.get k.id=some s/\s.nd=k.nd):=λ k hk=>by
     rcases List.mem_append.1 hk with hk|hk
     ·exact HNS.out k hk
     ·rw [List.mem_singleton.1 hk];exact ⟨s,HG.out,rfl⟩
    by_cases hr:s.nd.right=0
    ·as_aux_lemma=>
     have HT:Hid (Fam b2 Nob [axOb M D0 p slots ids A,metOb m (met++[id]),muBlk P6 23 #[.int .i64 a0,.int .i64 a1,.int .i64 a2,.int .i64 a3,.int .i64 a4],rowOb 90 8 (.slice lA2 (ks.length+1) lc2) (ks++[Lk.mk id low s.nd (.slice loA low.length loc) (.slice X1 s.nd.high.length k1) (.slice (some ad) s.nd.keys.length k3) (.slice X4 s.nd.vals.length k4) (.slice X5 s.nd.kids.length k5)]).length (lkCells (ks++[Lk.mk id low s.nd (.slice loA low.length loc) (.slice X1 s.nd.high.length k1) (.slice (some ad) s.nd.keys.length k3) (.slice X4 s.nd.vals.length k4) (.slice X5 s.nd.kids.length k5)])),lkOb D2 (ks++[Lk.mk id low s.nd (.slice loA low.length loc) (.slice X1 s.nd.high.length k1) (.slice (some ad) s.nd.keys.length k3) (.slice X4 s.nd.vals.length k4) (.slice X5 s.nd.kids.length k5)]) (.slice loA low.length loc) low,muBlk N14 75 #[.int .i64 s.nd.lvl,.slice X1 s.nd.high.length k1,.int .i64 s.nd.right,.slice (some ad) s.nd.keys.length k3,.slice X4 s.nd.vals.length k4,.slice X5 s.nd.kids.length k5]]):=by
      show Fam _ _ _
      rw [E1,E2]
      exact HF.out.swap (i:=4) rfl ⟨h5,h4.2⟩ (λ x hx=>hx) (λ x h=>h)
     have HX:Hid (R=(ks.map Lk.pr++[(id,low)],met++[id],.ok)):=by have h:=HR2.out;rw [HLB.out,if_neg (by decide),if_pos hr] at h;exact Hd h.symm
     have n2:=(HF.out.ok 5 _ rfl:Blk b2 N14 _ _).cell 2
     rw [hr] at n2
     clear hr E1 E2 h4 h5 HF HND HR2
     go_wp2_with fail
     rw [Exit.noGoto_ret]
     go_wp2
     obtain rfl:R=(ks.map Lk.pr++[(id,low)],met++[id],.ok):=HX.out
     refine bodyPost_ret (results_tmp rfl _ _ _) rfl ⟨K.out,.inl ⟨rfl,_,ks++[Lk.mk id low s.nd (.slice loA low.length loc) (.slice X1 s.nd.high.length k1) (.slice (some ad) s.nd.keys.length k3) (.slice X4 s.nd.vals.length k4) (.slice X5 s.nd.kids.length k5)],D2,rfl,E3,HNS2.out,(HT.out.ok 3 _ rfl:Own b2 _ 90 8 _ _ _).mono (λ x hx e=>⟨by have h1:=HLV2.out x e;have h2:=HP6.out;omega,hx⟩),(HT.out.ok 4 _ rfl:(∀ k ∈ _,IsLk b2 D2 k)/\_).1,λ x hx=>⟨⟨by have h1:=HDD.out x hx;have h2:=HP6.out;omega,HT.out.old 4 _ rfl x hx⟩,λ e=>HT.out.apart 3 4 _ _ rfl rfl (by decide) x e hx⟩,HT.out.ok 1 _ rfl⟩⟩
    have HT:Hid (Fam b2 Nob [axOb M D0 p slots ids A,metOb m (met++[id]),muBlk P6 23 #[.int .i64 a0,.int .i64 a1,.int .i64 a2,.int .i64 a3,.int .i64 a4],rowOb 90 8 (.slice lA2 (ks.length+1) lc2) (ks++[Lk.mk id low s.nd (.slice loA low.length loc) (.slice X1 s.nd.high.length k1) (.slice (some ad) s.nd.keys.length k3) (.slice X4 s.nd.vals.length k4) (.slice X5 s.nd.kids.length k5)]).length (lkCells (ks++[Lk.mk id low s.nd (.slice loA low.length loc) (.slice X1 s.nd.high.length k1) (.slice (some ad) s.nd.keys.length k3) (.slice X4 s.nd.vals.length k4) (.slice X5 s.nd.kids.length k5)])),lkOb D2 (ks++[Lk.mk id low s.nd (.slice loA low.length loc) (.slice X1 s.nd.high.length k1) (.slice (some ad) s.nd.keys.length k3) (.slice X4 s.nd.vals.length k4) (.slice X5 s.nd.kids.length k5)]) (.slice X1 s.nd.high.length k1) s.nd.high,muBlk N14 75 #[.int .i64 s.nd.lvl,.slice X1 s.nd.high.length k1,.int .i64 s.nd.right,.slice (some ad) s.nd.keys.length k3,.slice X4 s.nd.vals.length k4,.slice X5 s.nd.kids.length k5]]):=by
     show Fam _ _ _
     rw [E1,E2]
     exact HF.out.swap (i:=4) rfl ⟨h5,HND.out.1.high⟩ (λ x hx=>hx) (λ x h=>h)
    have HR3:Hid (chainM A (chkM a0 a1 a2 a3 a4) level (A.sl.length+1-(met++[id]).length) s.nd.right s.nd.high (met++[id]) ((ks++[Lk.mk id low s.nd (.slice loA low.length loc) (.slice X1 s.nd.high.length k1) (.slice (some ad) s.nd.keys.length k3) (.slice X4 s.nd.vals.length k4) (.slice X5 s.nd.kids.length k5)]).map Lk.pr)=R):=by have h:=HR2.out;rw [HLB.out,if_neg (by decide),if_neg hr] at h;rw [E3];exact Hd h
    have n1:=(HF.out.ok 5 _ rfl:Blk b2 N14 _ _).cell 1
    have n2:=(HF.out.ok 5 _ rfl:Blk b2 N14 _ _).cell 2
    have hr':(s.nd.right==0)=false:=by simpa using hr
    have HM2:=Hd (HM.out.snoc HG.out HCON.out)
    clear E2 E3 h4 h5 HF HND HR2 hr
    go_upto_region 16 with (fail)
    go_quiet (fail)
    go_wp2
    go_roundw
    case rel=>exact ⟨ks++[Lk.mk id low s.nd (.slice loA low.length loc) (.slice X1 s.nd.high.length k1) (.slice (some ad) s.nd.keys.length k3) (.slice X4 s.nd.vals.length k4) (.slice X5 s.nd.kids.length k5)],met++[id],s.nd.high,s.nd.right,D2,_,rfl,HM2.out,by rw [E1,List.length_append,List.length_singleton];omega,HR3.out,HT.out.nob0 (Keeps.drewN _ _ _),HDD.out,HLV2.out,HNS2.out,K.out.trans (Keeps.drewN Nob _ _) (λ _ _ h=>h.elim)⟩
    case measure=>simp only [lenS];omega
 have hh1:((s.nd.high.length:Int)==0)=false:=by simp only [beq_eq_false_iff_ne];omega
 go_wp2_with fail
 clear n1 hh1
 refine (cmpP HND.out.1.high (HF.out.ok 4 _ rfl:(∀ k ∈ ks,IsLk w4 D2 k)/\Byts w4 D2 _ low).2).mono ?_
 rintro e w6 ⟨rfl,rfl⟩
 by_cases hb2:cmp s.nd.high low<=0
 ·have HLB:Hid (lowBad low s.nd=true):=by show _=_;unfold lowBad;rw [HKB.out,decide_eq_true hz',decide_eq_true (show 0 < s.nd.high.length by omega),decide_eq_true hb2];rfl
  have hd:decide (0 < cmp s.nd.high low)=false:=decide_eq_false (by omega)
  go_wp2_with fail
  try rw [hd]
  refine (needNo _ _ _).mono ?_
  rintro e w4 ⟨rfl,rfl⟩
  obtain rfl:R=(ks.map Lk.pr,met,.wrong id 112):=by have h:=HR2.out;rw [HLB.out,if_pos rfl] at h;exact h.symm
  exact ⟨rfl,K.out,.inr ⟨rfl,rfl⟩⟩
 have HLB:Hid (lowBad low s.nd=false):=by show _=_;unfold lowBad;rw [HKB.out,decide_eq_false hb2];simp
 have hd:decide (0 < cmp s.nd.high low)=true:=decide_eq_true (by omega)
 go_wp2_with fail
 try rw [hd]
 clear hd
 refine (needOk _ _ _).mono ?_
 rintro e w4 ⟨rfl,rfl⟩
 as_aux_lemma=>
  obtain ⟨Dm,hmt,hown⟩:=(HF.out.ok 1 _ rfl:∃ Dm,Met Dm met/\OwnsI w4 m met.length Dm)
  have HMT:=Hd hmt
  have HOWN:=Hd hown
  have HAT:Hid (Dm.atKey (.int .i64 id) (.lit (.int .i64 0))=.lit (.int .i64 0)):=by
   have h:=HMT.out.2 id
   rw [if_neg (by simpa using HCON.out)] at h
   exact Hd h
  clear hmt hown
  obtain ⟨j0,hj⟩:=info_parts Try.inf_link
  have HJ:=Hd hj
  clear hj
  go_upto_region 14 with (first|(at_lookup;refine wpList_lookup_own_int _ rfl _ _ 93 rfl 3 3 .i64 Try.lawInt Try.underlying93 Try.underlying3 (Try.zeroInt _) m _ _ rfl HOWN.out _ _ rfl HKEY.out ?_;intro c hat hwc;have hcc:=lit_inj (hat.symm.trans HAT.out);subst hcc;clear hat hwc)|(at_mapUpdate;refine wpList_mapUpdate_own _ rfl _ _ _ 93 rfl 3 3 Try.lawInt Try.underlying93 _ m _ _ rfl HOWN.out (by unfold maxLen;omega) _ _ _ rfl rfl HKEY.out (.lit (.int .i64 1)) [] (plainElem_int Try.underlying3 (by decide)) ?_;intro b1 hown1 hgrow1;have hk1:Keeps (λ b=>b=m) w4 b1:=Keeps.grown hgrow1 (λ j hj=>by injection hj with hj;exact hj.symm);replace HND:=Hd (HND.out.keeps hk1 (λ x _ hx e=>HF.out.apart 1 4 _ _ rfl rfl (by decide) x e hx));replace K:=Hd (K.out.trans hk1 (λ _ _ h=>h));replace HF:Hid (Fam b1 Nob [axOb M D0 p slots ids A,metOb m (met++[id]),muBlk P6 23 #[.int .i64 a0,.int .i64 a1,.int .i64 a2,.int .i64 a3,.int .i64 a4],rowOb 90 8 (.slice lA ks.length lc) ks.length (lkCells ks),lkOb D2 ks (.slice loA low.length loc) low,muBlk N14 75 #[.int .i64 s.nd.lvl,.slice X1 s.nd.high.length k1,.int .i64 s.nd.right,.slice (some ad) s.nd.keys.length k3,.slice X4 s.nd.vals.length k4,.slice X5 s.nd.kids.length k5]]):=Hd (HF.out.wr (i:=1) rfl hk1 (λ x _ e=>e) ⟨_,HMT.out.step id,by rw [List.length_append,List.length_singleton];exact hown1⟩ (λ x hx=>.inl hx) (λ x hx=>.inl hx) (λ _ h=>h));clear hown1 hgrow1 hk1))
  clear HAT HMT HOWN
  refine wp_region_list ?_
  refine wpList_takeS 4 [(some 87,.slice lA ks.length lc),(some 88,.int .i64 id),(some 89,.slice loA low.length loc),(some 90,.agg #[.int .i64 s.nd.lvl,.slice X1 s.nd.high.length k1,.int .i64 s.nd.right,.slice (some ad) s.nd.keys.length k3,.slice X4 s.nd.vals.length k4,.slice X5 s.nd.kids.length k5])] (λ W'=>W'=b1) ?_ ?_
  ·have n0:=(HF.out.ok 5 _ rfl:Blk b1 N14 _ _).cell 0
   have n1:=(HF.out.ok 5 _ rfl:Blk b1 N14 _ _).cell 1
   have n2:=(HF.out.ok 5 _ rfl:Blk b1 N14 _ _).cell 2
   have n3:=(HF.out.ok 5 _ rfl:Blk b1 N14 _ _).cell 3
   have n4:=(HF.out.ok 5 _ rfl:Blk b1 N14 _ _).cell 4
   have n5:=(HF.out.ok 5 _ rfl:Blk b1 N14 _ _).cell 5
   show wpList _ _ _ [_,_,_,_] _ _
   go_wp2
   exact ⟨by simp only [putsA,Act.put,sa_,sb_,sc_],rfl⟩
  intro b9 e9;replace e9:=e9.symm;subst e9
  simp only [putsA,Act.put,sa_,sb_,sc_]
  show wpList _ _ _ [_,_,_,_] _ _
  refine wpList_link rfl (.tmp 88) (.tmp 89) (.tmp 90) rfl rfl rfl rfl ?_
  simp only [Act.put,sa_,sb_,sc_]
  refine wpList_linkSl rfl (.tmp 91) rfl rfl ?_
  simp only [Act.put,sa_,sb_,sc_]
  obtain ⟨hi0,hz0,hz1,hz2⟩:=HJ.out
  refine wpList_app rfl (.tmp 87) (.tmp 92) 88 rfl Try.underlying88 hi0 hz0 hz1 hz2 rfl (by decide) (v:=.slice lA ks.length lc) (n:=ks.length) (m:=1) (S:=λ x=>(Value.slice lA ks.length lc).ownBlock=some x) (T:=λ _=>True) (xs:=lkCells ks) (news:=[.int .i64 id,.slice loA low.length loc,.int .i64 s.nd.lvl,.slice X1 s.nd.high.length k1,.int .i64 s.nd.right,.slice (some ad) s.nd.keys.length k3,.slice X4 s.nd.vals.length k4,.slice X5 s.nd.kids.length k5]) rfl ?c1 (y:=.slice (some ⟨b1.heap.size,0,none⟩) 1 1) rfl ?c2 ?c3 ?c4 ?c5 ?c6
  case c1=>exact (HF.out.nob0 (Keeps.alloc Nob _ _)).ok 3 _ rfl
  case c2=>exact (SlG.lit _ _ [.int .i64 id,.slice loA low.length loc,.int .i64 s.nd.lvl,.slice X1 s.nd.high.length k1,.int .i64 s.nd.right,.slice (some ad) s.nd.keys.length k3,.slice X4 s.nd.vals.length k4,.slice X5 s.nd.kids.length k5] 8 1 _ (by simp) rfl (by decide)).mono (λ _ _ _=>trivial)
  case c3=>intro u hu;simp at hu;rcases hu with rfl|rfl|rfl|rfl|rfl|rfl|rfl|rfl<;>rfl
  case c4=>unfold maxLen;omega
  case c5=>omega
  case c6=>
   intro v' b2 ho hk6 _
   obtain ⟨lA2,lc2,ev⟩:=ho.form
   subst ev
   have HLV2:Hid (∀ x,(Value.slice lA2 (ks.length+1) lc2).ownBlock=some x->P6<=x):=λ x hx=>by
    rcases (ho.blk hx).1 with h|h
    ·exact HLV.out x h
    ·have h1:=h.1;have h2:=K.out.size;have h3:=HP6.out;first|omega|(simp at h1;omega)
   replace HND:=Hd ((HND.out.keeps (Keeps.alloc Nob _ _) (λ _ _ _ h=>h)).keeps hk6 (λ x _ hd e=>HF.out.apart 3 4 _ _ rfl rfl (by decide) x e hd))
   replace K:=Hd ((K.out.alloc' _).trans hk6 (λ x hx e=>absurd hx (by have:=HP6.out;have:=HLV.out x e;omega)))
   replace HF:Hid (Fam b2 Nob [axOb M D0 p slots ids A,metOb m (met++[id]),muBlk P6 23 #[.int .i64 a0,.int .i64 a1,.int .i64 a2,.int .i64 a3,.int .i64 a4],rowOb 90 8 (.slice lA2 (ks.length+1) lc2) (ks.length+1) (lkCells ks++[.int .i64 id,.slice loA low.length loc,.int .i64 s.nd.lvl,.slice X1 s.nd.high.length k1,.int .i64 s.nd.right,.slice (some ad) s.nd.keys.length k3,.slice X4 s.nd.vals.length k4,.slice X5 s.nd.kids.length k5]),lkOb D2 ks (.slice loA low.length loc) low,muBlk N14 75 #[.int .i64 s.nd.lvl,.slice X1 s.nd.high.length k1,.int .i64 s.nd.right,.slice (some ad) s.nd.keys.length k3,.slice X4 s.nd.vals.length k4,.slice X5 s.nd.kids.length k5]]):=Hd ((HF.out.nob0 (Keeps.alloc Nob _ _)).app0 (i:=3) rfl hk6 (ho.mono (λ b _ hb=>hb.imp (λ h=>h) (λ h=>⟨by simpa using h.1,h.2⟩))))
   clear ho hk6 hi0 hz0 hz1 hz2
   have E1:(ks++[Lk.mk id low s.nd (.slice loA low.length loc) (.slice X1 s.nd.high.length k1) (.slice (some ad) s.nd.keys.length k3) (.slice X4 s.nd.vals.length k4) (.slice X5 s.nd.kids.length k5)]).length=ks.length+1:=by simp
   have E2:lkCells (ks++[Lk.mk id low s.nd (.slice loA low.length loc) (.slice X1 s.nd.high.length k1) (.slice (some ad) s.nd.keys.length k3) (.slice X4 s.nd.vals.length k4) (.slice X5 s.nd.kids.length k5)])=lkCells ks++[.int .i64 id,.slice loA low.length loc,.int .i64 s.nd.lvl,.slice X1 s.nd.high.length k1,.int .i64 s.nd.right,.slice (some ad) s.nd.keys.length k3,.slice X4 s.nd.vals.length k4,.slice X5 s.nd.kids.length k5]:=lkCells_snoc _ _
   have E3:(ks++[Lk.mk id low s.nd (.slice loA low.length loc) (.slice X1 s.nd.high.length k1) (.slice (some ad) s.nd.keys.length k3) (.slice X4 s.nd.vals.length k4) (.slice X5 s.nd.kids.length k5)]).map Lk.pr=ks.map Lk.pr++[(id,low)]:=by rw [List.map_append];rfl
   have h4:(∀ k ∈ ks,IsLk b2 D2 k)/\Byts b2 D2 (.slice loA low.length loc) low:=HF.out.ok 4 _ rfl
   have h5:∀ k ∈ ks++[Lk.mk id low s.nd (.slice loA low.length loc) (.slice X1 s.nd.high.length k1) (.slice (some ad) s.nd.keys.length k3) (.slice X4 s.nd.vals.length k4) (.slice X5 s.nd.kids.length k5)],IsLk b2 D2 k:=λ k hk=>by
    rcases List.mem_append.1 hk with hk|hk
    ·exact h4.1 k hk
    ·rw [List.mem_singleton.1 hk];exact ⟨h4.2,HND.out⟩
   have HNS2:Hid (∀ k ∈ ks++[Lk.mk id low s.nd (.slice loA low.length loc) (.slice X1 s.nd.high.length k1) (.slice (some ad) s.nd.keys.length k3) (.slice X4 s.nd.vals.length k4) (.slice X5 s.nd.kids.length k5)],∃ s,A.get k.id=some s/\s.nd=k.nd):=λ k hk=>by
    rcases List.mem_append.1 hk with hk|hk
    ·exact HNS.out k hk
    ·rw [List.mem_singleton.1 hk];exact ⟨s,HG.out,rfl⟩
   by_cases hr:s.nd.right=0
   ·as_aux_lemma=>
    have HT:Hid (Fam b2 Nob [axOb M D0 p slots ids A,metOb m (met++[id]),muBlk P6 23 #[.int .i64 a0,.int .i64 a1,.int .i64 a2,.int .i64 a3,.int .i64 a4],rowOb 90 8 (.slice lA2 (ks.length+1) lc2) (ks++[Lk.mk id low s.nd (.slice loA low.length loc) (.slice X1 s.nd.high.length k1) (.slice (some ad) s.nd.keys.length k3) (.slice X4 s.nd.vals.length k4) (.slice X5 s.nd.kids.length k5)]).length (lkCells (ks++[Lk.mk id low s.nd (.slice loA low.length loc) (.slice X1 s.nd.high.length k1) (.slice (some ad) s.nd.keys.length k3) (.slice X4 s.nd.vals.length k4) (.slice X5 s.nd.kids.length k5)])),lkOb D2 (ks++[Lk.mk id low s.nd (.slice loA low.length loc) (.slice X1 s.nd.high.length k1) (.slice (some ad) s.nd.keys.length k3) (.slice X4 s.nd.vals.length k4) (.slice X5 s.nd.kids.length k5)]) (.slice loA low.length loc) low,muBlk N14 75 #[.int .i64 s.nd.lvl,.slice X1 s.nd.high.length k1,.int .i64 s.nd.right,.slice (some ad) s.nd.keys.length k3,.slice X4 s.nd.vals.length k4,.slice X5 s.nd.kids.length k5]]):=by
     show Fam _ _ _
     rw [E1,E2]
     exact HF.out.swap (i:=4) rfl ⟨h5,h4.2⟩ (λ x hx=>hx) (λ x h=>h)
    have HX:Hid (R=(ks.map Lk.pr++[(id,low)],met++[id],.ok)):=by have h:=HR2.out;rw [HLB.out,if_neg (by decide),if_pos hr] at h;exact Hd h.symm
    have n2:=(HF.out.ok 5 _ rfl:Blk b2 N14 _ _).cell 2
    rw [hr] at n2
    clear hr E1 E2 h4 h5 HF HND HR2
    go_wp2_with fail
    rw [Exit.noGoto_ret]
    go_wp2
    obtain rfl:R=(ks.map Lk.pr++[(id,low)],met++[id],.ok):=HX.out
    refine bodyPost_ret (results_tmp rfl _ _ _) rfl ⟨K.out,.inl ⟨rfl,_,ks++[Lk.mk id low s.nd (.slice loA low.length loc) (.slice X1 s.nd.high.length k1) (.slice (some ad) s.nd.keys.length k3) (.slice X4 s.nd.vals.length k4) (.slice X5 s.nd.kids.length k5)],D2,rfl,E3,HNS2.out,(HT.out.ok 3 _ rfl:Own b2 _ 90 8 _ _ _).mono (λ x hx e=>⟨by have h1:=HLV2.out x e;have h2:=HP6.out;omega,hx⟩),(HT.out.ok 4 _ rfl:(∀ k ∈ _,IsLk b2 D2 k)/\_).1,λ x hx=>⟨⟨by have h1:=HDD.out x hx;have h2:=HP6.out;omega,HT.out.old 4 _ rfl x hx⟩,λ e=>HT.out.apart 3 4 _ _ rfl rfl (by decide) x e hx⟩,HT.out.ok 1 _ rfl⟩⟩
   have HT:Hid (Fam b2 Nob [axOb M D0 p slots ids A,metOb m (met++[id]),muBlk P6 23 #[.int .i64 a0,.int .i64 a1,.int .i64 a2,.int .i64 a3,.int .i64 a4],rowOb 90 8 (.slice lA2 (ks.length+1) lc2) (ks++[Lk.mk id low s.nd (.slice loA low.length loc) (.slice X1 s.nd.high.length k1) (.slice (some ad) s.nd.keys.length k3) (.slice X4 s.nd.vals.length k4) (.slice X5 s.nd.kids.length k5)]).length (lkCells (ks++[Lk.mk id low s.nd (.slice loA low.length loc) (.slice X1 s.nd.high.length k1) (.slice (some ad) s.nd.keys.length k3) (.slice X4 s.nd.vals.length k4) (.slice X5 s.nd.kids.length k5)])),lkOb D2 (ks++[Lk.mk id low s.nd (.slice loA low.length loc) (.slice X1 s.nd.high.length k1) (.slice (some ad) s.nd.keys.length k3) (.slice X4 s.nd.vals.length k4) (.slice X5 s.nd.kids.length k5)]) (.slice X1 s.nd.high.length k1) s.nd.high,muBlk N14 75 #[.int .i64 s.nd.lvl,.slice X1 s.nd.high.length k1,.int .i64 s.nd.right,.slice (some ad) s.nd.keys.length k3,.slice X4 s.nd.vals.length k4,.slice X5 s.nd.kids.length k5]]):=by
    show Fam _ _ _
    rw [E1,E2]
    exact HF.out.swap (i:=4) rfl ⟨h5,HND.out.1.high⟩ (λ x hx=>hx) (λ x h=>h)
   have HR3:Hid (chainM A (chkM a0 a1 a2 a3 a4) level (A.sl.length+1-(met++[id]).length) s.nd.right s.nd.high (met++[id]) ((ks++[Lk.mk id low s.nd (.slice loA low.length loc) (.slice X1 s.nd.high.length k1) (.slice (some ad) s.nd.keys.length k3) (.slice X4 s.nd.vals.length k4) (.slice X5 s.nd.kids.length k5)]).map Lk.pr)=R):=by have h:=HR2.out;rw [HLB.out,if_neg (by decide),if_neg hr] at h;rw [E3];exact Hd h
   have n1:=(HF.out.ok 5 _ rfl:Blk b2 N14 _ _).cell 1
   have n2:=(HF.out.ok 5 _ rfl:Blk b2 N14 _ _).cell 2
   have hr':(s.nd.right==0)=false:=by simpa using hr
   have HM2:=Hd (HM.out.snoc HG.out HCON.out)
   clear E2 E3 h4 h5 HF HND HR2 hr
   go_upto_region 16 with (fail)
   go_quiet (fail)
   go_wp2
   go_roundw
   case rel=>exact ⟨ks++[Lk.mk id low s.nd (.slice loA low.length loc) (.slice X1 s.nd.high.length k1) (.slice (some ad) s.nd.keys.length k3) (.slice X4 s.nd.vals.length k4) (.slice X5 s.nd.kids.length k5)],met++[id],s.nd.high,s.nd.right,D2,_,rfl,HM2.out,by rw [E1,List.length_append,List.length_singleton];omega,HR3.out,HT.out.nob0 (Keeps.drewN _ _ _),HDD.out,HLV2.out,HNS2.out,K.out.trans (Keeps.drewN Nob _ _) (λ _ _ h=>h.elim)⟩
   case measure=>simp only [lenS];omega
end
end Go.Proofs.Ytjcgphhpaenjkaa

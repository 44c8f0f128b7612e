import Derived.Test.YtjcgphhpaenjkaaPkE2
set_option maxHeartbeats 64000000
set_option maxRecDepth 100000
set_option linter.unusedVariables false
namespace Go.Proofs.Ytjcgphhpaenjkaa
open Go.RowKit
section
variable {A:Ar} {a0 a1 a2 a3 a4:Int} {chk:Nd->Int}
def Rp.plain (r:Rp):Prop:=r=.ok\/r=.wrong r.node r.err
theorem chainM_plain {level:Int}:∀ (f:Nat) (id:Int) (low:List UInt8) (met:List Int) (acc:Ch),(chainM A chk level f id low met acc).2.2.plain
 | 0,_,_,_,_=>.inl rfl
 | f+1,id,low,met,acc=>by
  unfold chainM
  split
  ·exact .inr rfl
  split
  ·exact .inr rfl
  split
  ·exact .inr rfl
  split
  ·exact .inr rfl
  split
  ·exact .inr rfl
  split
  ·exact .inl rfl
  ·exact chainM_plain f _ _ _ _
theorem kidsM_plain {down:Ch}:∀ up:Ch,(kidsM A down up).plain
 | []=>.inl rfl
 | (id,low)::r=>by
  unfold kidsM
  split
  ·exact kidsM_plain r
  ·exact .inr rfl
theorem levelsFrom_plain:∀ (f:Nat) (level first:Int) (met:List Int) (out:List Ch),(levelsFrom A chk f level first met out).2.plain
 | 0,_,_,_,_=>.inl rfl
 | f+1,level,first,met,out=>by
  unfold levelsFrom
  simp only
  split
  ·exact chainM_plain _ _ _ _ _
  split
  ·unfold kidsLast
   split
   ·exact .inl rfl
   ·exact kidsM_plain _
  split
  ·exact .inl rfl
  ·exact levelsFrom_plain f _ _ _ _
theorem levelsM_plain:(levelsM A a0 a1 a2 a3 a4).2.plain:=by
 unfold levelsM
 split
 ·exact .inr rfl
 split
 ·exact .inr rfl
 split
 ·exact .inr rfl
 ·exact levelsFrom_plain _ _ _ _ _
theorem levels_facts {ls:List Ch} {R:Rp} (h:levelsM A a0 a1 a2 a3 a4=(ls,R)) (hs:R.sound=true) (hb:A.sl.length<=A.nodes/\A.nodes<=65536):∃ ch,ls[ls.length-1]?=some ch/\0 < ls.length/\nodesOf ls<=65536/\keysOf A ch<=64*65536/\(ls.length:Int)<=65536/\checkOf A ls R=⟨true,0,0,ls.length,nodesOf ls,keysOf A ch⟩:=by
 obtain ⟨hrp,hcf⟩:=levelsM_rp (A:=A) (a0:=a0) (a1:=a1) (a2:=a2) (a3:=a3) (a4:=a4) (by rw [h];exact hs)
 rw [h] at hrp
 have hrp2:R=.ok:=hrp
 subst hrp2
 obtain ⟨lv0,hT⟩:=levelsM_ok h rfl
 obtain ⟨ch,hch,hpos,hlast,hkl,hcl⟩:=last_chain hT
 have hnb:nodesOf ls<=A.sl.length:=by rw [nodesOf_flat];exact hT.len
 have ha1:a1<=64:=by unfold confOk at hcf;simp only [Bool.and_eq_true,decide_eq_true_eq] at hcf;exact hcf.2.1.2
 have hkb:keysOf A ch<=64*65536:=by
  have h:=keysOf_le (A:=A) (n:=64) ch (λ e he=>by obtain ⟨s,h1,h2⟩:=hkl e he;rw [opNd_get h1];omega)
  have h2:64*ch.length<=64*65536:=Nat.mul_le_mul_left _ (by omega)
  omega
 refine ⟨ch,hch,hpos,by omega,hkb,?_,by unfold checkOf;rw [if_neg (by decide),hlast]⟩
 have h2:ls.length<=nodesOf ls:=by
  rw [nodesOf_flat]
  have:∀ (l:List Ch),(∀ c ∈ l,c≠[])->l.length<=l.flatten.length:=λ l=>by
   induction l with
   | nil=>intro _;simp
   | cons c l ih=>
    intro hn
    have h1:=ih (λ x hx=>hn x (List.mem_cons_of_mem _ hx))
    have h2:0 < c.length:=List.length_pos_iff.2 (hn c (List.mem_cons_self ..))
    simp only [List.length_cons,List.flatten_cons,List.length_append]
    omega
  exact this ls (trs_ne hT.trs)
 omega
end
section
variable {w:World} {M D0:Nat->Prop} {p:Nat} {slots:Value} {ids:List Nat} {A:Ar} {a0 a1 a2 a3 a4:Int}
theorem pcheckR (h0:ArW w M D0 p slots ids A) (hsm:∀ s ∈ A.sl,NdSm 0 s.nd) (hkw:∀ s ∈ A.sl,∀ k ∈ s.nd.kids,K64 k) :
  Calls Try.prog 11 #[pV p,.agg #[.int .i64 a0,.int .i64 a1,.int .i64 a2,.int .i64 a3,.int .i64 a4]] w λ e w'=>e=.returned (.agg (rpV (checkM A a0 a1 a2 a3 a4)))/\Keeps Nob w w':=by
 have hbd:=h0.bound
 obtain ⟨ls,R,hR⟩:∃ ls R,levelsM A a0 a1 a2 a3 a4=(ls,R):=⟨_,_,rfl⟩
 have hcm:checkM A a0 a1 a2 a3 a4=checkOf A ls R:=by unfold checkM;rw [hR]
 rw [hcm]
 have H0:=Hd h0
 have HR:=Hd hR
 have FL:=λ wx (h:ArW wx M D0 p slots ids A)=>plevelsR h hsm hkw hR
 clear h0 hsm hkw hR hcm
 obtain ⟨P3,hP⟩:∃ N,w.heap.size=N:=⟨_,rfl⟩
 have HP:=Hd hP
 clear hP
 unfold pV at FL ⊢
 have hnn:∀ w:World,(binOp .eql 83 (.slice none 0 0) (.slice none 0 0)).run Try.prog w=.ok (.bool true) w:=λ _=>by kernel_rfl
 have hns:∀ (g o n c:Nat) (w:World),(binOp .eql 83 (.slice (some ⟨g,o,none⟩) n c) (.slice none 0 0)).run Try.prog w=.ok (.bool false) w:=λ _ _ _ _ _=>by kernel_rfl
 go_enter Try.func11,Try.ntmps11
 go_wp2_with fail
 rw [HP.out]
 refine calls_at (λ w1 hw=>?_)
 have K:Hid (Keeps Nob w w1):=by rw [hw];exact Hd ((Keeps.alloc _ _ _).alloc' _)
 have HF:Hid (Fam w1 Nob [muBlk P3 23 #[.int .i64 a0,.int .i64 a1,.int .i64 a2,.int .i64 a3,.int .i64 a4],muBlk (P3+1) 42 #[.bool false,.int .i64 0,.int .i64 0,.int .i64 0,.int .i64 0,.int .i64 0]]):=by
  rw [hw,<-HP.out]
  exact Hd ((Fam.nil.alloc' (t:=23) (cs:=#[.int .i64 a0,.int .i64 a1,.int .i64 a2,.int .i64 a3,.int .i64 a4]) rfl).alloc' (g:=w.heap.size+1) (t:=42) (cs:=#[.bool false,.int .i64 0,.int .i64 0,.int .i64 0,.int .i64 0,.int .i64 0]) (by simp))
 clear hw
 refine (FL _ (H0.out.keeps K.out (λ _ _ _ h=>h) (λ _ _ _ h=>h))).mono ?_
 rintro e w2 ⟨hk,hcase⟩
 replace HF:=Hd (HF.out.nob0 hk)
 replace K:=tq_ K hk
 clear hk FL H0
 rcases hcase with ⟨hs,v,lvs,rfl,hpos,hlm,hlok,hrow,hlv⟩|⟨hs,rfl⟩
 rotate_left
 ·have hpl:=levelsM_plain (A:=A) (a0:=a0) (a1:=a1) (a2:=a2) (a3:=a3) (a4:=a4)
  rw [HR.out] at hpl
  have hbad:checkOf A ls R=⟨false,R.node,R.err,0,0,0⟩:=by
   have hu:checkOf A ls R=R:=by unfold checkOf;rw [if_pos hs]
   rw [hu]
   rcases hpl with h|h
   ·have h2:R=.ok:=h
    rw [h2] at hs;cases hs
   ·exact h
  have HBAD:=Hd hbad
  clear hpl hbad hs
  simp only
  have f0:=((Blk.new w2 85 #[.int .i64 0,.int .i64 0])).frozen 0
  have z0:=((Blk.new w2 85 #[.int .i64 0,.int .i64 0])).cell 0
  have f1:=λ (v0:Value)=>(((Blk.new w2 85 #[.int .i64 0,.int .i64 0])).set_ 0 v0).frozen 1
  have z1:=λ (v0:Value)=>(((Blk.new w2 85 #[.int .i64 0,.int .i64 0])).set_ 0 v0).cell 1
  go_upto_region 3 with (fail)
  clear f0 z0 f1 z1
  obtain ⟨N6,hN⟩:∃ N,w2.heap.size=N:=⟨_,rfl⟩
  rw [hN]
  refine code_at (λ w3 hw=>?_)
  have hk:Keeps Nob w2 w3:=by rw [hw];exact Keeps.alloc _ _ _
  replace HF:Hid (Fam w3 Nob [muBlk P3 23 #[.int .i64 a0,.int .i64 a1,.int .i64 a2,.int .i64 a3,.int .i64 a4],muBlk (P3+1) 42 #[.bool false,.int .i64 0,.int .i64 0,.int .i64 0,.int .i64 0,.int .i64 0],muBlk N6 85 #[.int .i64 (R.node),.int .i64 (R.err)]]):=by
   have h:=HF.out.add (o:=muBlk N6 85 #[.int .i64 (R.node),.int .i64 (R.err)]) hk (by rw [hw,<-hN];exact Blk.new _ _ _) (λ x hx=>by have e:x=N6:=hx;rw [e,<-hN];exact ⟨Nat.le_refl _,by rw [hw];simp⟩) (λ _ h=>h)
   exact Hd h
  replace K:=tq_ K hk
  clear hk hw hN
  have p0:=(HF.out.ok 2 _ rfl:Blk w3 N6 _ _).cell 0
  have p1:=(HF.out.ok 2 _ rfl:Blk w3 N6 _ _).cell 1
  have f0:=((HF.out.ok 1 _ rfl:Blk w3 (P3+1) _ _)).frozen 0
  have z0:=((HF.out.ok 1 _ rfl:Blk w3 (P3+1) _ _)).cell 0
  have f1:=λ (v0:Value)=>(((HF.out.ok 1 _ rfl:Blk w3 (P3+1) _ _)).set_ 0 v0).frozen 1
  have z1:=λ (v0:Value)=>(((HF.out.ok 1 _ rfl:Blk w3 (P3+1) _ _)).set_ 0 v0).cell 1
  have f2:=λ (v0 v1:Value)=>((((HF.out.ok 1 _ rfl:Blk w3 (P3+1) _ _)).set_ 0 v0).set_ 1 v1).frozen 2
  have z2:=λ (v0 v1:Value)=>((((HF.out.ok 1 _ rfl:Blk w3 (P3+1) _ _)).set_ 0 v0).set_ 1 v1).cell 2
  have f3:=λ (v0 v1 v2:Value)=>(((((HF.out.ok 1 _ rfl:Blk w3 (P3+1) _ _)).set_ 0 v0).set_ 1 v1).set_ 2 v2).frozen 3
  have z3:=λ (v0 v1 v2:Value)=>(((((HF.out.ok 1 _ rfl:Blk w3 (P3+1) _ _)).set_ 0 v0).set_ 1 v1).set_ 2 v2).cell 3
  have f4:=λ (v0 v1 v2 v3:Value)=>((((((HF.out.ok 1 _ rfl:Blk w3 (P3+1) _ _)).set_ 0 v0).set_ 1 v1).set_ 2 v2).set_ 3 v3).frozen 4
  have z4:=λ (v0 v1 v2 v3:Value)=>((((((HF.out.ok 1 _ rfl:Blk w3 (P3+1) _ _)).set_ 0 v0).set_ 1 v1).set_ 2 v2).set_ 3 v3).cell 4
  have f5:=λ (v0 v1 v2 v3 v4:Value)=>(((((((HF.out.ok 1 _ rfl:Blk w3 (P3+1) _ _)).set_ 0 v0).set_ 1 v1).set_ 2 v2).set_ 3 v3).set_ 4 v4).frozen 5
  have z5:=λ (v0 v1 v2 v3 v4:Value)=>(((((((HF.out.ok 1 _ rfl:Blk w3 (P3+1) _ _)).set_ 0 v0).set_ 1 v1).set_ 2 v2).set_ 3 v3).set_ 4 v4).cell 5
  go_wp2
  clear f0 z0 f1 z1 f2 z2 f3 z3 f4 z4 f5 z5
  clear p0 p1
  refine post_at (λ v3 hw=>?_)
  have hk:Keeps (λ x=>x=P3+1) w3 v3:=by rw [hw];exact (((((Keeps.setCell _ (M:=λ x=>x=P3+1) rfl _).setCell' (λ _=>rfl) _).setCell' (λ _=>rfl) _).setCell' (λ _=>rfl) _).setCell' (λ _=>rfl) _).setCell' (λ _=>rfl) _
  have hb:Blk v3 (P3+1) 42 #[.bool false,.int .i64 R.node,.int .i64 R.err,.int .i64 0,.int .i64 0,.int .i64 0]:=by rw [hw];exact ((((((HF.out.ok 1 _ rfl:Blk w3 (P3+1) _ _).set_ 0 _).set_ 1 _).set_ 2 _).set_ 3 _).set_ 4 _).set_ 5 _
  have r0:=hb.cell 0
  have r1:=hb.cell 1
  have r2:=hb.cell 2
  have r3:=hb.cell 3
  have r4:=hb.cell 4
  have r5:=hb.cell 5
  refine bodyPost_ret (v:=.agg #[.bool false,.int .i64 R.node,.int .i64 R.err,.int .i64 0,.int .i64 0,.int .i64 0]) (by simp [results,Try.results11,go_sem,r0,r1,r2,r3,r4,r5]) rfl ⟨by rw [HBAD.out];rfl,K.out.trans hk (λ x hx e=>by have h:=HP.out;have e2:x=P3+1:=e;omega)⟩
 have HRW:=Hd (HF.out.ok 1 _ rfl:Blk w2 (P3+1) _ _)
 obtain ⟨ch,hch,_,hnb,hkb,hlsn,hck⟩:=levels_facts HR.out hs hbd
 have HCK:=Hd hck
 simp only at hlm ⊢
 have hll:lvs.length=ls.length:=by rw [<-hlm,List.length_map]
 have HLL:=Hd hll
 rw [<-hll] at hch hlsn
 obtain ⟨lA,lc,el⟩:=hrow.form
 subst el
 obtain ⟨gL,oL,eL,_⟩:=Own.at8 hrow hpos (show (lvs.map Lq.v)[0]?=some _ by rw [List.getElem?_map,List.getElem?_eq_getElem hpos];rfl)
 subst eL
 have HCU:Hid (∀ (i:Nat) l,lvs[i]?=some l->w2.cell? ⟨gL,oL+i,none⟩=some l.v):=Hd (λ i l hl=>by
  obtain ⟨g',o',e',c'⟩:=Own.at8 hrow hpos (show (lvs.map Lq.v)[i]?=some l.v by rw [List.getElem?_map,hl];rfl)
  cases e'
  exact c')
 have HLV:=Hd hlv
 have HLM:=Hd hlm
 have HOK:=Hd hlok
 have HNB:=Hd hnb
 have HKB:=Hd hkb
 have HCH:=Hd hch
 have hlsn2:lvs.length<=65536:=by omega
 clear hs hlm hlok hrow hlv hnb hkb hch hck hll hlsn HR hnn
 have f0:=((Blk.new w2 85 #[.int .i64 0,.int .i64 0])).frozen 0
 have z0:=((Blk.new w2 85 #[.int .i64 0,.int .i64 0])).cell 0
 have f1:=λ (v0:Value)=>(((Blk.new w2 85 #[.int .i64 0,.int .i64 0])).set_ 0 v0).frozen 1
 have z1:=λ (v0:Value)=>(((Blk.new w2 85 #[.int .i64 0,.int .i64 0])).set_ 0 v0).cell 1
 go_upto_region 4 with (fail)
 clear f0 z0 f1 z1
 clear hns
 refine code_at (λ w3 hw=>?_)
 have hk:Keeps Nob w2 w3:=by rw [hw];exact Keeps.alloc _ _ _
 have HK2:=Hd hk
 replace HF:=Hd (HF.out.nob0 hk)
 clear hk hw
 have f0:=((Blk.new w3 42 #[.bool false,.int .i64 0,.int .i64 0,.int .i64 0,.int .i64 0,.int .i64 0])).frozen 0
 have z0:=((Blk.new w3 42 #[.bool false,.int .i64 0,.int .i64 0,.int .i64 0,.int .i64 0,.int .i64 0])).cell 0
 have f1:=λ (v0:Value)=>(((Blk.new w3 42 #[.bool false,.int .i64 0,.int .i64 0,.int .i64 0,.int .i64 0,.int .i64 0])).set_ 0 v0).frozen 1
 have z1:=λ (v0:Value)=>(((Blk.new w3 42 #[.bool false,.int .i64 0,.int .i64 0,.int .i64 0,.int .i64 0,.int .i64 0])).set_ 0 v0).cell 1
 have f2:=λ (v0 v1:Value)=>((((Blk.new w3 42 #[.bool false,.int .i64 0,.int .i64 0,.int .i64 0,.int .i64 0,.int .i64 0])).set_ 0 v0).set_ 1 v1).frozen 2
 have z2:=λ (v0 v1:Value)=>((((Blk.new w3 42 #[.bool false,.int .i64 0,.int .i64 0,.int .i64 0,.int .i64 0,.int .i64 0])).set_ 0 v0).set_ 1 v1).cell 2
 have f3:=λ (v0 v1 v2:Value)=>(((((Blk.new w3 42 #[.bool false,.int .i64 0,.int .i64 0,.int .i64 0,.int .i64 0,.int .i64 0])).set_ 0 v0).set_ 1 v1).set_ 2 v2).frozen 3
 have z3:=λ (v0 v1 v2:Value)=>(((((Blk.new w3 42 #[.bool false,.int .i64 0,.int .i64 0,.int .i64 0,.int .i64 0,.int .i64 0])).set_ 0 v0).set_ 1 v1).set_ 2 v2).cell 3
 have f4:=λ (v0 v1 v2 v3:Value)=>((((((Blk.new w3 42 #[.bool false,.int .i64 0,.int .i64 0,.int .i64 0,.int .i64 0,.int .i64 0])).set_ 0 v0).set_ 1 v1).set_ 2 v2).set_ 3 v3).frozen 4
 have z4:=λ (v0 v1 v2 v3:Value)=>((((((Blk.new w3 42 #[.bool false,.int .i64 0,.int .i64 0,.int .i64 0,.int .i64 0,.int .i64 0])).set_ 0 v0).set_ 1 v1).set_ 2 v2).set_ 3 v3).cell 4
 have f5:=λ (v0 v1 v2 v3 v4:Value)=>(((((((Blk.new w3 42 #[.bool false,.int .i64 0,.int .i64 0,.int .i64 0,.int .i64 0,.int .i64 0])).set_ 0 v0).set_ 1 v1).set_ 2 v2).set_ 3 v3).set_ 4 v4).frozen 5
 have z5:=λ (v0 v1 v2 v3 v4:Value)=>(((((((Blk.new w3 42 #[.bool false,.int .i64 0,.int .i64 0,.int .i64 0,.int .i64 0,.int .i64 0])).set_ 0 v0).set_ 1 v1).set_ 2 v2).set_ 3 v3).set_ 4 v4).cell 5
 go_upto_region 5 with (fail)
 clear f0 z0 f1 z1 f2 z2 f3 z3 f4 z4 f5 z5
 obtain ⟨P7,hN⟩:∃ N,w3.heap.size=N:=⟨_,rfl⟩
 rw [hN]
 refine code_at (λ w4 hw=>?_)
 have hk:Keeps Nob w3 w4:=by rw [hw];exact Keeps.alloc _ _ _
 have HB:Hid (Blk w4 P7 42 #[.bool true,.int .i64 0,.int .i64 0,.int .i64 lvs.length,.int .i64 0,.int .i64 0]):=by rw [hw,<-hN];exact Hd (Blk.new _ _ _)
 have HP7:Hid (w2.heap.size<=P7/\P3+1 < P7):=by rw [<-hN];exact Hd ⟨HK2.out.size,(HF.out.ok 1 _ rfl:Blk w3 (P3+1) _ _).lt⟩
 replace HF:=Hd (HF.out.nob0 hk)
 have K2:=Hd (HK2.out.trans hk (λ _ _ h=>h))
 clear hk hw hN HK2
 go_wp2
 go_loopw [30] (λ iv wr=>∃ k:Nat,k<=lvs.length/\iv=.int .i64 k/\Blk wr P7 42 #[.bool true,.int .i64 0,.int .i64 0,.int .i64 lvs.length,.int .i64 (((nodesOf (ls.take k):Nat):Int)),.int .i64 0]/\Keeps Nob w2 wr) (λ iv _=>lvs.length-(intOf iv).toNat)
 case atStart=>exact ⟨0,Nat.zero_le _,rfl,HB.out,K2.out⟩
 clear HB K2
 obtain ⟨k,hk,rfl,hb,hk2⟩:=hrel
 have HB:=Hd hb
 have K2:=Hd hk2
 clear hb hk2
 rcases Nat.lt_or_ge k lvs.length with hlt|hlt
 ·as_aux_lemma=>
  obtain ⟨l,hl⟩:∃ l,lvs[k]?=some l:=⟨_,List.getElem?_eq_getElem hlt⟩
  have hlc:ls[k]?=some l.ch:=by rw [<-HLM.out,List.getElem?_map,hl];rfl
  obtain ⟨uA,uc,eu⟩:=(HLV.out l (List.mem_of_getElem? hl)).1.1.form
  have q0:wr.cell? ⟨gL,oL+k,none⟩=some (.slice uA l.ks.length uc):=by have h:=K2.out.cell (HCU.out k l hl) (λ h=>h);rw [eu] at h;exact h
  have hnt:nodesOf (ls.take (k+1))=nodesOf (ls.take k)+l.ks.length:=by rw [nodesOf_take hlc];simp [Lq.ch]
  have hadd:IntKind.i64.wrap (((nodesOf (ls.take k):Nat):Int)+((l.ks.length:Nat):Int))=((nodesOf (ls.take (k+1)):Nat):Int):=by
   have h1:=nodesOf_le ls (k+1)
   have h2:=HNB.out
   rw [IntKind.wrap_i64];omega
  have p4:=HB.out.cell 4
  have f4:=HB.out.frozen 4
  generalize l.ks.length=cl at *
  obtain ⟨n0,hn0⟩:∃ n,nodesOf (ls.take k)=n:=⟨_,rfl⟩
  obtain ⟨n1,hn1⟩:∃ n,nodesOf (ls.take (k+1))=n:=⟨_,rfl⟩
  rw [hn0,hn1] at hadd
  rw [hn0] at p4 HB
  have HN1:=Hd hn1
  clear hl hlc eu hnt hn0 hn1
  go_upto_region 9 with (fail)
  clear q0 p4 f4 hadd
  refine code_at (λ w5 hw=>?_)
  have hk5:Keeps (λ x=>x=P7) wr w5:=by rw [hw];exact Keeps.setCell _ (M:=λ x=>x=P7) rfl _
  replace HB:Hid (Blk w5 P7 42 #[.bool true,.int .i64 0,.int .i64 0,.int .i64 lvs.length,.int .i64 ((n1:Int)),.int .i64 0]):=by rw [hw];exact Hd (HB.out.set_ 4 _)
  replace K2:=Hd (K2.out.trans hk5 (λ x hx e=>by have e2:x=P7:=e;have h:=HP7.out;omega))
  clear hk5 hw
  go_wp2
  go_roundw
  case rel=>exact ⟨k+1,hlt,by simp,by rw [HN1.out];exact HB.out,K2.out⟩
  case measure=>simp [intOf];omega
 obtain rfl:k=lvs.length:=by omega
 have hfull:nodesOf (ls.take lvs.length)=nodesOf ls:=by rw [HLL.out,List.take_length]
 rw [hfull] at HB
 clear hfull hk hlt
 obtain ⟨ix,hix⟩:∃ ix:Nat,(lvs.length:Int)-1=(ix:Int):=⟨lvs.length-1,by omega⟩
 have hxl:ix < lvs.length:=by omega
 obtain ⟨l,hl⟩:∃ d,lvs[ix]?=some d:=⟨_,List.getElem?_eq_getElem hxl⟩
 have hlc:l.ch=ch:=by
  have h:=HCH.out
  have e:ls.length-1=ix:=by have:=HLL.out;omega
  first|rw [e,<-HLM.out,List.getElem?_map,hl] at h|rw [show lvs.length-1=ix by omega,<-HLM.out,List.getElem?_map,hl] at h
  injection h
 have hlP:=(HLV.out l (List.mem_of_getElem? hl)).1
 have hlO:=(HOK.out l (List.mem_of_getElem? hl)).1
 obtain ⟨uA,uc,eu⟩:=hlP.1.form
 have q0:wr.cell? ⟨gL,oL+ix,none⟩=some (.slice uA l.ks.length uc):=by have h:=K2.out.cell (HCU.out ix l hl) (λ h=>h);rw [eu] at h;exact h
 have HROW:Hid (Own w2 (λ b=>l.v.ownBlock=some b) 90 8 (.slice uA l.ks.length uc) l.ks.length (lkCells l.ks)):=by have h:=hlP.1;rw [eu] at h ⊢;exact Hd h
 have HIS:=Hd hlP.2
 have HLO:=Hd hlO
 have HLC:=Hd hlc
 have hzc:l.ks.length<=9223372036854775807:=by obtain ⟨h1,h2,_⟩:=HROW.out.at_;unfold maxLen at h2;omega
 have hpx:0<=(ix:Int)/\(ix:Int) < (lvs.length:Int):=by omega
 have hix2:IntKind.i64.wrap ((lvs.length:Int)-1)=(ix:Int):=by rw [IntKind.wrap_i64];omega
 clear hix hl hlP hlO eu hlc HCU HLV HOK HLM HCH
 go_wp2
 clear q0 hpx hix2
 go_loopw [48] (λ iv wr=>∃ k:Nat,k<=l.ks.length/\iv=.int .i64 k/\Blk wr P7 42 #[.bool true,.int .i64 0,.int .i64 0,.int .i64 lvs.length,.int .i64 (((nodesOf ls:Nat):Int)),.int .i64 (((keysOf A (ch.take k):Nat):Int))]/\Keeps Nob w2 wr) (λ iv _=>l.ks.length-(intOf iv).toNat)
 case atStart=>exact ⟨0,Nat.zero_le _,rfl,HB.out,K2.out⟩
 clear HB K2
 obtain ⟨k,hk,rfl,hb,hk2⟩:=hrel
 have HB:=Hd hb
 have K2:=Hd hk2
 clear hb hk2
 rcases Nat.lt_or_ge k l.ks.length with hlt|hlt
 ·as_aux_lemma=>
  obtain ⟨x,hx⟩:∃ x,l.ks[k]?=some x:=⟨_,List.getElem?_eq_getElem hlt⟩
  obtain ⟨s2,g1,g2,_⟩:=HLO.out x (List.mem_of_getElem? hx)
  have hxe:ch[k]?=some x.pr:=by rw [<-HLC.out];unfold Lq.ch;rw [List.getElem?_map,hx];rfl
  have hnt:keysOf A (ch.take (k+1))=keysOf A (ch.take k)+x.nd.keys.length:=by
   rw [keysOf_take hxe]
   have e:(opNd A x.pr.1)=x.nd:=by have h:opNd A x.id=s2.nd:=opNd_some g1;rw [<-g2,<-h];rfl
   rw [e]
  have hle:keysOf A (ch.take (k+1))<=keysOf A ch:=by
   have:keysOf A ch=keysOf A (ch.take (k+1))+keysOf A (ch.drop (k+1)):=by
    unfold keysOf;rw [<-List.sum_append,<-List.map_append,List.take_append_drop]
   omega
  have hadd:IntKind.i64.wrap (((keysOf A (ch.take k):Nat):Int)+((x.nd.keys.length:Nat):Int))=((keysOf A (ch.take (k+1)):Nat):Int):=by
   have h2:=HKB.out
   rw [IntKind.wrap_i64];omega
  obtain ⟨g,o,LA,LC,X1,k1,X3,k3,X4,k4,X5,k5,eA,q0,q1,q2,q3,q4,q5,q6,q7,_,_⟩:=lk_cells HROW.out rfl hx (HIS.out x (List.mem_of_getElem? hx))
  have HADD:=Hd hadd
  have HXE:=Hd eA
  rw [eA]
  clear hx g1 g2 hxe hnt hle hadd eA
  replace q0:=K2.out.cell q0 (λ h=>h)
  replace q1:=K2.out.cell q1 (λ h=>h)
  replace q2:=K2.out.cell q2 (λ h=>h)
  replace q3:=K2.out.cell q3 (λ h=>h)
  replace q4:=K2.out.cell q4 (λ h=>h)
  replace q5:=K2.out.cell q5 (λ h=>h)
  replace q6:=K2.out.cell q6 (λ h=>h)
  replace q7:=K2.out.cell q7 (λ h=>h)
  have f0:=((Blk.new wr 90 #[.int .i64 0,.slice none 0 0,.int .i64 0,.slice none 0 0,.int .i64 0,.slice none 0 0,.slice none 0 0,.slice none 0 0])).frozen 0
  have z0:=((Blk.new wr 90 #[.int .i64 0,.slice none 0 0,.int .i64 0,.slice none 0 0,.int .i64 0,.slice none 0 0,.slice none 0 0,.slice none 0 0])).cell 0
  have f1:=λ (v0:Value)=>(((Blk.new wr 90 #[.int .i64 0,.slice none 0 0,.int .i64 0,.slice none 0 0,.int .i64 0,.slice none 0 0,.slice none 0 0,.slice none 0 0])).set_ 0 v0).frozen 1
  have z1:=λ (v0:Value)=>(((Blk.new wr 90 #[.int .i64 0,.slice none 0 0,.int .i64 0,.slice none 0 0,.int .i64 0,.slice none 0 0,.slice none 0 0,.slice none 0 0])).set_ 0 v0).cell 1
  have f2:=λ (v0 v1:Value)=>((((Blk.new wr 90 #[.int .i64 0,.slice none 0 0,.int .i64 0,.slice none 0 0,.int .i64 0,.slice none 0 0,.slice none 0 0,.slice none 0 0])).set_ 0 v0).set_ 1 v1).frozen 2
  have z2:=λ (v0 v1:Value)=>((((Blk.new wr 90 #[.int .i64 0,.slice none 0 0,.int .i64 0,.slice none 0 0,.int .i64 0,.slice none 0 0,.slice none 0 0,.slice none 0 0])).set_ 0 v0).set_ 1 v1).cell 2
  have f3:=λ (v0 v1 v2:Value)=>(((((Blk.new wr 90 #[.int .i64 0,.slice none 0 0,.int .i64 0,.slice none 0 0,.int .i64 0,.slice none 0 0,.slice none 0 0,.slice none 0 0])).set_ 0 v0).set_ 1 v1).set_ 2 v2).frozen 3
  have z3:=λ (v0 v1 v2:Value)=>(((((Blk.new wr 90 #[.int .i64 0,.slice none 0 0,.int .i64 0,.slice none 0 0,.int .i64 0,.slice none 0 0,.slice none 0 0,.slice none 0 0])).set_ 0 v0).set_ 1 v1).set_ 2 v2).cell 3
  have f4:=λ (v0 v1 v2 v3:Value)=>((((((Blk.new wr 90 #[.int .i64 0,.slice none 0 0,.int .i64 0,.slice none 0 0,.int .i64 0,.slice none 0 0,.slice none 0 0,.slice none 0 0])).set_ 0 v0).set_ 1 v1).set_ 2 v2).set_ 3 v3).frozen 4
  have z4:=λ (v0 v1 v2 v3:Value)=>((((((Blk.new wr 90 #[.int .i64 0,.slice none 0 0,.int .i64 0,.slice none 0 0,.int .i64 0,.slice none 0 0,.slice none 0 0,.slice none 0 0])).set_ 0 v0).set_ 1 v1).set_ 2 v2).set_ 3 v3).cell 4
  have f5:=λ (v0 v1 v2 v3 v4:Value)=>(((((((Blk.new wr 90 #[.int .i64 0,.slice none 0 0,.int .i64 0,.slice none 0 0,.int .i64 0,.slice none 0 0,.slice none 0 0,.slice none 0 0])).set_ 0 v0).set_ 1 v1).set_ 2 v2).set_ 3 v3).set_ 4 v4).frozen 5
  have z5:=λ (v0 v1 v2 v3 v4:Value)=>(((((((Blk.new wr 90 #[.int .i64 0,.slice none 0 0,.int .i64 0,.slice none 0 0,.int .i64 0,.slice none 0 0,.slice none 0 0,.slice none 0 0])).set_ 0 v0).set_ 1 v1).set_ 2 v2).set_ 3 v3).set_ 4 v4).cell 5
  have f6:=λ (v0 v1 v2 v3 v4 v5:Value)=>((((((((Blk.new wr 90 #[.int .i64 0,.slice none 0 0,.int .i64 0,.slice none 0 0,.int .i64 0,.slice none 0 0,.slice none 0 0,.slice none 0 0])).set_ 0 v0).set_ 1 v1).set_ 2 v2).set_ 3 v3).set_ 4 v4).set_ 5 v5).frozen 6
  have z6:=λ (v0 v1 v2 v3 v4 v5:Value)=>((((((((Blk.new wr 90 #[.int .i64 0,.slice none 0 0,.int .i64 0,.slice none 0 0,.int .i64 0,.slice none 0 0,.slice none 0 0,.slice none 0 0])).set_ 0 v0).set_ 1 v1).set_ 2 v2).set_ 3 v3).set_ 4 v4).set_ 5 v5).cell 6
  have f7:=λ (v0 v1 v2 v3 v4 v5 v6:Value)=>(((((((((Blk.new wr 90 #[.int .i64 0,.slice none 0 0,.int .i64 0,.slice none 0 0,.int .i64 0,.slice none 0 0,.slice none 0 0,.slice none 0 0])).set_ 0 v0).set_ 1 v1).set_ 2 v2).set_ 3 v3).set_ 4 v4).set_ 5 v5).set_ 6 v6).frozen 7
  have z7:=λ (v0 v1 v2 v3 v4 v5 v6:Value)=>(((((((((Blk.new wr 90 #[.int .i64 0,.slice none 0 0,.int .i64 0,.slice none 0 0,.int .i64 0,.slice none 0 0,.slice none 0 0,.slice none 0 0])).set_ 0 v0).set_ 1 v1).set_ 2 v2).set_ 3 v3).set_ 4 v4).set_ 5 v5).set_ 6 v6).cell 7
  go_upto_region 13 with (fail)
  clear q0 q1 q2 q3 q4 q5 q6 q7
  clear f0 z0 f1 z1 f2 z2 f3 z3 f4 z4 f5 z5 f6 z6 f7 z7
  obtain ⟨N11,hN⟩:∃ N,wr.heap.size=N:=⟨_,rfl⟩
  rw [hN]
  refine code_at (λ w5 hw=>?_)
  have hk5:Keeps Nob wr w5:=by rw [hw];exact Keeps.alloc _ _ _
  have q5:w5.cell? ⟨N11,5,none⟩=some (.slice X3 x.nd.keys.length k3):=by
   have h:Blk w5 N11 90 #[.int .i64 x.id,.slice LA x.low.length LC,.int .i64 x.nd.lvl,.slice X1 x.nd.high.length k1,.int .i64 x.nd.right,.slice X3 x.nd.keys.length k3,.slice X4 x.nd.vals.length k4,.slice X5 x.nd.kids.length k5]:=by rw [hw,<-hN];exact Blk.new _ _ _
   exact h.cell 5
  replace HB:=Hd (HB.out.keeps hk5 (λ h=>h))
  replace K2:=Hd (K2.out.trans hk5 (λ _ _ h=>h))
  clear hk5 hw hN
  have p5:=HB.out.cell 5
  have f5:=HB.out.frozen 5
  have hadd:=HADD.out
  generalize x.nd.keys.length=cl at *
  obtain ⟨n0,hn0⟩:∃ n,keysOf A (ch.take k)=n:=⟨_,rfl⟩
  obtain ⟨n1,hn1⟩:∃ n,keysOf A (ch.take (k+1))=n:=⟨_,rfl⟩
  rw [hn0,hn1] at hadd
  rw [hn0] at p5 HB
  have HN1:=Hd hn1
  clear HADD hn0 hn1
  go_upto_region 14 with (fail)
  clear q5 p5 f5 hadd
  refine code_at (λ w6 hw=>?_)
  have hk6:Keeps (λ x=>x=P7) w5 w6:=by rw [hw];exact Keeps.setCell _ (M:=λ x=>x=P7) rfl _
  replace HB:Hid (Blk w6 P7 42 #[.bool true,.int .i64 0,.int .i64 0,.int .i64 lvs.length,.int .i64 (((nodesOf ls:Nat):Int)),.int .i64 ((n1:Int))]):=by rw [hw];exact Hd (HB.out.set_ 5 _)
  replace K2:=Hd (K2.out.trans hk6 (λ x hx e=>by have e2:x=P7:=e;have h:=HP7.out;omega))
  clear hk6 hw
  go_wp2
  go_roundw
  case rel=>exact ⟨k+1,hlt,by simp,by rw [HN1.out];exact HB.out,K2.out⟩
  case measure=>simp [intOf];omega
 obtain rfl:k=l.ks.length:=by omega
 have hfull:keysOf A (ch.take l.ks.length)=keysOf A ch:=by rw [show l.ks.length=ch.length by rw [<-HLC.out];simp [Lq.ch],List.take_length]
 rw [hfull] at HB
 clear hfull hk hlt
 have K3:Hid (Keeps Nob w wr):=Hd (K.out.trans K2.out (λ _ _ h=>h))
 have HR1:Hid (Blk wr (P3+1) 42 #[.bool false,.int .i64 0,.int .i64 0,.int .i64 0,.int .i64 0,.int .i64 0]):=Hd (HRW.out.keeps K2.out (λ h=>h))
 have p0:=(HB.out).cell 0
 have p1:=(HB.out).cell 1
 have p2:=(HB.out).cell 2
 have p3:=(HB.out).cell 3
 have p4:=(HB.out).cell 4
 have p5:=(HB.out).cell 5
 have f0:=(HR1.out).frozen 0
 have z0:=(HR1.out).cell 0
 have f1:=λ (v0:Value)=>((HR1.out).set_ 0 v0).frozen 1
 have z1:=λ (v0:Value)=>((HR1.out).set_ 0 v0).cell 1
 have f2:=λ (v0 v1:Value)=>(((HR1.out).set_ 0 v0).set_ 1 v1).frozen 2
 have z2:=λ (v0 v1:Value)=>(((HR1.out).set_ 0 v0).set_ 1 v1).cell 2
 have f3:=λ (v0 v1 v2:Value)=>((((HR1.out).set_ 0 v0).set_ 1 v1).set_ 2 v2).frozen 3
 have z3:=λ (v0 v1 v2:Value)=>((((HR1.out).set_ 0 v0).set_ 1 v1).set_ 2 v2).cell 3
 have f4:=λ (v0 v1 v2 v3:Value)=>(((((HR1.out).set_ 0 v0).set_ 1 v1).set_ 2 v2).set_ 3 v3).frozen 4
 have z4:=λ (v0 v1 v2 v3:Value)=>(((((HR1.out).set_ 0 v0).set_ 1 v1).set_ 2 v2).set_ 3 v3).cell 4
 have f5:=λ (v0 v1 v2 v3 v4:Value)=>((((((HR1.out).set_ 0 v0).set_ 1 v1).set_ 2 v2).set_ 3 v3).set_ 4 v4).frozen 5
 have z5:=λ (v0 v1 v2 v3 v4:Value)=>((((((HR1.out).set_ 0 v0).set_ 1 v1).set_ 2 v2).set_ 3 v3).set_ 4 v4).cell 5
 go_wp2
 clear f0 z0 f1 z1 f2 z2 f3 z3 f4 z4 f5 z5
 clear p0 p1 p2 p3 p4 p5
 refine post_at (λ v3 hw=>?_)
 have hk:Keeps (λ x=>x=P3+1) wr v3:=by rw [hw];exact (((((Keeps.setCell _ (M:=λ x=>x=P3+1) rfl _).setCell' (λ _=>rfl) _).setCell' (λ _=>rfl) _).setCell' (λ _=>rfl) _).setCell' (λ _=>rfl) _).setCell' (λ _=>rfl) _
 have hb:Blk v3 (P3+1) 42 #[.bool true,.int .i64 0,.int .i64 0,.int .i64 lvs.length,.int .i64 (((nodesOf ls:Nat):Int)),.int .i64 (((keysOf A ch:Nat):Int))]:=by rw [hw];exact (((((HR1.out.set_ 0 _).set_ 1 _).set_ 2 _).set_ 3 _).set_ 4 _).set_ 5 _
 have r0:=hb.cell 0
 have r1:=hb.cell 1
 have r2:=hb.cell 2
 have r3:=hb.cell 3
 have r4:=hb.cell 4
 have r5:=hb.cell 5
 refine bodyPost_ret (v:=.agg #[.bool true,.int .i64 0,.int .i64 0,.int .i64 lvs.length,.int .i64 (((nodesOf ls:Nat):Int)),.int .i64 (((keysOf A ch:Nat):Int))]) (by simp [results,Try.results11,go_sem,r0,r1,r2,r3,r4,r5]) rfl ⟨by rw [HCK.out,<-HLL.out];rfl,K3.out.trans hk (λ x hx e=>by have h:=HP.out;have e2:x=P3+1:=e;omega)⟩
end
end Go.Proofs.Ytjcgphhpaenjkaa

import Derived.Test.YtjcgphhpaenjkaaPkE0
import Derived.Test.YtjcgphhpaenjkaaPkE1
set_option maxHeartbeats 64000000
set_option maxRecDepth 100000
set_option linter.unusedVariables false
namespace Go.Proofs.Ytjcgphhpaenjkaa
open Go.RowKit Go.Maps
theorem Try.inf_lrow:(Try.prog.info? 88).map (λ i=>(i.zero,i.size,i.bytes))=some (some (.slice none 0 0),1,24):=by kernel_rfl
structure Lq where
 ks:List Lk
 v:Value
 D:Nat->Prop
def Lq.ch (l:Lq):Ch:=l.ks.map Lk.pr
def lqOb (l:Lq):Ob where
 P:=λ w=>Own w (λ b=>l.v.ownBlock=some b) 90 8 l.v l.ks.length (lkCells l.ks)/\∀ k ∈ l.ks,IsLk w l.D k
 F:=λ x=>l.v.ownBlock=some x\/l.D x
 W:=λ _=>False
 fr:=λ _ _ _ h k hd=>⟨h.1.keeps k (λ x hx e=>hd x hx (.inl e)),λ y hy=>⟨(h.2 y hy).1.keeps k (λ x hx e=>hd x hx (.inr e)),(h.2 y hy).2.keeps k (λ x hx e=>hd x hx (.inr e))⟩⟩
def LqOk (A:Ar) (l:Lq):Prop:=(∀ k ∈ l.ks,∃ s,A.get k.id=some s/\s.nd=k.nd/\s.nd.kids.length<=s.nd.keys.length+1)/\(l.ks.map Lk.id).Nodup
theorem Fam.chnS {w w':World} {l:List Ob} {i m:Nat} {met met':List Int} {o:Ob} (h:Fam w Nob l) (hi:l[i]?=some (metOb m met)) (k:Keeps (λ x=>x=m) w w') (hm:(metOb m met').P w') (hP:o.P w') (hF:∀ x,o.F x->Fresh w w' x) (hW:∀ x,¬o.W x):Fam w' Nob (l.set i (metOb m met')++[o]):=by
 have h2:Fam w' Nob (l.set i (metOb m met')):=h.wr hi k (λ x _ e=>e) hm (λ x hx=>.inl hx) (λ x hx=>.inl hx) (λ _ h=>h)
 refine h2.snoc hP (λ x hx=>(hF x hx).2) (λ _ _ h=>h) (λ x hx=>absurd hx (hW x)) (λ j u hj=>⟨λ x hx=>absurd hx (hW x),λ x hx hf=>?_⟩)
 have h3:=(hF x hf).1
 rw [List.getElem?_set] at hj
 by_cases e:i=j
 ·subst e
  rw [if_pos rfl] at hj
  split at hj
  ·cases hj
   have h4:=h.old i _ hi m rfl
   have e2:x=m:=hx
   omega
  ·cases hj
 ·rw [if_neg e] at hj
  have h4:=h.old j u hj x (h.wf j u hj x hx)
  omega
section
variable {w:World} {M D0:Nat->Prop} {p:Nat} {slots:Value} {ids:List Nat} {A:Ar} {a0 a1 a2 a3 a4:Int}
theorem plevelsR {R:List Ch × Rp} (h0:ArW w M D0 p slots ids A) (hsm:∀ s ∈ A.sl,NdSm 0 s.nd) (hkw:∀ s ∈ A.sl,∀ k ∈ s.nd.kids,K64 k) (hR:levelsM A a0 a1 a2 a3 a4=R) :
  Calls Try.prog 32 #[pV p,.agg #[.int .i64 a0,.int .i64 a1,.int .i64 a2,.int .i64 a3,.int .i64 a4]] w λ e w'=>Keeps Nob w w'/\((R.2.sound=true/\∃ (v:Value) (lvs:List Lq),e=.returned (.tuple #[v,.agg #[.int .i64 0,.int .i64 0]])/\0 < lvs.length/\lvs.map Lq.ch=R.1/\(∀ l ∈ lvs,LqOk A l)/\Own w' (Fresh w w') 88 1 v lvs.length (lvs.map Lq.v)/\∀ l ∈ lvs,(lqOb l).P w'/\∀ x,(lqOb l).F x->Fresh w w' x)\/(R.2.sound=false/\e=.returned (.tuple #[.slice none 0 0,.agg #[.int .i64 R.2.node,.int .i64 R.2.err]]))):=by
 have hmf:∀ (fn:Fn) (first cap:Array Value) (w:World),(Instr.makeFunc fn first cap).run Try.prog w=.ok (.func fn first cap) w:=λ _ _ _ _=>rfl
 have hbd:=h0.bound
 have H0:=Hd h0
 have HSM:=Hd hsm
 have HKW:=Hd hkw
 have HR:=Hd hR
 clear h0 hsm hkw hR
 obtain ⟨P3,hP⟩:∃ N,w.heap.size=N:=⟨_,rfl⟩
 have HP:=Hd hP
 clear hP
 unfold pV
 go_enter_defers Try.func32,Try.ntmps32
 go_wp2_with fail
 rw [HP.out]
 refine calls_at (λ w1 hw=>?_)
 have K:Hid (Keeps Nob w w1):=by rw [hw];exact Hd (((Keeps.alloc _ _ _).alloc' _).alloc' _)
 have HF:Hid (Fam w1 Nob [axOb M D0 p slots ids A,muBlk P3 23 #[.int .i64 a0,.int .i64 a1,.int .i64 a2,.int .i64 a3,.int .i64 a4],muBlk (P3+1) 83 #[.slice none 0 0],muBlk (P3+1+1) 85 #[.int .i64 0,.int .i64 0]]):=by
  rw [hw,<-HP.out]
  have f0:Fam w Nob [axOb M D0 p slots ids A]:=Fam.nil.snoc H0.out (λ x hx=>hx.elim (H0.out.mlt x) (H0.out.dlt x)) (λ _ _ h=>h) (λ x h=>h.elim) (λ j u hj=>by simp at hj)
  exact Hd (((f0.alloc' (t:=23) (cs:=#[.int .i64 a0,.int .i64 a1,.int .i64 a2,.int .i64 a3,.int .i64 a4]) rfl).alloc' (g:=w.heap.size+1) (t:=83) (cs:=#[.slice none 0 0]) (by simp)).alloc' (g:=w.heap.size+1+1) (t:=85) (cs:=#[.int .i64 0,.int .i64 0]) (by simp))
 clear hw hmf H0
 refine (needOk _ _ _).mono ?_
 rintro e w2 ⟨rfl,rfl⟩
 have c0:=(HF.out.ok 1 _ rfl:Blk w2 P3 _ _).cell 0
 have c1:=(HF.out.ok 1 _ rfl:Blk w2 P3 _ _).cell 1
 have c2:=(HF.out.ok 1 _ rfl:Blk w2 P3 _ _).cell 2
 have c3:=(HF.out.ok 1 _ rfl:Blk w2 P3 _ _).cell 3
 have c4:=(HF.out.ok 1 _ rfl:Blk w2 P3 _ _).cell 4
 go_wp2_with fail
 clear c0 c1 c2 c3 c4
 refine (confP a0 a1 a2 a3 a4 _).mono ?_
 rintro e w3 ⟨rfl,hk⟩
 replace HF:=Hd (HF.out.nob0 hk)
 replace K:=tq_ K hk
 clear hk
 rcases hcf:confOk a0 a1 a2 a3 a4 with _|_
 ·rw [show confE a0 a1 a2 a3 a4=1 by unfold confE;rw [hcf];rfl]
  have HX:Hid (R=([],.wrong 0 1)):=by have h:=HR.out;unfold levelsM at h;rw [hcf,if_pos rfl] at h;exact Hd h.symm
  clear hcf
  go_wp2_with fail
  refine (needNo _ _ _).mono ?_
  rintro e w4 ⟨rfl,rfl⟩
  refine leaves_cons (f:=53) (args:=#[.pointer (some ⟨P3+1,0,none⟩),.pointer (some ⟨P3+1+1,0,none⟩)]) (by simp) (by simp [go_sem]) ?_
  refine (catchPanic (HF.out.ok 2 _ rfl:Blk w4 (P3+1) _ _) (HF.out.ok 3 _ rfl:Blk w4 (P3+1+1) _ _) (by omega)).mono ?_
  rintro e u' wz ⟨rfl,rfl,ha,hb,hk⟩
  have s0:=ha.cell 0
  have s1:=hb.cell 0
  have s2:=hb.cell 1
  replace K:=Hd (K.out.trans hk (λ x hx e=>by have h:=HP.out;rcases e with e|e<;>omega))
  clear ha hb hk
  refine (show ∃ v,(results Try.f32 _).run Try.prog wz=.ok v wz/\_ from ⟨.tuple #[.slice none 0 0,.agg #[.int .i64 (0),.int .i64 (1)]],by simp [results,Try.results32,go_sem,s0,s1,s2],K.out,.inr ⟨by rw [HX.out];first|done|rfl,by rw [HX.out];first|done|rfl⟩⟩)
 rw [show confE a0 a1 a2 a3 a4=0 by unfold confE;rw [hcf];rfl]
 have HCF:=Hd hcf
 clear hcf
 go_wp2_with fail
 refine (needOk _ _ _).mono ?_
 rintro e w4 ⟨rfl,rfl⟩
 go_wp2_with fail
 refine (held_ (HF.out.ok 0 _ rfl)).mono ?_
 rintro e w5 ⟨v,rfl,hO,hk⟩
 replace HF:=Hd (HF.out.nob0 hk)
 replace K:=tq_ K hk
 clear hk
 obtain ⟨hA,hc,ev⟩:=hO.form
 subst ev
 rcases hh:heldFrom 1 A.sl with _|⟨hd,tl⟩
 rotate_left
 ·rw [hh] at hO
  obtain ⟨g,o,eA,c0⟩:=hO.at2 (j:=0) (y:=.int .i64 hd) (by simp) rfl
  subst eA
  rw [Nat.add_zero] at c0
  have HX:Hid (R=([],.wrong hd 102)):=by have h:=HR.out;unfold levelsM at h;rw [HCF.out,hh,if_neg (by decide)] at h;exact Hd h.symm
  simp only [List.length_cons]
  clear hO hh
  go_wp2
  refine wp_loop_once ?_
  go_wp2_with fail
  refine (needNo _ _ _).mono ?_
  rintro e w6 ⟨rfl,rfl⟩
  refine leaves_cons (f:=53) (args:=#[.pointer (some ⟨P3+1,0,none⟩),.pointer (some ⟨P3+1+1,0,none⟩)]) (by simp) (by simp [go_sem]) ?_
  refine (catchPanic (HF.out.ok 2 _ rfl:Blk w6 (P3+1) _ _) (HF.out.ok 3 _ rfl:Blk w6 (P3+1+1) _ _) (by omega)).mono ?_
  rintro e u' wz ⟨rfl,rfl,ha,hb,hk⟩
  have s0:=ha.cell 0
  have s1:=hb.cell 0
  have s2:=hb.cell 1
  replace K:=Hd (K.out.trans hk (λ x hx e=>by have h:=HP.out;rcases e with e|e<;>omega))
  clear ha hb hk
  refine (show ∃ v,(results Try.f32 _).run Try.prog wz=.ok v wz/\_ from ⟨.tuple #[.slice none 0 0,.agg #[.int .i64 (hd),.int .i64 (102)]],by simp [results,Try.results32,go_sem,s0,s1,s2],K.out,.inr ⟨by rw [HX.out];first|done|rfl,by rw [HX.out];first|done|rfl⟩⟩)
 have HH:=Hd hh
 clear hh hO
 simp only [List.length_nil]
 go_wp2
 refine wp_loop_once ?_
 have hmm:=@run_makeMap Try.prog
 have FRT:=λ wx (h:ArW wx M D0 p slots ids A)=>root_ h
 unfold pV iV at FRT
 go_wp2_with fail
 have HLT:Hid (P3+1+1 < w5.heap.size):=Hd (HF.out.ok 3 _ rfl:Blk w5 (P3+1+1) _ _).lt
 obtain ⟨m,hm⟩:∃ N,w5.heap.size=N:=⟨_,rfl⟩
 rw [hm]
 refine calls_at (λ w6 hw=>?_)
 have hk:Keeps Nob w5 w6:=by rw [hw];exact Keeps.alloc _ _ _
 have hom:OwnsI w6 m 0 (.map []):=by rw [hw,<-hm];exact World.ownsMap_made _ _ _ _
 replace HF:Hid (Fam w6 Nob [axOb M D0 p slots ids A,muBlk P3 23 #[.int .i64 a0,.int .i64 a1,.int .i64 a2,.int .i64 a3,.int .i64 a4],muBlk (P3+1) 83 #[.slice none 0 0],muBlk (P3+1+1) 85 #[.int .i64 0,.int .i64 0],metOb m []]):=by
  have h:=HF.out.add (o:=metOb m []) hk ⟨_,Met.nil,hom⟩ (λ x hx=>by have e:x=m:=hx;rw [e,<-hm];exact ⟨Nat.le_refl _,by rw [hw];simp⟩) (λ _ h=>h)
  exact Hd h
 replace K:=tq_ K hk
 have HPM:Hid (P3+1+1 < m):=by rw [<-hm];exact HLT
 clear hk hw hm hom hmm
 refine (FRT _ (HF.out.ok 0 _ rfl)).mono ?_
 rintro e w7 ⟨rfl,rfl⟩
 clear FRT
 rcases hg:A.get A.root with _|s
 ·have HX:Hid (R=([],.wrong A.root 101)):=by have h:=HR.out;unfold levelsM at h;rw [HCF.out,HH.out,hg,if_neg (by decide)] at h;exact Hd h.symm
  have FN:=λ wx (h:ArW wx M D0 p slots ids A)=>readNo hg h HSM.out
  unfold pV at FN
  clear hg
  go_wp2_with fail
  refine (FN _ (HF.out.ok 0 _ rfl)).mono ?_
  rintro e w8 ⟨X1,k1,X3,k3,X4,k4,X5,k5,rfl,hk⟩
  replace HF:=Hd (HF.out.nob0 hk)
  replace K:=tq_ K hk
  clear hk
  have f0:=((Blk.new w8 75 #[.int .i64 0,.slice none 0 0,.int .i64 0,.slice none 0 0,.slice none 0 0,.slice none 0 0])).frozen 0
  have z0:=((Blk.new w8 75 #[.int .i64 0,.slice none 0 0,.int .i64 0,.slice none 0 0,.slice none 0 0,.slice none 0 0])).cell 0
  have f1:=λ (v0:Value)=>(((Blk.new w8 75 #[.int .i64 0,.slice none 0 0,.int .i64 0,.slice none 0 0,.slice none 0 0,.slice none 0 0])).set_ 0 v0).frozen 1
  have z1:=λ (v0:Value)=>(((Blk.new w8 75 #[.int .i64 0,.slice none 0 0,.int .i64 0,.slice none 0 0,.slice none 0 0,.slice none 0 0])).set_ 0 v0).cell 1
  have f2:=λ (v0 v1:Value)=>((((Blk.new w8 75 #[.int .i64 0,.slice none 0 0,.int .i64 0,.slice none 0 0,.slice none 0 0,.slice none 0 0])).set_ 0 v0).set_ 1 v1).frozen 2
  have z2:=λ (v0 v1:Value)=>((((Blk.new w8 75 #[.int .i64 0,.slice none 0 0,.int .i64 0,.slice none 0 0,.slice none 0 0,.slice none 0 0])).set_ 0 v0).set_ 1 v1).cell 2
  have f3:=λ (v0 v1 v2:Value)=>(((((Blk.new w8 75 #[.int .i64 0,.slice none 0 0,.int .i64 0,.slice none 0 0,.slice none 0 0,.slice none 0 0])).set_ 0 v0).set_ 1 v1).set_ 2 v2).frozen 3
  have z3:=λ (v0 v1 v2:Value)=>(((((Blk.new w8 75 #[.int .i64 0,.slice none 0 0,.int .i64 0,.slice none 0 0,.slice none 0 0,.slice none 0 0])).set_ 0 v0).set_ 1 v1).set_ 2 v2).cell 3
  have f4:=λ (v0 v1 v2 v3:Value)=>((((((Blk.new w8 75 #[.int .i64 0,.slice none 0 0,.int .i64 0,.slice none 0 0,.slice none 0 0,.slice none 0 0])).set_ 0 v0).set_ 1 v1).set_ 2 v2).set_ 3 v3).frozen 4
  have z4:=λ (v0 v1 v2 v3:Value)=>((((((Blk.new w8 75 #[.int .i64 0,.slice none 0 0,.int .i64 0,.slice none 0 0,.slice none 0 0,.slice none 0 0])).set_ 0 v0).set_ 1 v1).set_ 2 v2).set_ 3 v3).cell 4
  have f5:=λ (v0 v1 v2 v3 v4:Value)=>(((((((Blk.new w8 75 #[.int .i64 0,.slice none 0 0,.int .i64 0,.slice none 0 0,.slice none 0 0,.slice none 0 0])).set_ 0 v0).set_ 1 v1).set_ 2 v2).set_ 3 v3).set_ 4 v4).frozen 5
  have z5:=λ (v0 v1 v2 v3 v4:Value)=>(((((((Blk.new w8 75 #[.int .i64 0,.slice none 0 0,.int .i64 0,.slice none 0 0,.slice none 0 0,.slice none 0 0])).set_ 0 v0).set_ 1 v1).set_ 2 v2).set_ 3 v3).set_ 4 v4).cell 5
  go_wp2_with fail
  clear f0 z0 f1 z1 f2 z2 f3 z3 f4 z4 f5 z5
  refine calls_at (λ w9 hw=>?_)
  have hk:Keeps Nob w8 w9:=by rw [hw];exact Keeps.alloc _ _ _
  clear hw
  replace HF:=Hd (HF.out.nob0 hk)
  replace K:=tq_ K hk
  clear hk
  refine (needNo _ _ _).mono ?_
  rintro e wb ⟨rfl,rfl⟩
  refine leaves_cons (f:=53) (args:=#[.pointer (some ⟨P3+1,0,none⟩),.pointer (some ⟨P3+1+1,0,none⟩)]) (by simp) (by simp [go_sem]) ?_
  refine (catchPanic (HF.out.ok 2 _ rfl:Blk wb (P3+1) _ _) (HF.out.ok 3 _ rfl:Blk wb (P3+1+1) _ _) (by omega)).mono ?_
  rintro e u' wz ⟨rfl,rfl,ha,hb,hk⟩
  have s0:=ha.cell 0
  have s1:=hb.cell 0
  have s2:=hb.cell 1
  replace K:=Hd (K.out.trans hk (λ x hx e=>by have h:=HP.out;rcases e with e|e<;>omega))
  clear ha hb hk
  refine (show ∃ v,(results Try.f32 _).run Try.prog wz=.ok v wz/\_ from ⟨.tuple #[.slice none 0 0,.agg #[.int .i64 (A.root),.int .i64 (101)]],by simp [results,Try.results32,go_sem,s0,s1,s2],K.out,.inr ⟨by rw [HX.out];first|done|rfl,by rw [HX.out];first|done|rfl⟩⟩)
 have HR2:Hid (levelsFrom A (chkM a0 a1 a2 a3 a4) (s.nd.lvl.toNat+1) s.nd.lvl A.root [] []=R):=by
  have h:=HR.out;unfold levelsM at h;rw [HCF.out,HH.out,hg,if_neg (by decide)] at h;exact Hd h
 have FY:=λ wx (h:ArW wx M D0 p slots ids A)=>readYes hg h HSM.out
 unfold pV at FY
 clear hg HR HH
 go_wp2_with fail
 refine (FY _ (HF.out.ok 0 _ rfl)).mono ?_
 rintro e w8 ⟨X1,k1,X3,k3,X4,k4,X5,k5,rfl,_,hk⟩
 replace HF:=Hd (HF.out.nob0 hk)
 replace K:=tq_ K hk
 clear hk
 have f0:=((Blk.new w8 75 #[.int .i64 0,.slice none 0 0,.int .i64 0,.slice none 0 0,.slice none 0 0,.slice none 0 0])).frozen 0
 have z0:=((Blk.new w8 75 #[.int .i64 0,.slice none 0 0,.int .i64 0,.slice none 0 0,.slice none 0 0,.slice none 0 0])).cell 0
 have f1:=λ (v0:Value)=>(((Blk.new w8 75 #[.int .i64 0,.slice none 0 0,.int .i64 0,.slice none 0 0,.slice none 0 0,.slice none 0 0])).set_ 0 v0).frozen 1
 have z1:=λ (v0:Value)=>(((Blk.new w8 75 #[.int .i64 0,.slice none 0 0,.int .i64 0,.slice none 0 0,.slice none 0 0,.slice none 0 0])).set_ 0 v0).cell 1
 have f2:=λ (v0 v1:Value)=>((((Blk.new w8 75 #[.int .i64 0,.slice none 0 0,.int .i64 0,.slice none 0 0,.slice none 0 0,.slice none 0 0])).set_ 0 v0).set_ 1 v1).frozen 2
 have z2:=λ (v0 v1:Value)=>((((Blk.new w8 75 #[.int .i64 0,.slice none 0 0,.int .i64 0,.slice none 0 0,.slice none 0 0,.slice none 0 0])).set_ 0 v0).set_ 1 v1).cell 2
 have f3:=λ (v0 v1 v2:Value)=>(((((Blk.new w8 75 #[.int .i64 0,.slice none 0 0,.int .i64 0,.slice none 0 0,.slice none 0 0,.slice none 0 0])).set_ 0 v0).set_ 1 v1).set_ 2 v2).frozen 3
 have z3:=λ (v0 v1 v2:Value)=>(((((Blk.new w8 75 #[.int .i64 0,.slice none 0 0,.int .i64 0,.slice none 0 0,.slice none 0 0,.slice none 0 0])).set_ 0 v0).set_ 1 v1).set_ 2 v2).cell 3
 have f4:=λ (v0 v1 v2 v3:Value)=>((((((Blk.new w8 75 #[.int .i64 0,.slice none 0 0,.int .i64 0,.slice none 0 0,.slice none 0 0,.slice none 0 0])).set_ 0 v0).set_ 1 v1).set_ 2 v2).set_ 3 v3).frozen 4
 have z4:=λ (v0 v1 v2 v3:Value)=>((((((Blk.new w8 75 #[.int .i64 0,.slice none 0 0,.int .i64 0,.slice none 0 0,.slice none 0 0,.slice none 0 0])).set_ 0 v0).set_ 1 v1).set_ 2 v2).set_ 3 v3).cell 4
 have f5:=λ (v0 v1 v2 v3 v4:Value)=>(((((((Blk.new w8 75 #[.int .i64 0,.slice none 0 0,.int .i64 0,.slice none 0 0,.slice none 0 0,.slice none 0 0])).set_ 0 v0).set_ 1 v1).set_ 2 v2).set_ 3 v3).set_ 4 v4).frozen 5
 have z5:=λ (v0 v1 v2 v3 v4:Value)=>(((((((Blk.new w8 75 #[.int .i64 0,.slice none 0 0,.int .i64 0,.slice none 0 0,.slice none 0 0,.slice none 0 0])).set_ 0 v0).set_ 1 v1).set_ 2 v2).set_ 3 v3).set_ 4 v4).cell 5
 go_wp2_with fail
 clear f0 z0 f1 z1 f2 z2 f3 z3 f4 z4 f5 z5
 obtain ⟨N11,hN⟩:∃ N,w8.heap.size=N:=⟨_,rfl⟩
 rw [hN]
 refine calls_at (λ w9 hw=>?_)
 have hk:Keeps Nob w8 w9:=by rw [hw];exact Keeps.alloc _ _ _
 have n0:w9.cell? ⟨N11,0,none⟩=some (.int .i64 s.nd.lvl):=(show Blk w9 N11 75 #[.int .i64 s.nd.lvl,.slice X1 s.nd.high.length k1,.int .i64 s.nd.right,.slice X3 s.nd.keys.length k3,.slice X4 s.nd.vals.length k4,.slice X5 s.nd.kids.length k5] by rw [hw,<-hN];exact Blk.new _ _ _).cell 0
 clear hw hN FY
 replace HF:=Hd (HF.out.nob0 hk)
 replace K:=tq_ K hk
 clear hk
 refine (needOk _ _ _).mono ?_
 rintro e wb ⟨rfl,rfl⟩
 go_wp2
 clear n0
 have HF0:=Hd (HF.out.nilRow 88 1)
 go_loopw [10,13] (λ firstv levelv wr=>∃ (met:List Int) (lvs:List Lq) (allv:Value) (first level:Int),firstv=.int .i64 first/\levelv=.int .i64 level/\MetA A met/\levelsFrom A (chkM a0 a1 a2 a3 a4) (level.toNat+1) level first met (lvs.map Lq.ch)=R/\(∀ l ∈ lvs,LqOk A l)/\lvs.length<=met.length/\Fam wr Nob (axOb M D0 p slots ids A::muBlk P3 23 #[.int .i64 a0,.int .i64 a1,.int .i64 a2,.int .i64 a3,.int .i64 a4]::muBlk (P3+1) 83 #[allv]::muBlk (P3+1+1) 85 #[.int .i64 0,.int .i64 0]::metOb m met::rowOb 88 1 allv lvs.length (lvs.map Lq.v)::lvs.map lqOb)/\(∀ x,allv.ownBlock=some x->P3<=x)/\(∀ l ∈ lvs,∀ x,(lqOb l).F x->P3<=x)/\Keeps Nob w wr) (λ _ levelv _=>(intOf levelv).toNat)
 case atStart=>exact ⟨[],[],.slice none 0 0,A.root,s.nd.lvl,rfl,rfl,⟨List.nodup_nil,λ x hx=>by simp at hx⟩,HR2.out,λ l hl=>by simp at hl,Nat.le_refl _,HF0.out,λ x hx=>(by cases hx),λ l hl=>by simp at hl,K.out⟩
 clear HF HF0 K HR2
 obtain ⟨met,lvs,allv,first,level,rfl,rfl,hmet,hR,hok,hlm,hF,hown,hlF,hk⟩:=hrel
 have HF:=Hd hF
 have HR:=Hd hR
 have HM:=Hd hmet
 have HOK:=Hd hok
 have HOWN:=Hd hown
 have HLF:=Hd hlF
 have K:=Hd hk
 obtain ⟨alA,alc,ea⟩:=(hF.ok 5 _ rfl:Own wr _ _ 1 _ _ _).form
 subst ea
 have hml:=hmet.len
 clear hmet hR hok hF hown hlF hk
 have c0:=(HF.out.ok 1 _ rfl:Blk wr P3 _ _).cell 0
 have c1:=(HF.out.ok 1 _ rfl:Blk wr P3 _ _).cell 1
 have c2:=(HF.out.ok 1 _ rfl:Blk wr P3 _ _).cell 2
 have c3:=(HF.out.ok 1 _ rfl:Blk wr P3 _ _).cell 3
 have c4:=(HF.out.ok 1 _ rfl:Blk wr P3 _ _).cell 4
 go_wp2_with fail
 clear c0 c1 c2 c3 c4
 obtain ⟨C,hC⟩:∃ C,chainM A (chkM a0 a1 a2 a3 a4) level (A.sl.length+1-met.length) first [] met []=C:=⟨_,rfl⟩
 refine (pchainR (HF.out.two (i:=0) (j:=4) rfl rfl (by decide)) HSM.out HKW.out HM.out hC).mono ?_
 obtain ⟨ch,met2,rp⟩:=C
 have HC:=Hd hC
 clear hC
 have HR3:Hid ((if rp.sound=false then ([],rp) else if (kidsLast A (lvs.map Lq.ch) ch).sound=false then ([],kidsLast A (lvs.map Lq.ch) ch) else if level=0 then (lvs.map Lq.ch++[ch],Rp.ok) else levelsFrom A (chkM a0 a1 a2 a3 a4) level.toNat (level-1) (firstKid A ch) met2 (lvs.map Lq.ch++[ch]))=R):=by
  have h:=HR.out
  unfold levelsFrom at h
  simp only at h
  rw [HC.out] at h
  exact Hd h
 clear HR
 rintro e w1 ⟨hk,hcase⟩
 rcases hcase with ⟨hs,lv,ks,D,rfl,hks,hkn,ho,hik,hD,hme⟩|⟨hs,rfl⟩
 rotate_left
 ·have HX:Hid (R=([],rp)):=by have h:=HR3.out;rw [if_pos hs] at h;exact Hd h.symm
  have HS:=Hd hs
  replace HF:=Hd (HF.out.wr (i:=4) (o':=noOb) rfl hk (λ x _ e=>e) trivial (λ x hx=>hx.elim) (λ x hx=>hx.elim) (λ x hx=>hx.elim))
  replace K:=Hd (K.out.trans hk (λ x hx e=>by have e2:x=m:=e;have h1:=HPM.out;have h2:=HP.out;omega))
  clear hk hs
  simp only
  refine leaves_cons (f:=53) (args:=#[.pointer (some ⟨P3+1,0,none⟩),.pointer (some ⟨P3+1+1,0,none⟩)]) (by simp) (by simp [go_sem]) ?_
  refine (catchPanic (HF.out.ok 2 _ rfl:Blk w1 (P3+1) _ _) (HF.out.ok 3 _ rfl:Blk w1 (P3+1+1) _ _) (by omega)).mono ?_
  rintro e u' wz ⟨rfl,rfl,ha,hb,hk⟩
  have s0:=ha.cell 0
  have s1:=hb.cell 0
  have s2:=hb.cell 1
  replace K:=Hd (K.out.trans hk (λ x hx e=>by have h:=HP.out;rcases e with e|e<;>omega))
  clear ha hb hk
  refine (show ∃ v,(results Try.f32 _).run Try.prog wz=.ok v wz/\_ from ⟨.tuple #[.slice none 0 0,.agg #[.int .i64 (rp.node),.int .i64 (rp.err)]],by simp [results,Try.results32,go_sem,s0,s1,s2],K.out,.inr ⟨by rw [HX.out];first|done|exact HS.out,by rw [HX.out];first|done|rfl⟩⟩)
 obtain ⟨hch,hmt,hmet2⟩:Chn A (chkM a0 a1 a2 a3 a4) level first [] ch/\met2=met++ch.map Prod.fst/\MetA A met2:=by
  have hmet:=HM.out
  obtain ⟨r,g1,g2,g3,g4⟩:=chainM_chn (chk:=chkM a0 a1 a2 a3 a4) (level:=level) (A.sl.length+1-met.length) first [] met [] hmet (by have:=hmet.len;omega) (by rw [HC.out];exact hs)
  rw [HC.out,List.nil_append] at g1
  rw [HC.out] at g2
  simp only at g1 g2
  subst g1
  exact ⟨g3,g2,by rw [g2];exact g4⟩
 have HMAY:Hid (∀ n,chkM a0 a1 a2 a3 a4 n=0->May n a0 a1 a2):=Hd (λ n hn=>(may_iff HCF.out).1 hn)
 simp only at hks hme
 have hids:ks.map Lk.id=ch.map Prod.fst:=by rw [<-hks,List.map_map];rfl
 obtain ⟨q,hq⟩:∃ q:Lq,q=⟨ks,lv,D⟩:=⟨_,rfl⟩
 have hqok:LqOk A q:=by
  rw [hq]
  refine ⟨λ k hk2=>?_,?_⟩
  ·obtain ⟨s2,g1,g2⟩:=hkn k hk2
   obtain ⟨s3,g3,g4⟩:=Chn.nodes HMAY.out hch k.pr (by rw [<-hks];exact List.mem_map.2 ⟨k,hk2,rfl⟩)
   have g5:A.get k.id=some s3:=g3
   rw [g1] at g5
   cases g5
   exact ⟨s2,g1,g2,g4⟩
  ·show (ks.map Lk.id).Nodup
   rw [hids]
   have h:=hmet2.1
   rw [hmt] at h
   exact (List.nodup_append.1 h).2.1
 have hqch:q.ch=ch:=by rw [hq];exact hks
 have hqF:∀ x,(lqOb q).F x->Fresh wr w1 x:=λ x hx=>by
  rw [hq] at hx
  rcases hx with hx|hx
  ·exact (ho.blk hx).1
  ·exact (hD x hx).1
 replace HF:Hid (Fam w1 Nob (axOb M D0 p slots ids A::muBlk P3 23 #[.int .i64 a0,.int .i64 a1,.int .i64 a2,.int .i64 a3,.int .i64 a4]::muBlk (P3+1) 83 #[(.slice alA lvs.length alc)]::muBlk (P3+1+1) 85 #[.int .i64 0,.int .i64 0]::metOb m met2::rowOb 88 1 (.slice alA lvs.length alc) lvs.length (lvs.map Lq.v)::(lvs++[q]).map lqOb)):=by
  have h:=HF.out.chnS (i:=4) (o:=lqOb q) rfl hk hme (by rw [hq];exact ⟨ho.self,hik⟩) hqF (λ x hx=>hx)
  show Fam _ _ _
  rw [List.map_append]
  exact h
 obtain ⟨vA,vc,ev⟩:=ho.form
 subst ev
 have HQV:Hid (q.v=.slice vA ks.length vc):=by rw [hq];exact Hd rfl
 have HQK:Hid (q.ks=ks):=by rw [hq];exact Hd rfl
 have HQO:=Hd hqok
 have HQC:=Hd hqch
 have HCH:=Hd hch
 have HMT:=Hd hmt
 have HMET:=Hd hmet2
 have HLF2:Hid (∀ l ∈ lvs++[q],∀ x,(lqOb l).F x->P3<=x):=λ l hl x hx=>by
  rcases List.mem_append.1 hl with h|h
  ·exact HLF.out l h x hx
  ·rw [List.mem_singleton.1 h] at hx
   have h1:=(hqF x hx).1
   have h2:=K.out.size
   have h3:=HP.out
   omega
 replace K:=Hd (K.out.trans hk (λ x hx e=>by have e2:x=m:=e;have h1:=HPM.out;have h2:=HP.out;omega))
 replace HR3:Hid ((if (kidsLast A (lvs.map Lq.ch) ch).sound=false then ([],kidsLast A (lvs.map Lq.ch) ch) else if level=0 then (lvs.map Lq.ch++[ch],Rp.ok) else levelsFrom A (chkM a0 a1 a2 a3 a4) level.toNat (level-1) (firstKid A ch) met2 (lvs.map Lq.ch++[ch]))=R):=by
  have h:=HR3.out;rw [if_neg (by rw [hs];decide)] at h;exact Hd h
 clear hch hmt hmet2 hks hme hids hq hqok hqch hqF ho hik hD hkn hs hk HC HM HLF
 have ca:=(HF.out.ok 2 _ rfl:Blk w1 (P3+1) _ _).cell 0
 by_cases hz:lvs.length=0
 ·have hz0:(lvs.length:Int)<=0:=by omega
  have HR6:Hid ((if level=0 then (lvs.map Lq.ch++[ch],Rp.ok) else levelsFrom A (chkM a0 a1 a2 a3 a4) level.toNat (level-1) (firstKid A ch) met2 (lvs.map Lq.ch++[ch]))=R):=by
   have h:=HR3.out
   have hle:lvs=[]:=List.length_eq_zero_iff.1 hz
   rw [if_neg (by rw [hle];intro h;cases h)] at h
   exact Hd h
  go_upto_region 19 with (fail)
  clear ca hz hz0 HR3
  obtain ⟨j0,hj⟩:=info_parts Try.inf_lrow
  have HJ:=Hd hj
  clear hj
  have ca:=(HF.out.ok 2 _ rfl:Blk w1 (P3+1) _ _).cell 0
  go_wp2_with (at_builtin;obtain ⟨hi0,hz0,hz1,hz2⟩:=HJ.out;refine wpList_app rfl (.tmp 69) (.tmp 71) 83 rfl Try.underlying83 hi0 hz0 hz1 hz2 rfl (by decide) (v:=.slice alA lvs.length alc) (n:=lvs.length) (m:=1) (S:=λ x=>(Value.slice alA lvs.length alc).ownBlock=some x) (T:=λ _=>True) (xs:=lvs.map Lq.v) (news:=[.slice vA ks.length vc]) rfl ?c1 (y:=.slice (some ⟨w1.heap.size,0,none⟩) 1 1) rfl ?c2 ?c3 ?c4 ?c5 ?c6)
  case c1=>exact (HF.out.nob0 (Keeps.alloc Nob _ _)).ok 5 _ rfl
  case c2=>exact (SlG.lit1 _ _ _ _ (by simp)).mono (λ _ _ _=>trivial)
  case c3=>intro u hu;simp at hu;subst hu;rfl
  case c4=>unfold maxLen;omega
  case c5=>omega
  case c6=>
   intro v' b1 ho hk6 hnil
   obtain ⟨aA2,ac2,ev⟩:=ho.form
   subst ev
   have HNIL:Hid ((Value.slice aA2 (lvs.length+1) ac2)≠.slice none 0 0):=Hd (by first|exact hnil|exact λ e=>by have h:=(hnil.1 e).2;cases h)
   have HOWN2:Hid (∀ x,(Value.slice aA2 (lvs.length+1) ac2).ownBlock=some x->P3<=x):=λ x hx=>by
    rcases (ho.blk hx).1 with h|h
    ·exact HOWN.out x h
    ·have h1:=h.1;have h2:=K.out.size;have h3:=HP.out;first|omega|(simp at h1;omega)
   replace K:=Hd ((K.out.alloc' _).trans hk6 (λ x hx e=>absurd hx (by have:=HP.out;have:=HOWN.out x e;omega)))
   replace HF:Hid (Fam b1 Nob (axOb M D0 p slots ids A::muBlk P3 23 #[.int .i64 a0,.int .i64 a1,.int .i64 a2,.int .i64 a3,.int .i64 a4]::muBlk (P3+1) 83 #[(.slice alA lvs.length alc)]::muBlk (P3+1+1) 85 #[.int .i64 0,.int .i64 0]::metOb m met2::rowOb 88 1 (.slice aA2 (lvs.length+1) ac2) (lvs.length+1) (lvs.map Lq.v++[.slice vA ks.length vc])::(lvs++[q]).map lqOb)):=Hd ((HF.out.nob0 (Keeps.alloc Nob _ _)).app0 (i:=5) rfl hk6 (ho.mono (λ b _ hb=>hb.imp (λ h=>h) (λ h=>⟨by simpa using h.1,h.2⟩))))
   clear ho hk6 hnil ca
   have q0:=(HF.out.ok 2 _ rfl:Blk b1 (P3+1) _ _).cell 0
   have f0:=(HF.out.ok 2 _ rfl:Blk b1 (P3+1) _ _).frozen 0
   go_upto_region 20 with (fail)
   clear q0 f0
   refine code_at (λ v2 hw=>?_)
   have hk:Keeps (λ x=>x=P3+1) b1 v2:=by rw [hw];exact Keeps.setCell _ (M:=λ x=>x=P3+1) rfl _
   replace HF:Hid (Fam v2 Nob (axOb M D0 p slots ids A::muBlk P3 23 #[.int .i64 a0,.int .i64 a1,.int .i64 a2,.int .i64 a3,.int .i64 a4]::muBlk (P3+1) 83 #[(.slice aA2 (lvs.length+1) ac2)]::muBlk (P3+1+1) 85 #[.int .i64 0,.int .i64 0]::metOb m met2::rowOb 88 1 (.slice aA2 (lvs.length+1) ac2) (lvs.length+1) (lvs.map Lq.v++[.slice vA ks.length vc])::(lvs++[q]).map lqOb)):=Hd (HF.out.setBlk (i:=2) rfl hk (by rw [hw];exact (HF.out.ok 2 _ rfl:Blk b1 (P3+1) _ _).set_ 0 _))
   replace K:=Hd (K.out.trans hk (λ x hx e=>by have e2:x=P3+1:=e;have h:=HP.out;omega))
   clear hk hw
   have E1:(lvs++[q]).length=lvs.length+1:=by simp
   have E2:(lvs++[q]).map Lq.v=lvs.map Lq.v++[.slice vA ks.length vc]:=by rw [List.map_append];simp [HQV.out]
   have E3:(lvs++[q]).map Lq.ch=lvs.map Lq.ch++[ch]:=by rw [List.map_append];simp [HQC.out]
   have HOK2:Hid (∀ l ∈ lvs++[q],LqOk A l):=λ l hl=>by
    rcases List.mem_append.1 hl with h|h
    ·exact HOK.out l h
    ·rw [List.mem_singleton.1 h];exact HQO.out
   by_cases hl0:level=0
   ·as_aux_lemma=>
    subst hl0
    have HX:Hid (R=(lvs.map Lq.ch++[ch],.ok)):=by have h:=HR6.out;rw [if_pos rfl] at h;exact Hd h.symm
    have q0:=(HF.out.ok 2 _ rfl:Blk v2 (P3+1) _ _).cell 0
    have f0:=(HF.out.ok 2 _ rfl:Blk v2 (P3+1) _ _).frozen 0
    go_upto_region 21 with (fail)
    refine wp_region_list ?_
    refine wpList_takeS 3 [(some 75,.slice aA2 (lvs.length+1) ac2),(some 76,.agg #[.int .i64 0,.int .i64 0]),(none,.tuple #[])] (λ W'=>Keeps (λ x=>x=P3+1) v2 W'/\Blk W' (P3+1) 83 #[.slice aA2 (lvs.length+1) ac2]) ?_ ?_
    ·show wpList _ _ _ [_,_,_] _ _
     go_wp2
     exact ⟨by simp only [putsA,Act.put,sa_,sb_,sc_],Keeps.setCell _ (M:=λ x=>x=P3+1) rfl _,(HF.out.ok 2 _ rfl:Blk v2 (P3+1) _ _).set_ 0 _⟩
    clear q0 f0
    rintro v3 ⟨hk,hb⟩
    replace HF:Hid (Fam v3 Nob (axOb M D0 p slots ids A::muBlk P3 23 #[.int .i64 a0,.int .i64 a1,.int .i64 a2,.int .i64 a3,.int .i64 a4]::muBlk (P3+1) 83 #[(.slice aA2 (lvs.length+1) ac2)]::muBlk (P3+1+1) 85 #[.int .i64 0,.int .i64 0]::metOb m met2::rowOb 88 1 (.slice aA2 (lvs.length+1) ac2) (lvs.length+1) (lvs.map Lq.v++[.slice vA ks.length vc])::(lvs++[q]).map lqOb)):=Hd (HF.out.setBlk (i:=2) rfl hk hb)
    replace K:=Hd (K.out.trans hk (λ x hx e=>by have e2:x=P3+1:=e;have h:=HP.out;omega))
    clear hk hb
    simp only [putsA,Act.put,sa_,sb_,sc_]
    refine wpList_takeS 1 [(none,.tuple #[])] (λ W'=>Keeps (λ x=>x=P3+1+1) v3 W'/\Blk W' (P3+1+1) 85 #[.int .i64 0,.int .i64 0]) ?_ ?_
    ·have p0:=(HF.out.ok 3 _ rfl:Blk v3 (P3+1+1) _ _).cell 0
     have g0:=(HF.out.ok 3 _ rfl:Blk v3 (P3+1+1) _ _).frozen 0
     have p1:=(HF.out.ok 3 _ rfl:Blk v3 (P3+1+1) _ _).cell 1
     have g1:=(HF.out.ok 3 _ rfl:Blk v3 (P3+1+1) _ _).frozen 1
     show wpList _ _ _ [_] _ _
     go_wp2
     exact ⟨by simp only [putsA,Act.put],(Keeps.setCell _ (M:=λ x=>x=P3+1+1) rfl _).setCell' (λ _=>rfl) _,((HF.out.ok 3 _ rfl:Blk v3 (P3+1+1) _ _).set_ 0 _).set_ 1 _⟩
    rintro v4 ⟨hk,hb⟩
    replace HF:Hid (Fam v4 Nob (axOb M D0 p slots ids A::muBlk P3 23 #[.int .i64 a0,.int .i64 a1,.int .i64 a2,.int .i64 a3,.int .i64 a4]::muBlk (P3+1) 83 #[(.slice aA2 (lvs.length+1) ac2)]::muBlk (P3+1+1) 85 #[.int .i64 0,.int .i64 0]::metOb m met2::rowOb 88 1 (.slice aA2 (lvs.length+1) ac2) (lvs.length+1) (lvs.map Lq.v++[.slice vA ks.length vc])::(lvs++[q]).map lqOb)):=Hd (HF.out.setBlk (i:=3) rfl hk hb)
    replace K:=Hd (K.out.trans hk (λ x hx e=>by have e2:x=P3+1+1:=e;have h:=HP.out;omega))
    clear hk hb
    simp only [putsA,Act.put]
    show wpList _ _ _ [] _ _
    go_wp2
    refine leaves_cons (f:=53) (args:=#[.pointer (some ⟨P3+1,0,none⟩),.pointer (some ⟨P3+1+1,0,none⟩)]) (by simp) (by simp [go_sem]) ?_
    refine (catchIdle _ _ _).mono ?_
    rintro e u' wz ⟨rfl,rfl,rfl⟩
    have s0:=(HF.out.ok 2 _ rfl:Blk wz (P3+1) _ _).cell 0
    have s1:=(HF.out.ok 3 _ rfl:Blk wz (P3+1+1) _ _).cell 0
    have s2:=(HF.out.ok 3 _ rfl:Blk wz (P3+1+1) _ _).cell 1
    refine (show ∃ v,(results Try.f32 _).run Try.prog wz=.ok v wz/\_ from ⟨.tuple #[.slice aA2 (lvs.length+1) ac2,.agg #[.int .i64 0,.int .i64 0]],by simp [results,Try.results32,go_sem,s0,s1,s2],K.out,.inl ⟨by rw [HX.out];rfl,_,rfl,lvs++[q],by rw [E1];omega,by rw [HX.out];exact E3,HOK2.out,?_,?_⟩⟩)
    ·rw [E1,E2]
     exact (HF.out.ok 5 _ rfl:Own wz _ 88 1 _ _ _).mono (λ x hx e=>⟨by have h1:=HOWN2.out x e;have h2:=HP.out;omega,hx⟩)
    ·intro l hl
     obtain ⟨n,hn⟩:=List.getElem?_of_mem hl
     have hi:(axOb M D0 p slots ids A::muBlk P3 23 #[.int .i64 a0,.int .i64 a1,.int .i64 a2,.int .i64 a3,.int .i64 a4]::muBlk (P3+1) 83 #[.slice aA2 (lvs.length+1) ac2]::muBlk (P3+1+1) 85 #[.int .i64 0,.int .i64 0]::metOb m met2::rowOb 88 1 (.slice aA2 (lvs.length+1) ac2) (lvs.length+1) (lvs.map Lq.v++[.slice vA ks.length vc])::(lvs++[q]).map lqOb)[n+6]?=some (lqOb l):=by
      simp only [List.getElem?_cons_succ,List.getElem?_map,hn,Option.map_some]
     exact ⟨HF.out.ok (n+6) _ hi,λ x hx=>⟨by have h1:=HLF2.out l hl x hx;have h2:=HP.out;omega,HF.out.old (n+6) _ hi x hx⟩⟩
   obtain ⟨sf,rest,ech,gsf,lsf,csf,_,_⟩:=HCH.out.at_
   have hmay:=HMAY.out _ csf
   have hlv:0<=level/\level<=32:=by rw [<-lsf];exact hmay.lvl
   have hkl:sf.nd.kids.length=sf.nd.keys.length+1:=(hmay.inner (by rw [lsf];exact hl0)).2.2.2.1
   have hqp:(lqOb q).P v2:=HF.out.ok (lvs.length+6) _ (by simp only [List.getElem?_cons_succ,List.getElem?_map,List.getElem?_append_right (Nat.le_refl lvs.length),Nat.sub_self,List.getElem?_cons_zero,Option.map_some])
   obtain ⟨k0,hk0,hkp⟩:∃ k0,ks[0]?=some k0/\k0.pr=(first,[]):=by
    have h:(ks.map Lk.pr)[0]?=some (first,[]):=by
     have h1:=HQC.out
     unfold Lq.ch at h1
     rw [HQK.out] at h1
     rw [h1,ech];rfl
    rw [List.getElem?_map] at h
    cases h2:ks[0]? with
    | none=>rw [h2] at h;cases h
    | some y=>rw [h2] at h;exact ⟨y,rfl,by simpa using h⟩
   have hk0n:k0.nd=sf.nd:=by
    obtain ⟨s2,g1,g2,_⟩:=HQO.out.1 k0 (by rw [HQK.out];exact List.mem_of_getElem? hk0)
    have e:k0.id=first:=by have:=congrArg Prod.fst hkp;exact this
    rw [e,gsf] at g1
    cases g1
    exact g2.symm
   have hrow:Own v2 (λ b=>(Value.slice vA ks.length vc).ownBlock=some b) 90 8 (.slice vA ks.length vc) ks.length (lkCells ks):=by have h:=hqp.1;rw [HQV.out,HQK.out] at h;exact h
   obtain ⟨g,o,LA,LC,X1,k1,X3,k3,X4,k4,X5,k5,eA,_,_,_,_,_,_,_,q7,_,hnd⟩:=lk_cells hrow rfl hk0 (hqp.2 k0 (by rw [HQK.out];exact List.mem_of_getElem? hk0))
   subst eA
   rw [hk0n] at q7 hnd
   obtain ⟨kid,hkid⟩:∃ y,sf.nd.kids[0]?=some y:=⟨_,List.getElem?_eq_getElem (by omega)⟩
   obtain ⟨ad,eX,_,hc⟩:=hnd.2.kids.cells (show 0 < sf.nd.kids.length by omega)
   subst eX
   have qk:v2.cell? ad=some (.int .i64 kid):=by have h:=hc 0 kid hkid;have e:ad.add 0=ad:=rfl;rw [e] at h;exact h
   have q7':v2.cell? ⟨g,o+7,none⟩=some (.slice (some ad) sf.nd.kids.length k5):=by have h:=q7;rw [Nat.zero_mul,Nat.add_zero] at h;exact h
   have HFK:Hid (firstKid A ch=kid):=by
    have h:firstKid A ch=(opNd A first).kids.getD 0 0:=by rw [ech];rfl
    rw [h,opNd_some gsf,List.getD_eq_getElem?_getD,hkid];exact Hd rfl
   have hkp0:0 < ks.length:=(List.getElem?_eq_some_iff.1 hk0).1
   have hkq0:0 < sf.nd.kids.length:=by omega
   have hne:(level==0)=false:=by simpa using hl0
   have HR7:Hid (levelsFrom A (chkM a0 a1 a2 a3 a4) level.toNat (level-1) kid met2 (lvs.map Lq.ch++[ch])=R):=by have h:=HR6.out;rw [if_neg hl0,HFK.out] at h;exact Hd h
   have HLL:Hid (lvs.length+1<=met2.length):=by rw [HMT.out,ech];simp;exact Hd (by omega)
   clear hmay hkl hqp hk0 hkp hk0n hrow q7 hnd hkid hc ech gsf csf HR6 lsf
   go_wp2
   clear qk q7' hkp0 hkq0 hne
   go_roundw
   case rel=>
    refine ⟨met2,lvs++[q],.slice aA2 (lvs.length+1) ac2,kid,level-1,rfl,rfl,HMET.out,?_,HOK2.out,by rw [E1];exact HLL.out,?_,HOWN2.out,HLF2.out,K.out⟩
    ·rw [E3,show (level-1).toNat+1=level.toNat by omega];exact HR7.out
    ·rw [E1,E2];exact HF.out
   case measure=>simp [intOf];omega
 obtain ⟨ix,hix⟩:∃ ix:Nat,(lvs.length:Int)-1=(ix:Int):=⟨lvs.length-1,by omega⟩
 have hxl:ix < lvs.length:=by omega
 obtain ⟨lq,hlq⟩:∃ d,lvs[ix]?=some d:=⟨_,List.getElem?_eq_getElem hxl⟩
 have hlast:kidsLast A (lvs.map Lq.ch) ch=kidsM A ch (lq.ks.map Lk.pr):=by
  unfold kidsLast
  have h:(lvs.map Lq.ch).getLast?=some lq.ch:=by
   rw [List.getLast?_eq_getElem?,List.length_map,show lvs.length-1=ix by omega,List.getElem?_map,hlq];rfl
  rw [h];rfl
 have hup:(lqOb lq).P w1:=HF.out.ok (ix+6) _ (by simp only [List.getElem?_cons_succ,List.getElem?_map,List.getElem?_append_left hxl,hlq,Option.map_some])
 have hqp:(lqOb q).P w1:=HF.out.ok (lvs.length+6) _ (by simp only [List.getElem?_cons_succ,List.getElem?_map,List.getElem?_append_right (Nat.le_refl lvs.length),Nat.sub_self,List.getElem?_cons_zero,Option.map_some])
 have hlok:=HOK.out lq (List.mem_of_getElem? hlq)
 obtain ⟨uA,uc,eu⟩:=hup.1.form
 obtain ⟨g9,o9,eal,q0⟩:=Own.at8 (HF.out.ok 5 _ rfl:Own w1 _ 88 1 _ _ _) (by omega) (show (lvs.map Lq.v)[ix]?=some lq.v by rw [List.getElem?_map,hlq];rfl)
 subst eal
 rw [eu] at q0
 have hmetl:∀ l:Lq,LqOk A l->l.ks.length<=65536:=λ l hl=>by
  have h:MetA A (l.ks.map Lk.id):=⟨hl.2,λ x hx=>by
   obtain ⟨k,hk,rfl⟩:=List.mem_map.1 hx
   obtain ⟨s2,g1,_⟩:=hl.1 k hk
   exact get_le g1⟩
  have h2:=h.len
  rw [List.length_map] at h2
  omega
 have hR':kidsM A (ks.map Lk.pr) (lq.ks.map Lk.pr)=kidsLast A (lvs.map Lq.ch) ch:=by
  rw [hlast]
  have h:=HQC.out
  unfold Lq.ch at h
  rw [HQK.out] at h
  rw [h]
 have FK:=pkidsR (A:=A) (w:=w1) (ku:=lq.ks) (kd:=ks) (uv:=.slice uA lq.ks.length uc) (dv:=.slice vA ks.length vc) (by have h:=hup.1;rw [eu] at h;exact h) (by have h:=hqp.1;rw [HQV.out,HQK.out] at h;exact h) hup.2 (by have h:=hqp.2;rw [HQK.out] at h;exact h) (by have h:=HQO.out.2;rw [HQK.out] at h;exact h)
  (λ k hk=>by
   obtain ⟨s2,g1,_⟩:=HQO.out.1 k (by rw [HQK.out];exact hk)
   have h:=get_le g1
   exact k64_in h.1 (by omega))
  (λ k hk=>by
   obtain ⟨s2,g1,g2,g3⟩:=hlok.1 k hk
   rw [<-g2]
   exact ⟨HKW.out s2 (by obtain ⟨_,_,h2,_⟩:=get_some g1;exact List.mem_of_getElem? h2),g3⟩)
  (λ k hk=>by
   obtain ⟨s2,g1,g2,_⟩:=hlok.1 k hk
   rw [opNd_some g1,g2])
  (hmetl lq hlok) (by have h:=hmetl q HQO.out;rw [HQK.out] at h;exact h) hR'
 have hz1:(0:Int) < (lvs.length:Int):=by omega
 have hpx:0<=(ix:Int)/\(ix:Int) < (lvs.length:Int):=by omega
 have hix2:IntKind.i64.wrap ((lvs.length:Int)-1)=(ix:Int):=by rw [IntKind.wrap_i64];omega
 have HFK:=Hd FK
 clear hix hlq hlast hup hqp hlok eu hmetl hR' FK hz
 go_wp2_with fail
 clear ca q0 hz1 hpx hix2
 refine HFK.out.mono ?_
 rintro e w2 ⟨hk,hcase⟩
 replace HF:=Hd (HF.out.nob0 hk)
 replace K:=tq_ K hk
 clear hk HFK
 rcases hcase with ⟨hs,rfl⟩|⟨hs,rfl⟩
 rotate_left
 ·have HX:Hid (R=([],kidsLast A (lvs.map Lq.ch) ch)):=by have h:=HR3.out;rw [if_pos hs] at h;exact Hd h.symm
  have HS:=Hd hs
  clear hs
  simp only
  refine leaves_cons (f:=53) (args:=#[.pointer (some ⟨P3+1,0,none⟩),.pointer (some ⟨P3+1+1,0,none⟩)]) (by simp) (by simp [go_sem]) ?_
  refine (catchPanic (HF.out.ok 2 _ rfl:Blk w2 (P3+1) _ _) (HF.out.ok 3 _ rfl:Blk w2 (P3+1+1) _ _) (by omega)).mono ?_
  rintro e u' wz ⟨rfl,rfl,ha,hb,hk⟩
  have s0:=ha.cell 0
  have s1:=hb.cell 0
  have s2:=hb.cell 1
  replace K:=Hd (K.out.trans hk (λ x hx e=>by have h:=HP.out;rcases e with e|e<;>omega))
  clear ha hb hk
  refine (show ∃ v,(results Try.f32 _).run Try.prog wz=.ok v wz/\_ from ⟨.tuple #[.slice none 0 0,.agg #[.int .i64 ((kidsLast A (lvs.map Lq.ch) ch).node),.int .i64 ((kidsLast A (lvs.map Lq.ch) ch).err)]],by simp [results,Try.results32,go_sem,s0,s1,s2],K.out,.inr ⟨by rw [HX.out];first|done|exact HS.out,by rw [HX.out];first|done|rfl⟩⟩)
 have HR6:Hid ((if level=0 then (lvs.map Lq.ch++[ch],Rp.ok) else levelsFrom A (chkM a0 a1 a2 a3 a4) level.toNat (level-1) (firstKid A ch) met2 (lvs.map Lq.ch++[ch]))=R):=by
  have h:=HR3.out
  rw [if_neg (by rw [hs];decide)] at h
  exact Hd h
 clear hs HR3
 go_upto_region 19 with (fail)
 obtain ⟨j0,hj⟩:=info_parts Try.inf_lrow
 have HJ:=Hd hj
 clear hj
 have ca:=(HF.out.ok 2 _ rfl:Blk w2 (P3+1) _ _).cell 0
 go_wp2_with (at_builtin;obtain ⟨hi0,hz0,hz1,hz2⟩:=HJ.out;refine wpList_app rfl (.tmp 69) (.tmp 71) 83 rfl Try.underlying83 hi0 hz0 hz1 hz2 rfl (by decide) (v:=.slice (some ⟨g9,o9,none⟩) lvs.length alc) (n:=lvs.length) (m:=1) (S:=λ x=>(Value.slice (some ⟨g9,o9,none⟩) lvs.length alc).ownBlock=some x) (T:=λ _=>True) (xs:=lvs.map Lq.v) (news:=[.slice vA ks.length vc]) rfl ?d1 (y:=.slice (some ⟨w2.heap.size,0,none⟩) 1 1) rfl ?d2 ?d3 ?d4 ?d5 ?d6)
 case d1=>exact (HF.out.nob0 (Keeps.alloc Nob _ _)).ok 5 _ rfl
 case d2=>exact (SlG.lit1 _ _ _ _ (by simp)).mono (λ _ _ _=>trivial)
 case d3=>intro u hu;simp at hu;subst hu;rfl
 case d4=>unfold maxLen;omega
 case d5=>omega
 case d6=>
  intro v' b1 ho hk6 hnil
  obtain ⟨aA2,ac2,ev⟩:=ho.form
  subst ev
  have HNIL:Hid ((Value.slice aA2 (lvs.length+1) ac2)≠.slice none 0 0):=Hd (by first|exact hnil|exact λ e=>by have h:=(hnil.1 e).2;cases h)
  have HOWN2:Hid (∀ x,(Value.slice aA2 (lvs.length+1) ac2).ownBlock=some x->P3<=x):=λ x hx=>by
   rcases (ho.blk hx).1 with h|h
   ·exact HOWN.out x h
   ·have h1:=h.1;have h2:=K.out.size;have h3:=HP.out;first|omega|(simp at h1;omega)
  replace K:=Hd ((K.out.alloc' _).trans hk6 (λ x hx e=>absurd hx (by have:=HP.out;have:=HOWN.out x e;omega)))
  replace HF:Hid (Fam b1 Nob (axOb M D0 p slots ids A::muBlk P3 23 #[.int .i64 a0,.int .i64 a1,.int .i64 a2,.int .i64 a3,.int .i64 a4]::muBlk (P3+1) 83 #[(.slice (some ⟨g9,o9,none⟩) lvs.length alc)]::muBlk (P3+1+1) 85 #[.int .i64 0,.int .i64 0]::metOb m met2::rowOb 88 1 (.slice aA2 (lvs.length+1) ac2) (lvs.length+1) (lvs.map Lq.v++[.slice vA ks.length vc])::(lvs++[q]).map lqOb)):=Hd ((HF.out.nob0 (Keeps.alloc Nob _ _)).app0 (i:=5) rfl hk6 (ho.mono (λ b _ hb=>hb.imp (λ h=>h) (λ h=>⟨by simpa using h.1,h.2⟩))))
  clear ho hk6 hnil ca
  have q0:=(HF.out.ok 2 _ rfl:Blk b1 (P3+1) _ _).cell 0
  have f0:=(HF.out.ok 2 _ rfl:Blk b1 (P3+1) _ _).frozen 0
  go_upto_region 20 with (fail)
  clear q0 f0
  refine code_at (λ v2 hw=>?_)
  have hk:Keeps (λ x=>x=P3+1) b1 v2:=by rw [hw];exact Keeps.setCell _ (M:=λ x=>x=P3+1) rfl _
  replace HF:Hid (Fam v2 Nob (axOb M D0 p slots ids A::muBlk P3 23 #[.int .i64 a0,.int .i64 a1,.int .i64 a2,.int .i64 a3,.int .i64 a4]::muBlk (P3+1) 83 #[(.slice aA2 (lvs.length+1) ac2)]::muBlk (P3+1+1) 85 #[.int .i64 0,.int .i64 0]::metOb m met2::rowOb 88 1 (.slice aA2 (lvs.length+1) ac2) (lvs.length+1) (lvs.map Lq.v++[.slice vA ks.length vc])::(lvs++[q]).map lqOb)):=Hd (HF.out.setBlk (i:=2) rfl hk (by rw [hw];exact (HF.out.ok 2 _ rfl:Blk b1 (P3+1) _ _).set_ 0 _))
  replace K:=Hd (K.out.trans hk (λ x hx e=>by have e2:x=P3+1:=e;have h:=HP.out;omega))
  clear hk hw
  have E1:(lvs++[q]).length=lvs.length+1:=by simp
  have E2:(lvs++[q]).map Lq.v=lvs.map Lq.v++[.slice vA ks.length vc]:=by rw [List.map_append];simp [HQV.out]
  have E3:(lvs++[q]).map Lq.ch=lvs.map Lq.ch++[ch]:=by rw [List.map_append];simp [HQC.out]
  have HOK2:Hid (∀ l ∈ lvs++[q],LqOk A l):=λ l hl=>by
   rcases List.mem_append.1 hl with h|h
   ·exact HOK.out l h
   ·rw [List.mem_singleton.1 h];exact HQO.out
  by_cases hl0:level=0
  ·as_aux_lemma=>
   subst hl0
   have HX:Hid (R=(lvs.map Lq.ch++[ch],.ok)):=by have h:=HR6.out;rw [if_pos rfl] at h;exact Hd h.symm
   have q0:=(HF.out.ok 2 _ rfl:Blk v2 (P3+1) _ _).cell 0
   have f0:=(HF.out.ok 2 _ rfl:Blk v2 (P3+1) _ _).frozen 0
   go_upto_region 21 with (fail)
   refine wp_region_list ?_
   refine wpList_takeS 3 [(some 75,.slice aA2 (lvs.length+1) ac2),(some 76,.agg #[.int .i64 0,.int .i64 0]),(none,.tuple #[])] (λ W'=>Keeps (λ x=>x=P3+1) v2 W'/\Blk W' (P3+1) 83 #[.slice aA2 (lvs.length+1) ac2]) ?_ ?_
   ·show wpList _ _ _ [_,_,_] _ _
    go_wp2
    exact ⟨by simp only [putsA,Act.put,sa_,sb_,sc_],Keeps.setCell _ (M:=λ x=>x=P3+1) rfl _,(HF.out.ok 2 _ rfl:Blk v2 (P3+1) _ _).set_ 0 _⟩
   clear q0 f0
   rintro v3 ⟨hk,hb⟩
   replace HF:Hid (Fam v3 Nob (axOb M D0 p slots ids A::muBlk P3 23 #[.int .i64 a0,.int .i64 a1,.int .i64 a2,.int .i64 a3,.int .i64 a4]::muBlk (P3+1) 83 #[(.slice aA2 (lvs.length+1) ac2)]::muBlk (P3+1+1) 85 #[.int .i64 0,.int .i64 0]::metOb m met2::rowOb 88 1 (.slice aA2 (lvs.length+1) ac2) (lvs.length+1) (lvs.map Lq.v++[.slice vA ks.length vc])::(lvs++[q]).map lqOb)):=Hd (HF.out.setBlk (i:=2) rfl hk hb)
   replace K:=Hd (K.out.trans hk (λ x hx e=>by have e2:x=P3+1:=e;have h:=HP.out;omega))
   clear hk hb
   simp only [putsA,Act.put,sa_,sb_,sc_]
   refine wpList_takeS 1 [(none,.tuple #[])] (λ W'=>Keeps (λ x=>x=P3+1+1) v3 W'/\Blk W' (P3+1+1) 85 #[.int .i64 0,.int .i64 0]) ?_ ?_
   ·have p0:=(HF.out.ok 3 _ rfl:Blk v3 (P3+1+1) _ _).cell 0
    have g0:=(HF.out.ok 3 _ rfl:Blk v3 (P3+1+1) _ _).frozen 0
    have p1:=(HF.out.ok 3 _ rfl:Blk v3 (P3+1+1) _ _).cell 1
    have g1:=(HF.out.ok 3 _ rfl:Blk v3 (P3+1+1) _ _).frozen 1
    show wpList _ _ _ [_] _ _
    go_wp2
    exact ⟨by simp only [putsA,Act.put],(Keeps.setCell _ (M:=λ x=>x=P3+1+1) rfl _).setCell' (λ _=>rfl) _,((HF.out.ok 3 _ rfl:Blk v3 (P3+1+1) _ _).set_ 0 _).set_ 1 _⟩
   rintro v4 ⟨hk,hb⟩
   replace HF:Hid (Fam v4 Nob (axOb M D0 p slots ids A::muBlk P3 23 #[.int .i64 a0,.int .i64 a1,.int .i64 a2,.int .i64 a3,.int .i64 a4]::muBlk (P3+1) 83 #[(.slice aA2 (lvs.length+1) ac2)]::muBlk (P3+1+1) 85 #[.int .i64 0,.int .i64 0]::metOb m met2::rowOb 88 1 (.slice aA2 (lvs.length+1) ac2) (lvs.length+1) (lvs.map Lq.v++[.slice vA ks.length vc])::(lvs++[q]).map lqOb)):=Hd (HF.out.setBlk (i:=3) rfl hk hb)
   replace K:=Hd (K.out.trans hk (λ x hx e=>by have e2:x=P3+1+1:=e;have h:=HP.out;omega))
   clear hk hb
   simp only [putsA,Act.put]
   show wpList _ _ _ [] _ _
   go_wp2
   refine leaves_cons (f:=53) (args:=#[.pointer (some ⟨P3+1,0,none⟩),.pointer (some ⟨P3+1+1,0,none⟩)]) (by simp) (by simp [go_sem]) ?_
   refine (catchIdle _ _ _).mono ?_
   rintro e u' wz ⟨rfl,rfl,rfl⟩
   have s0:=(HF.out.ok 2 _ rfl:Blk wz (P3+1) _ _).cell 0
   have s1:=(HF.out.ok 3 _ rfl:Blk wz (P3+1+1) _ _).cell 0
   have s2:=(HF.out.ok 3 _ rfl:Blk wz (P3+1+1) _ _).cell 1
   refine (show ∃ v,(results Try.f32 _).run Try.prog wz=.ok v wz/\_ from ⟨.tuple #[.slice aA2 (lvs.length+1) ac2,.agg #[.int .i64 0,.int .i64 0]],by simp [results,Try.results32,go_sem,s0,s1,s2],K.out,.inl ⟨by rw [HX.out];rfl,_,rfl,lvs++[q],by rw [E1];omega,by rw [HX.out];exact E3,HOK2.out,?_,?_⟩⟩)
   ·rw [E1,E2]
    exact (HF.out.ok 5 _ rfl:Own wz _ 88 1 _ _ _).mono (λ x hx e=>⟨by have h1:=HOWN2.out x e;have h2:=HP.out;omega,hx⟩)
   ·intro l hl
    obtain ⟨n,hn⟩:=List.getElem?_of_mem hl
    have hi:(axOb M D0 p slots ids A::muBlk P3 23 #[.int .i64 a0,.int .i64 a1,.int .i64 a2,.int .i64 a3,.int .i64 a4]::muBlk (P3+1) 83 #[.slice aA2 (lvs.length+1) ac2]::muBlk (P3+1+1) 85 #[.int .i64 0,.int .i64 0]::metOb m met2::rowOb 88 1 (.slice aA2 (lvs.length+1) ac2) (lvs.length+1) (lvs.map Lq.v++[.slice vA ks.length vc])::(lvs++[q]).map lqOb)[n+6]?=some (lqOb l):=by
     simp only [List.getElem?_cons_succ,List.getElem?_map,hn,Option.map_some]
    exact ⟨HF.out.ok (n+6) _ hi,λ x hx=>⟨by have h1:=HLF2.out l hl x hx;have h2:=HP.out;omega,HF.out.old (n+6) _ hi x hx⟩⟩
  obtain ⟨sf,rest,ech,gsf,lsf,csf,_,_⟩:=HCH.out.at_
  have hmay:=HMAY.out _ csf
  have hlv:0<=level/\level<=32:=by rw [<-lsf];exact hmay.lvl
  have hkl:sf.nd.kids.length=sf.nd.keys.length+1:=(hmay.inner (by rw [lsf];exact hl0)).2.2.2.1
  have hqp:(lqOb q).P v2:=HF.out.ok (lvs.length+6) _ (by simp only [List.getElem?_cons_succ,List.getElem?_map,List.getElem?_append_right (Nat.le_refl lvs.length),Nat.sub_self,List.getElem?_cons_zero,Option.map_some])
  obtain ⟨k0,hk0,hkp⟩:∃ k0,ks[0]?=some k0/\k0.pr=(first,[]):=by
   have h:(ks.map Lk.pr)[0]?=some (first,[]):=by
    have h1:=HQC.out
    unfold Lq.ch at h1
    rw [HQK.out] at h1
    rw [h1,ech];rfl
   rw [List.getElem?_map] at h
   cases h2:ks[0]? with
   | none=>rw [h2] at h;cases h
   | some y=>rw [h2] at h;exact ⟨y,rfl,by simpa using h⟩
  have hk0n:k0.nd=sf.nd:=by
   obtain ⟨s2,g1,g2,_⟩:=HQO.out.1 k0 (by rw [HQK.out];exact List.mem_of_getElem? hk0)
   have e:k0.id=first:=by have:=congrArg Prod.fst hkp;exact this
   rw [e,gsf] at g1
   cases g1
   exact g2.symm
  have hrow:Own v2 (λ b=>(Value.slice vA ks.length vc).ownBlock=some b) 90 8 (.slice vA ks.length vc) ks.length (lkCells ks):=by have h:=hqp.1;rw [HQV.out,HQK.out] at h;exact h
  obtain ⟨g,o,LA,LC,X1,k1,X3,k3,X4,k4,X5,k5,eA,_,_,_,_,_,_,_,q7,_,hnd⟩:=lk_cells hrow rfl hk0 (hqp.2 k0 (by rw [HQK.out];exact List.mem_of_getElem? hk0))
  subst eA
  rw [hk0n] at q7 hnd
  obtain ⟨kid,hkid⟩:∃ y,sf.nd.kids[0]?=some y:=⟨_,List.getElem?_eq_getElem (by omega)⟩
  obtain ⟨ad,eX,_,hc⟩:=hnd.2.kids.cells (show 0 < sf.nd.kids.length by omega)
  subst eX
  have qk:v2.cell? ad=some (.int .i64 kid):=by have h:=hc 0 kid hkid;have e:ad.add 0=ad:=rfl;rw [e] at h;exact h
  have q7':v2.cell? ⟨g,o+7,none⟩=some (.slice (some ad) sf.nd.kids.length k5):=by have h:=q7;rw [Nat.zero_mul,Nat.add_zero] at h;exact h
  have HFK:Hid (firstKid A ch=kid):=by
   have h:firstKid A ch=(opNd A first).kids.getD 0 0:=by rw [ech];rfl
   rw [h,opNd_some gsf,List.getD_eq_getElem?_getD,hkid];exact Hd rfl
  have hkp0:0 < ks.length:=(List.getElem?_eq_some_iff.1 hk0).1
  have hkq0:0 < sf.nd.kids.length:=by omega
  have hne:(level==0)=false:=by simpa using hl0
  have HR7:Hid (levelsFrom A (chkM a0 a1 a2 a3 a4) level.toNat (level-1) kid met2 (lvs.map Lq.ch++[ch])=R):=by have h:=HR6.out;rw [if_neg hl0,HFK.out] at h;exact Hd h
  have HLL:Hid (lvs.length+1<=met2.length):=by rw [HMT.out,ech];simp;exact Hd (by omega)
  clear hmay hkl hqp hk0 hkp hk0n hrow q7 hnd hkid hc ech gsf csf HR6 lsf
  go_wp2
  clear qk q7' hkp0 hkq0 hne
  go_roundw
  case rel=>
   refine ⟨met2,lvs++[q],.slice aA2 (lvs.length+1) ac2,kid,level-1,rfl,rfl,HMET.out,?_,HOK2.out,by rw [E1];exact HLL.out,?_,HOWN2.out,HLF2.out,K.out⟩
   ·rw [E3,show (level-1).toNat+1=level.toNat by omega];exact HR7.out
   ·rw [E1,E2];exact HF.out
  case measure=>simp [intOf];omega
end
end Go.Proofs.Ytjcgphhpaenjkaa

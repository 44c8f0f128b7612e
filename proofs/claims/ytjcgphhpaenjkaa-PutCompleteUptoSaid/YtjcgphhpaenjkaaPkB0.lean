import Derived.Test.YtjcgphhpaenjkaaPkA9
set_option maxHeartbeats 64000000
set_option maxRecDepth 100000
set_option linter.unusedVariables false
namespace Go.Proofs.Ytjcgphhpaenjkaa
open Go.RowKit
def nvX (m:Nat):Nx->Value
 | .root=>.func (.func 61) #[pV m] #[]
 | .latch=>.func (.func 73) #[pV m] #[]
 | .head=>.func (.func 90) #[pV m] #[]
 | .body=>.func (.func 95) #[pV m] #[]
 | .valid=>.func (.func 98) #[pV m] #[]
 | .done=>Value.nilFunc
abbrev MX (w:World) (m p:Nat) (S:Nat->Prop) (M:Mc):Prop:=MW w 132 m p (nvX m) S M
section
variable {w:World} {G S:Nat->Prop} {b p q m:Nat} {A B:Ar} {Φ:Fr} {M:Mc}
def StX (w w':World) (m p:Nat) (S:Nat->Prop) (M:Mc):Prop:=(∃ S',MX w' m p S' M/\∀ x,S' x->S x\/Fresh w w' x)/\Keeps (λ x=>x=m) w w'
theorem opWord_u64 (h:JX w G Φ p A) (i:Int):U64 (opWord A i):=by
 unfold opWord
 split
 ·unfold U64;decide
 ·rename_i s hg
  obtain ⟨⟨_,_,⟨_,_,hX⟩,_⟩,_⟩:=h
  obtain ⟨_,_,_,hs,_,hb⟩:=hX.at_ hg
  exact hX.word64 hb hs
theorem opNd_sm (h:JX w G Φ p A) (i:Int):NdSm 0 (opNd A i):=by
 unfold opNd
 split
 ·exact sm_zero
 ·rename_i s hg
  exact sm_get h.smA hg
theorem par_u {x:Nat} (h:x % 2=0):((x:Int) % 2==0)=true:=by
 have:(x:Int) % 2=0:=by omega
 rw [this];rfl
theorem par_n {x:Nat} (h:¬x % 2=0):((x:Int) % 2==0)=false:=by
 have:(x:Int) % 2=1:=by omega
 rw [this];rfl
theorem rootX (hJ:JX w G Φ p A) (hG:¬G m) (h:MX w m p S M) (hm:¬S m):Calls Try.prog 61 #[pV m] w λ e w'=>e=.returned (iV 0)/\StX w w' m p S (rootM A M):=by
 obtain ⟨⟨kv,c0,c1,c2,c3,c4,c5,hb,hk,hn⟩,hu,hs⟩:=h
 obtain ⟨KA,kc,ek,_,_⟩:=hk.form
 obtain ⟨X1,k1,e1,_,_⟩:=hn.1.high.form
 obtain ⟨X3,k3,e3,_,_⟩:=hn.2.keys.form
 obtain ⟨X4,k4,e4,_,_⟩:=hn.2.vals.form
 obtain ⟨X5,k5,e5,_,_⟩:=hn.2.kids.form
 have e0:=hn.1.lvl
 have e2:=hn.1.right
 unfold iV at e0 e2
 subst ek e0 e1 e2 e3 e4 e5
 have HB:=Hd hb
 have HKY:=Hd hk
 have HH:=Hd hn.1
 have HD:=Hd hn.2
 have HU:Hid (U64 M.word):=hu
 have HS:Hid (NdSm 0 M.nd):=hs
 have HJ:=Hd hJ
 have HG:Hid (¬G m):=hG
 have HM:Hid (¬S m):=hm
 have HLT:=Hd hb.lt
 clear hJ hb hk hn hu hs hG hm
 have hmf:∀ (fn:Fn) (first cap:Array Value) (w:World),(Instr.makeFunc fn first cap).run Try.prog w=.ok (.func fn first cap) w:=λ _ _ _ _=>rfl
 have hsf:∀ (a:Addr) (fn:Fn) (first cap:Array Value) (w:World),(store a (.func fn first cap)).run Try.prog w=stored Try.prog w a (.func fn first cap) .plain:=λ a fn f c w=>run_store Try.prog w a (.func fn f c) .plain rfl
 have hsn:∀ (a:Addr) (w:World),(store a .nilFunc).run Try.prog w=stored Try.prog w a .nilFunc .plain:=λ a w=>run_store Try.prog w a .nilFunc .plain rfl
 have HR:=Hd HJ.out.rootX
 have q0:=HB.out.cell 0
 have g0:=HB.out.frozen 0
 have q3:=HB.out.cell 3
 have g3:=HB.out.frozen 3
 have q4:=HB.out.cell 4
 have g4:=HB.out.frozen 4
 unfold pV iV at q0 q3 q4
 unfold pV iV at HR ⊢
 go_enter Try.func61,Try.ntmps61
 go_wp2_with (go_at_call 27;refine HR.out.mono ?_;rintro e w1 ⟨rfl,rfl⟩)
 clear q0 g0 q3 g3 q4 g4
 refine post_at (λ w1 hw=>?_)
 have hk:Keeps (λ x=>x=m) w w1:=by rw [hw];exact (Keeps.setCell _ (M:=λ b=>b=m) rfl _).setCell' (λ _=>rfl) _
 replace HB:Hid (Blk w1 m 132 #[pV p,.slice KA M.key.length kc,iV M.level,.func (.func 73) #[pV m] #[],iV A.root,.int .u64 M.word,.int .i64 M.nd.lvl,.slice X1 M.nd.high.length k1,.int .i64 M.nd.right,.slice X3 M.nd.keys.length k3,.slice X4 M.nd.vals.length k4,.slice X5 M.nd.kids.length k5,.bool M.there,iV M.again,iV M.right]):=by rw [hw];exact ((HB.out.set_ 4 _).set_ 3 _)
 clear hw
 replace HKY:=Hd (HKY.out.keeps hk (λ x _ hx e=>HM.out (e▸hx)))
 replace HH:=Hd (HH.out.keeps hk (λ x _ hx e=>HM.out (e▸hx)))
 replace HD:=Hd (HD.out.keeps hk (λ x _ hx e=>HM.out (e▸hx)))
 replace HJ:=Hd (HJ.out.keeps hk (λ x _ hx e=>HG.out (e▸hx)))
 have K:=Hd hk
 clear hk
 go_ret
 refine ⟨rfl,⟨S,⟨⟨_,_,_,_,_,_,_,HB.out,HKY.out,⟨HH.out,HD.out⟩⟩,HU.out,HS.out⟩,λ x h=>.inl h⟩,K.out⟩
theorem latchYN:(∀ (hJ:JX w G Φ p A) (hG:¬G m) (h:MX w m p S M) (hm:¬S m) (hc:opWord A M.id % 2=0),Calls Try.prog 73 #[pV m] w λ e w'=>e=.returned (iV (opErr A M.id))/\StX w w' m p S (latchM A M))/\(∀ (hJ:JX w G Φ p A) (hG:¬G m) (h:MX w m p S M) (hm:¬S m) (hc:¬opWord A M.id % 2=0),Calls Try.prog 73 #[pV m] w λ e w'=>e=.returned (iV (opErr A M.id))/\StX w w' m p S (latchM A M)):=by
 refine ⟨λ hJ hG h hm hc=>?_,λ hJ hG h hm hc=>?_⟩
 all_goals
  obtain ⟨⟨kv,c0,c1,c2,c3,c4,c5,hb,hk,hn⟩,hu,hs⟩:=h
  obtain ⟨KA,kc,ek,_,_⟩:=hk.form
  obtain ⟨X1,k1,e1,_,_⟩:=hn.1.high.form
  obtain ⟨X3,k3,e3,_,_⟩:=hn.2.keys.form
  obtain ⟨X4,k4,e4,_,_⟩:=hn.2.vals.form
  obtain ⟨X5,k5,e5,_,_⟩:=hn.2.kids.form
  have e0:=hn.1.lvl
  have e2:=hn.1.right
  unfold iV at e0 e2
  subst ek e0 e1 e2 e3 e4 e5
  have HB:=Hd hb
  have HKY:=Hd hk
  have HH:=Hd hn.1
  have HD:=Hd hn.2
  have HU:Hid (U64 M.word):=hu
  have HS:Hid (NdSm 0 M.nd):=hs
  have HJ:=Hd hJ
  have HG:Hid (¬G m):=hG
  have HM:Hid (¬S m):=hm
  have HLT:=Hd hb.lt
  clear hJ hb hk hn hu hs hG hm
  have hmf:∀ (fn:Fn) (first cap:Array Value) (w:World),(Instr.makeFunc fn first cap).run Try.prog w=.ok (.func fn first cap) w:=λ _ _ _ _=>rfl
  have hsf:∀ (a:Addr) (fn:Fn) (first cap:Array Value) (w:World),(store a (.func fn first cap)).run Try.prog w=stored Try.prog w a (.func fn first cap) .plain:=λ a fn f c w=>run_store Try.prog w a (.func fn f c) .plain rfl
  have hsn:∀ (a:Addr) (w:World),(store a .nilFunc).run Try.prog w=stored Try.prog w a .nilFunc .plain:=λ a w=>run_store Try.prog w a .nilFunc .plain rfl
  have HWU:=Hd (opWord_u64 HJ.out M.id)
  first
  |
   have hpar:=par_u hc
  |
   have hpar:=par_n hc
  replace hc:=Hd hc
  have KL:Hid (∀ (l:Array Bool),l=l):=λ _=>rfl
  unfold pV iV
  go_enter Try.func73,Try.ntmps73
  go_wp2_with fail
  refine rC_ [0,1,2,3,4,5,6,7,8,9,10,11,12,13,14,15,16] 15 (λ W=>W.cell? ⟨m,0,none⟩=some (.pointer (some ⟨p,0,none⟩))/\W.cell? ⟨m,4,none⟩=some (.int .i64 M.id)) ?_ ?_
  ·exact ⟨HB.out.cell 0,HB.out.cell 4⟩
  refine canon_at (λ w1 hw=>?_)
  have hk:Keeps Nob w w1:=by rw [hw];exact Keeps.drew _ _
  clear hw
  replace HJ:=Hd (HJ.out.nob hk)
  replace HB:=Hd (HB.out.keeps hk id)
  replace HKY:=Hd (HKY.out.keeps hk (λ _ _ _=>id))
  replace HH:=Hd (HH.out.keeps hk (λ _ _ _=>id))
  replace HD:=Hd (HD.out.keeps hk (λ _ _ _=>id))
  replace hk:Keeps (λ x=>x=m) w w1:=hk.mono (λ _ _ h=>h.elim)
  have K:=Hd hk
  clear hk
  iterate 9
   refine cR_ (v:=?_) rfl ?_ ?_
   rotate_left
   ·intro W hW
    try (obtain ⟨h1,h2⟩:_/\_:=hW)
    go_simp
    try rfl
   simp only [Act.put,sa_,sb_,sc_]
  refine cA_ rfl ?_
  go_wp2_with (go_at_call 89;refine (HJ.out.wordX (ix:=M.id)).mono ?_;rintro e wk ⟨rfl,rfl⟩)
  refine ⟨.inr ⟨HB.out.cell 0,HB.out.cell 4⟩,?_⟩
  iterate 5
   refine cR_ (v:=?_) rfl ?_ ?_
   rotate_left
   ·intro W hW
    try (obtain ⟨h1,h2⟩:_/\_:=hW)
    go_simp
    try rfl
   simp only [Act.put,sa_,sb_,sc_]
  refine cA_ rfl ?_
  have q5:=HB.out.cell 5
  have g5:=HB.out.frozen 5
  unfold pV iV at q5
  go_wp2
  clear q5 g5
  refine ⟨.inl (by kernel_rfl),?_⟩
  refine canon_at (λ w2 hw=>?_)
  have hk:Keeps (λ x=>x=m) w1 w2:=by rw [hw];exact Keeps.setCell _ (M:=λ b=>b=m) rfl _
  replace HB:Hid (Blk w2 m 132 #[pV p,.slice KA M.key.length kc,iV M.level,nvX m M.nx,iV M.id,.int .u64 (opWord A M.id),.int .i64 M.nd.lvl,.slice X1 M.nd.high.length k1,.int .i64 M.nd.right,.slice X3 M.nd.keys.length k3,.slice X4 M.nd.vals.length k4,.slice X5 M.nd.kids.length k5,.bool M.there,iV M.again,iV M.right]):=by rw [hw];exact (HB.out.set_ 5 _)
  clear hw
  replace HKY:=Hd (HKY.out.keeps hk (λ x _ hx e=>HM.out (e▸hx)))
  replace HH:=Hd (HH.out.keeps hk (λ x _ hx e=>HM.out (e▸hx)))
  replace HD:=Hd (HD.out.keeps hk (λ x _ hx e=>HM.out (e▸hx)))
  replace HJ:=Hd (HJ.out.keeps hk (λ x _ hx e=>HG.out (e▸hx)))
  replace K:=tq_ K hk
  clear hk
  iterate 1
   refine cR_ (v:=?_) rfl ?_ ?_
   rotate_left
   ·intro W hW
    try (obtain ⟨h1,h2⟩:_/\_:=hW)
    go_simp
    try rfl
   simp only [Act.put,sa_,sb_,sc_]
  refine wpCanon_nil ?_
  have q5:=HB.out.cell 5
  have g5:=HB.out.frozen 5
  have q3:=HB.out.cell 3
  have g3:=HB.out.frozen 3
  unfold pV iV at q5 q3
  go_wp2
  clear q5 g5 q3 g3
  first
  |
   refine post_at (λ w3 hw=>?_)
   have hk:Keeps (λ x=>x=m) w2 w3:=by rw [hw];exact Keeps.setCell _ (M:=λ b=>b=m) rfl _
   replace HB:Hid (Blk w3 m 132 #[pV p,.slice KA M.key.length kc,iV M.level,.func (.func 90) #[pV m] #[],iV M.id,.int .u64 (opWord A M.id),.int .i64 M.nd.lvl,.slice X1 M.nd.high.length k1,.int .i64 M.nd.right,.slice X3 M.nd.keys.length k3,.slice X4 M.nd.vals.length k4,.slice X5 M.nd.kids.length k5,.bool M.there,iV M.again,iV M.right]):=by rw [hw];exact (HB.out.set_ 3 _)
   clear hw
   replace HKY:=Hd (HKY.out.keeps hk (λ x _ hx e=>HM.out (e▸hx)))
   replace HH:=Hd (HH.out.keeps hk (λ x _ hx e=>HM.out (e▸hx)))
   replace HD:=Hd (HD.out.keeps hk (λ x _ hx e=>HM.out (e▸hx)))
   replace HJ:=Hd (HJ.out.keeps hk (λ x _ hx e=>HG.out (e▸hx)))
   replace K:=tq_ K hk
   clear hk
  |
   skip
  go_ret
  first
  |
   have e1:latchM A M={M with word:=opWord A M.id,nx:=.head}:=by unfold latchM;rw [if_pos hc.out]
  |
   have e1:latchM A M={M with word:=opWord A M.id}:=by unfold latchM;rw [if_neg hc.out]
  rw [e1]
  refine ⟨rfl,⟨S,⟨⟨_,_,_,_,_,_,_,HB.out,HKY.out,⟨HH.out,HD.out⟩⟩,HWU.out,HS.out⟩,λ x h=>.inl h⟩,K.out⟩
theorem latchX (hJ:JX w G Φ p A) (hG:¬G m) (h:MX w m p S M) (hm:¬S m):Calls Try.prog 73 #[pV m] w λ e w'=>e=.returned (iV (opErr A M.id))/\StX w w' m p S (latchM A M):=by
 by_cases hc:opWord A M.id % 2=0
 ·exact latchYN.1 hJ hG h hm hc
 ·exact latchYN.2 hJ hG h hm hc
theorem hbX:(∀ (hJ:JX w G Φ p A) (hG:¬G m) (h:MX w m p S M) (hm:¬S m),Calls Try.prog 90 #[pV m] w λ e w'=>e=.returned (iV (opErr A M.id))/\StX w w' m p S (headM A M))/\(∀ (hJ:JX w G Φ p A) (hG:¬G m) (h:MX w m p S M) (hm:¬S m),Calls Try.prog 95 #[pV m] w λ e w'=>e=.returned (iV (opErr A M.id))/\StX w w' m p S (bodyM A M)):=by
 refine ⟨λ hJ hG h hm=>?_,λ hJ hG h hm=>?_⟩
 all_goals
  obtain ⟨⟨kv,c0,c1,c2,c3,c4,c5,hb,hk,hn⟩,hu,hs⟩:=h
  obtain ⟨KA,kc,ek,_,_⟩:=hk.form
  obtain ⟨X1,k1,e1,_,_⟩:=hn.1.high.form
  obtain ⟨X3,k3,e3,_,_⟩:=hn.2.keys.form
  obtain ⟨X4,k4,e4,_,_⟩:=hn.2.vals.form
  obtain ⟨X5,k5,e5,_,_⟩:=hn.2.kids.form
  have e0:=hn.1.lvl
  have e2:=hn.1.right
  unfold iV at e0 e2
  subst ek e0 e1 e2 e3 e4 e5
  have HB:=Hd hb
  have HKY:=Hd hk
  have HH:=Hd hn.1
  have HD:=Hd hn.2
  have HU:Hid (U64 M.word):=hu
  have HS:Hid (NdSm 0 M.nd):=hs
  have HJ:=Hd hJ
  have HG:Hid (¬G m):=hG
  have HM:Hid (¬S m):=hm
  have HLT:=Hd hb.lt
  clear hJ hb hk hn hu hs hG hm
  have hmf:∀ (fn:Fn) (first cap:Array Value) (w:World),(Instr.makeFunc fn first cap).run Try.prog w=.ok (.func fn first cap) w:=λ _ _ _ _=>rfl
  have hsf:∀ (a:Addr) (fn:Fn) (first cap:Array Value) (w:World),(store a (.func fn first cap)).run Try.prog w=stored Try.prog w a (.func fn first cap) .plain:=λ a fn f c w=>run_store Try.prog w a (.func fn f c) .plain rfl
  have hsn:∀ (a:Addr) (w:World),(store a .nilFunc).run Try.prog w=stored Try.prog w a .nilFunc .plain:=λ a w=>run_store Try.prog w a .nilFunc .plain rfl
  have HZ:=Hd (opNd_sm HJ.out M.id)
  unfold pV iV
  first
  |
   go_enter Try.func90,Try.ntmps90
  |
   go_enter Try.func95,Try.ntmps95
  have q3:=HB.out.cell 3
  have g3:=HB.out.frozen 3
  unfold pV iV at q3
  go_wp2_with fail
  clear q3 g3
  refine code_at (λ w1 hw=>?_)
  have hk:Keeps (λ x=>x=m) w w1:=by rw [hw];exact Keeps.setCell _ (M:=λ b=>b=m) rfl _
  first
  |
   replace HB:Hid (Blk w1 m 132 #[pV p,.slice KA M.key.length kc,iV M.level,.func (.func 98) #[pV m] #[],iV M.id,.int .u64 M.word,.int .i64 M.nd.lvl,.slice X1 M.nd.high.length k1,.int .i64 M.nd.right,.slice X3 M.nd.keys.length k3,.slice X4 M.nd.vals.length k4,.slice X5 M.nd.kids.length k5,.bool M.there,iV M.again,iV M.right]):=by rw [hw];exact (HB.out.set_ 3 _)
  |
   replace HB:Hid (Blk w1 m 132 #[pV p,.slice KA M.key.length kc,iV M.level,.func (.func 95) #[pV m] #[],iV M.id,.int .u64 M.word,.int .i64 M.nd.lvl,.slice X1 M.nd.high.length k1,.int .i64 M.nd.right,.slice X3 M.nd.keys.length k3,.slice X4 M.nd.vals.length k4,.slice X5 M.nd.kids.length k5,.bool M.there,iV M.again,iV M.right]):=by rw [hw];exact (HB.out.set_ 3 _)
  clear hw
  replace HKY:=Hd (HKY.out.keeps hk (λ x _ hx e=>HM.out (e▸hx)))
  replace HH:=Hd (HH.out.keeps hk (λ x _ hx e=>HM.out (e▸hx)))
  replace HD:=Hd (HD.out.keeps hk (λ x _ hx e=>HM.out (e▸hx)))
  replace HJ:=Hd (HJ.out.keeps hk (λ x _ hx e=>HG.out (e▸hx)))
  have K:=Hd hk
  clear hk
  refine rC_ [0,1,2,3,4,5,6,7,8,9,10,11,12,13,14,15,16,17] 16 (λ W=>W.cell? ⟨m,0,none⟩=some (.pointer (some ⟨p,0,none⟩))/\W.cell? ⟨m,4,none⟩=some (.int .i64 M.id)) ?_ ?_
  ·exact ⟨HB.out.cell 0,HB.out.cell 4⟩
  refine canon_at (λ w2 hw=>?_)
  have hk:Keeps Nob w1 w2:=by rw [hw];exact Keeps.drew _ _
  clear hw
  replace HJ:=Hd (HJ.out.nob hk)
  replace HB:=Hd (HB.out.keeps hk id)
  replace HKY:=Hd (HKY.out.keeps hk (λ _ _ _=>id))
  replace HH:=Hd (HH.out.keeps hk (λ _ _ _=>id))
  replace HD:=Hd (HD.out.keeps hk (λ _ _ _=>id))
  replace hk:Keeps (λ x=>x=m) w1 w2:=hk.mono (λ _ _ h=>h.elim)
  replace K:=tq_ K hk
  clear hk
  iterate 9
   refine cR_ (v:=?_) rfl ?_ ?_
   rotate_left
   ·intro W hW
    try (obtain ⟨h1,h2⟩:_/\_:=hW)
    go_simp
    try rfl
   simp only [Act.put,sa_,sb_,sc_]
  refine cA_ rfl ?_
  go_wp2_with (first|(go_at_call 60;refine (HJ.out.headX (ix:=M.id)).mono ?_;rintro e wk ⟨d0,d1,d2,rfl,hO,hj,hk⟩)|(go_at_call 14;refine (HJ.out.bodyX (ix:=M.id)).mono ?_;rintro e wk ⟨d0,d1,d2,rfl,hO,hj,hk⟩))
  have hsz:=K.out.size
  replace HB:=Hd (HB.out.keeps hk id)
  replace HKY:=Hd (HKY.out.keeps hk (λ _ _ _=>id))
  replace HH:=Hd (HH.out.keeps hk (λ _ _ _=>id))
  replace HD:=Hd (HD.out.keeps hk (λ _ _ _=>id))
  replace HJ:=Hd hj
  replace hk:Keeps (λ x=>x=m) w2 wk:=hk.mono (λ _ _ h=>h.elim)
  replace K:=tq_ K hk
  clear hk hj
  have HO:=Hd (hO.r.mono (T:=Fresh w wk) (λ x _ hx=>⟨Nat.le_trans hsz hx.1,hx.2⟩))
  first
  |
   obtain ⟨D3,j3,f3⟩:=OTx.form hO.keys
   obtain ⟨D4,j4,f4⟩:=OTx.form hO.vals
   obtain ⟨D5,j5,f5⟩:=Own.form hO.kids
   subst f3 f4 f5
  |
   obtain ⟨D1,j1,f1⟩:=Own.form hO.high
   have f0:=hO.lvl
   have f2:=hO.right
   unfold iV at f0 f2
   subst f0 f1 f2
  clear hO hsz
  refine ⟨.inr ⟨HB.out.cell 0,HB.out.cell 4⟩,?_⟩
  iterate 6
   refine cR_ (v:=?_) rfl ?_ ?_
   rotate_left
   ·intro W hW
    try (obtain ⟨h1,h2⟩:_/\_:=hW)
    go_simp
    try rfl
   simp only [Act.put,sa_,sb_,sc_]
  refine cA_ rfl ?_
  first
  |
   have q9:=HB.out.cell 9
   have g9:=HB.out.frozen 9
   have q10:=HB.out.cell 10
   have g10:=HB.out.frozen 10
   have q11:=HB.out.cell 11
   have g11:=HB.out.frozen 11
   unfold pV iV at q9 q10 q11
   go_wp2
   clear q9 g9 q10 g10 q11 g11
   refine ⟨.inl (by kernel_rfl),?_⟩
  |
   have q6:=HB.out.cell 6
   have g6:=HB.out.frozen 6
   have q7:=HB.out.cell 7
   have g7:=HB.out.frozen 7
   have q8:=HB.out.cell 8
   have g8:=HB.out.frozen 8
   unfold pV iV at q6 q7 q8
   go_wp2
   clear q6 g6 q7 g7 q8 g8
   refine ⟨.inl (by kernel_rfl),?_⟩
  refine canon_at (λ w3 hw=>?_)
  have hk:Keeps (λ x=>x=m) wk w3:=by rw [hw];exact ((Keeps.setCell _ (M:=λ b=>b=m) rfl _).setCell' (λ _=>rfl) _).setCell' (λ _=>rfl) _
  first
  |
   replace HB:Hid (Blk w3 m 132 #[pV p,.slice KA M.key.length kc,iV M.level,.func (.func 98) #[pV m] #[],iV M.id,.int .u64 M.word,.int .i64 M.nd.lvl,.slice X1 M.nd.high.length k1,.int .i64 M.nd.right,.slice D3 (opNd A M.id).keys.length j3,.slice D4 (opNd A M.id).vals.length j4,.slice D5 (opNd A M.id).kids.length j5,.bool M.there,iV M.again,iV M.right]):=by rw [hw];exact (((HB.out.set_ 9 _).set_ 10 _).set_ 11 _)
  |
   replace HB:Hid (Blk w3 m 132 #[pV p,.slice KA M.key.length kc,iV M.level,.func (.func 95) #[pV m] #[],iV M.id,.int .u64 M.word,.int .i64 (opNd A M.id).lvl,.slice D1 (opNd A M.id).high.length j1,.int .i64 (opNd A M.id).right,.slice X3 M.nd.keys.length k3,.slice X4 M.nd.vals.length k4,.slice X5 M.nd.kids.length k5,.bool M.there,iV M.again,iV M.right]):=by rw [hw];exact (((HB.out.set_ 6 _).set_ 7 _).set_ 8 _)
  clear hw
  replace HKY:=Hd (HKY.out.keeps hk (λ x _ hx e=>HM.out (e▸hx)))
  replace HH:=Hd (HH.out.keeps hk (λ x _ hx e=>HM.out (e▸hx)))
  replace HD:=Hd (HD.out.keeps hk (λ x _ hx e=>HM.out (e▸hx)))
  replace HJ:=Hd (HJ.out.keeps hk (λ x _ hx e=>HG.out (e▸hx)))
  replace HO:=Hd ((HO.out.keeps hk (λ x _ hx e=>by have h1:=hx.1;have h2:=HLT.out;have h3:x=m:=e;omega)).mono (T:=Fresh w w3) (λ x _ hx=>⟨hx.1,Nat.lt_of_lt_of_le hx.2 hk.size⟩))
  replace K:=tq_ K hk
  clear hk
  iterate 1
   refine cR_ (v:=?_) rfl ?_ ?_
   rotate_left
   ·intro W hW
    try (obtain ⟨h1,h2⟩:_/\_:=hW)
    go_simp
    try rfl
   simp only [Act.put,sa_,sb_,sc_]
  refine wpCanon_nil ?_
  go_wp2
  go_ret
  first
  |
   refine ⟨rfl,⟨λ x=>S x\/Fresh w w3 x,⟨⟨_,_,_,_,_,_,_,HB.out,HKY.out.mono (λ _ _ h=>.inl h),⟨⟨HO.out.1,HO.out.2.mono (λ _ _ h=>.inr h),HO.out.3⟩,⟨HD.out.1.mono (λ _ _ h=>.inl h),HD.out.2.mono (λ _ _ h=>.inl h),HD.out.3.mono (λ _ _ h=>.inl h)⟩⟩⟩,HU.out,⟨HZ.out.1,HS.out.2⟩⟩,λ x h=>h⟩,K.out⟩
  |
   refine ⟨rfl,⟨λ x=>S x\/Fresh w w3 x,⟨⟨_,_,_,_,_,_,_,HB.out,HKY.out.mono (λ _ _ h=>.inl h),⟨⟨HH.out.1,HH.out.2.mono (λ _ _ h=>.inl h),HH.out.3⟩,⟨HO.out.1.mono (λ _ _ h=>.inr h),HO.out.2.mono (λ _ _ h=>.inr h),HO.out.3.mono (λ _ _ h=>.inr h)⟩⟩⟩,HU.out,⟨HS.out.1,HZ.out.2⟩⟩,λ x h=>h⟩,K.out⟩
theorem validE:(∀ (hJ:JX w G Φ p A) (hG:¬G m) (h:MX w m p S M) (hm:¬S m) (c1:¬opErr A M.id=0),Calls Try.prog 98 #[pV m] w λ e w'=>e=.returned (iV (opErr A M.id))/\StX w w' m p S (M))/\(∀ (hJ:JX w G Φ p A) (hG:¬G m) (h:MX w m p S M) (hm:¬S m) (hlow:M.low) (c1:opErr A M.id=0) (c2:¬opWord A M.id=M.word),Calls Try.prog 98 #[pV m] w λ e w'=>e=.returned (iV 0)/\StX w w' m p S ({M with again:=M.again+1,nx:=.root})):=by
 refine ⟨λ hJ hG h hm c1=>?_,λ hJ hG h hm hlow c1 c2=>?_⟩
 all_goals
  obtain ⟨⟨kv,c0,c1,c2,c3,c4,c5,hb,hk,hn⟩,hu,hs⟩:=h
  obtain ⟨KA,kc,ek,_,_⟩:=hk.form
  obtain ⟨X1,k1,e1,_,_⟩:=hn.1.high.form
  obtain ⟨X3,k3,e3,_,_⟩:=hn.2.keys.form
  obtain ⟨X4,k4,e4,_,_⟩:=hn.2.vals.form
  obtain ⟨X5,k5,e5,_,_⟩:=hn.2.kids.form
  have e0:=hn.1.lvl
  have e2:=hn.1.right
  unfold iV at e0 e2
  subst ek e0 e1 e2 e3 e4 e5
  have HB:=Hd hb
  have HKY:=Hd hk
  have HH:=Hd hn.1
  have HD:=Hd hn.2
  have HU:Hid (U64 M.word):=hu
  have HS:Hid (NdSm 0 M.nd):=hs
  have HJ:=Hd hJ
  have HG:Hid (¬G m):=hG
  have HM:Hid (¬S m):=hm
  have HLT:=Hd hb.lt
  clear hJ hb hk hn hu hs hG hm
  have hmf:∀ (fn:Fn) (first cap:Array Value) (w:World),(Instr.makeFunc fn first cap).run Try.prog w=.ok (.func fn first cap) w:=λ _ _ _ _=>rfl
  have hsf:∀ (a:Addr) (fn:Fn) (first cap:Array Value) (w:World),(store a (.func fn first cap)).run Try.prog w=stored Try.prog w a (.func fn first cap) .plain:=λ a fn f c w=>run_store Try.prog w a (.func fn f c) .plain rfl
  have hsn:∀ (a:Addr) (w:World),(store a .nilFunc).run Try.prog w=stored Try.prog w a .nilFunc .plain:=λ a w=>run_store Try.prog w a .nilFunc .plain rfl
  first
  |
   obtain ⟨ra,rb,rc,rd⟩:=hlow
   replace c1:=Hd c1
   replace c2:=Hd c2
   unfold pV iV
   go_enter Try.func98,Try.ntmps98
   go_wp2_with fail
   refine rC_ [0,1,2,3,4,5,6,7,8,9,10,11,12,13] 99 (λ W=>W.cell? ⟨m,0,none⟩=some (.pointer (some ⟨p,0,none⟩))/\W.cell? ⟨m,4,none⟩=some (.int .i64 M.id)) ?_ ?_
  |
   replace c1:=Hd c1
   unfold pV iV
   go_enter Try.func98,Try.ntmps98
   go_wp2_with fail
   refine rC_ [0,1,2,3,4,5,6,7,8,9,10,11,12,13] 99 (λ W=>W.cell? ⟨m,0,none⟩=some (.pointer (some ⟨p,0,none⟩))/\W.cell? ⟨m,4,none⟩=some (.int .i64 M.id)) ?_ ?_
  ·exact ⟨HB.out.cell 0,HB.out.cell 4⟩
  refine canon_at (λ w1 hw=>?_)
  have hk:Keeps Nob w w1:=by rw [hw];exact Keeps.drew _ _
  clear hw
  replace HJ:=Hd (HJ.out.nob hk)
  replace HB:=Hd (HB.out.keeps hk id)
  replace HKY:=Hd (HKY.out.keeps hk (λ _ _ _=>id))
  replace HH:=Hd (HH.out.keeps hk (λ _ _ _=>id))
  replace HD:=Hd (HD.out.keeps hk (λ _ _ _=>id))
  replace hk:Keeps (λ x=>x=m) w w1:=hk.mono (λ _ _ h=>h.elim)
  have K:=Hd hk
  clear hk
  iterate 8
   refine cR_ (v:=?_) rfl ?_ ?_
   rotate_left
   ·intro W hW
    try (obtain ⟨h1,h2⟩:_/\_:=hW)
    go_simp
    try rfl
   simp only [Act.put,sa_,sb_,sc_]
  refine cA_ rfl ?_
  go_wp2_with (go_at_call 89;refine (HJ.out.wordX (ix:=M.id)).mono ?_;rintro e wk ⟨rfl,rfl⟩)
  refine ⟨.inr ⟨HB.out.cell 0,HB.out.cell 4⟩,?_⟩
  iterate 5
   refine cR_ (v:=?_) rfl ?_ ?_
   rotate_left
   ·intro W hW
    try (obtain ⟨h1,h2⟩:_/\_:=hW)
    go_simp
    try rfl
   simp only [Act.put,sa_,sb_,sc_]
  refine wpCanon_nil ?_
  first
  |
   have n1:(opErr A M.id==0)=false:=by simpa using c1.out
  |
   have n1:=c1.out
   rw [n1]
  unfold iV
  first
  |
   have n2:((opWord A M.id:Int) != (M.word:Int))=true:=by have:=c2.out;simp;omega
   have q3:=HB.out.cell 3
   have g3:=HB.out.frozen 3
   have q5:=HB.out.cell 5
   have g5:=HB.out.frozen 5
   have q13:=HB.out.cell 13
   have g13:=HB.out.frozen 13
   unfold pV iV at q3 q5 q13
   go_wp2
   clear q3 g3 q5 g5 q13 g13
   refine post_at (λ w2 hw=>?_)
   have hk:Keeps (λ x=>x=m) w1 w2:=by rw [hw];exact ((Keeps.setCell _ (M:=λ b=>b=m) rfl _).setCell' (λ _=>rfl) _).setCell' (λ _=>rfl) _
   replace HB:Hid (Blk w2 m 132 #[pV p,.slice KA M.key.length kc,iV M.level,.func (.func 61) #[pV m] #[],iV M.id,.int .u64 M.word,.int .i64 M.nd.lvl,.slice X1 M.nd.high.length k1,.int .i64 M.nd.right,.slice X3 M.nd.keys.length k3,.slice X4 M.nd.vals.length k4,.slice X5 M.nd.kids.length k5,.bool M.there,.int .i64 (M.again+1),iV M.right]):=by rw [hw];exact (((HB.out.set_ 3 _).set_ 13 _).set_ 3 _)
   clear hw
   replace HKY:=Hd (HKY.out.keeps hk (λ x _ hx e=>HM.out (e▸hx)))
   replace HH:=Hd (HH.out.keeps hk (λ x _ hx e=>HM.out (e▸hx)))
   replace HD:=Hd (HD.out.keeps hk (λ x _ hx e=>HM.out (e▸hx)))
   replace HJ:=Hd (HJ.out.keeps hk (λ x _ hx e=>HG.out (e▸hx)))
   replace K:=tq_ K hk
   clear hk
   go_ret
   refine ⟨rfl,⟨S,⟨⟨_,_,_,_,_,_,_,HB.out,HKY.out,⟨HH.out,HD.out⟩⟩,HU.out,HS.out⟩,λ x h=>.inl h⟩,K.out⟩
  |
   go_wp2
   go_ret
   refine ⟨rfl,⟨S,⟨⟨_,_,_,_,_,_,_,HB.out,HKY.out,⟨HH.out,HD.out⟩⟩,HU.out,HS.out⟩,λ x h=>.inl h⟩,K.out⟩
theorem validD:(∀ (hJ:JX w G Φ p A) (hG:¬G m) (h:MX w m p S M) (hm:¬S m) (hlow:M.low) (c1:opErr A M.id=0) (c2:opWord A M.id=M.word) (c3:M.nd.lvl < M.level),Calls Try.prog 98 #[pV m] w λ e w'=>e=.returned (iV 0)/\StX w w' m p S ({M with nx:=.done}))/\(∀ (hJ:JX w G Φ p A) (hG:¬G m) (h:MX w m p S M) (hm:¬S m) (hlow:M.low) (c1:opErr A M.id=0) (c2:opWord A M.id=M.word) (c3:¬M.nd.lvl < M.level) (c4:beyond M.nd.high M.key=true),Calls Try.prog 98 #[pV m] w λ e w'=>e=.returned (iV 0)/\StX w w' m p S ({M with right:=M.right+1,id:=M.nd.right,nx:=.latch}))/\(∀ (hJ:JX w G Φ p A) (hG:¬G m) (h:MX w m p S M) (hm:¬S m) (hlow:M.low) (c1:opErr A M.id=0) (c2:opWord A M.id=M.word) (c3:¬M.nd.lvl < M.level) (c4:¬beyond M.nd.high M.key=true) (c5:M.nd.lvl=M.level),Calls Try.prog 98 #[pV m] w λ e w'=>e=.returned (iV 0)/\StX w w' m p S ({M with there:=true,nx:=.done}))/\(∀ (hJ:JX w G Φ p A) (hG:¬G m) (h:MX w m p S M) (hm:¬S m) (hlow:M.low) (c1:opErr A M.id=0) (c2:opWord A M.id=M.word) (c3:¬M.nd.lvl < M.level) (c4:¬beyond M.nd.high M.key=true) (c5:¬M.nd.lvl=M.level),Calls Try.prog 98 #[pV m] w λ e w'=>e=.returned (iV 0)/\StX w w' m p S ({M with id:=childOf M.nd.kids M.nd.keys M.key,nx:=.latch})):=by
 refine ⟨λ hJ hG h hm hlow c1 c2 c3=>?_,λ hJ hG h hm hlow c1 c2 c3 c4=>?_,λ hJ hG h hm hlow c1 c2 c3 c4 c5=>?_,λ hJ hG h hm hlow c1 c2 c3 c4 c5=>?_⟩
 all_goals
  obtain ⟨⟨kv,c0,c1,c2,c3,c4,c5,hb,hk,hn⟩,hu,hs⟩:=h
  obtain ⟨KA,kc,ek,_,_⟩:=hk.form
  obtain ⟨X1,k1,e1,_,_⟩:=hn.1.high.form
  obtain ⟨X3,k3,e3,_,_⟩:=hn.2.keys.form
  obtain ⟨X4,k4,e4,_,_⟩:=hn.2.vals.form
  obtain ⟨X5,k5,e5,_,_⟩:=hn.2.kids.form
  have e0:=hn.1.lvl
  have e2:=hn.1.right
  unfold iV at e0 e2
  subst ek e0 e1 e2 e3 e4 e5
  have HB:=Hd hb
  have HKY:=Hd hk
  have HH:=Hd hn.1
  have HD:=Hd hn.2
  have HU:Hid (U64 M.word):=hu
  have HS:Hid (NdSm 0 M.nd):=hs
  have HJ:=Hd hJ
  have HG:Hid (¬G m):=hG
  have HM:Hid (¬S m):=hm
  have HLT:=Hd hb.lt
  clear hJ hb hk hn hu hs hG hm
  have hmf:∀ (fn:Fn) (first cap:Array Value) (w:World),(Instr.makeFunc fn first cap).run Try.prog w=.ok (.func fn first cap) w:=λ _ _ _ _=>rfl
  have hsf:∀ (a:Addr) (fn:Fn) (first cap:Array Value) (w:World),(store a (.func fn first cap)).run Try.prog w=stored Try.prog w a (.func fn first cap) .plain:=λ a fn f c w=>run_store Try.prog w a (.func fn f c) .plain rfl
  have hsn:∀ (a:Addr) (w:World),(store a .nilFunc).run Try.prog w=stored Try.prog w a .nilFunc .plain:=λ a w=>run_store Try.prog w a .nilFunc .plain rfl
  obtain ⟨ra,rb,rc,rd⟩:=hlow
  replace c1:=Hd c1
  replace c2:=Hd c2
  replace c3:=Hd c3
  first
  |
   replace c4:=Hd c4
   replace c5:=Hd c5
  |
   replace c4:=Hd c4
  |
   skip
  unfold pV iV
  go_enter Try.func98,Try.ntmps98
  go_wp2_with fail
  refine rC_ [0,1,2,3,4,5,6,7,8,9,10,11,12,13] 99 (λ W=>W.cell? ⟨m,0,none⟩=some (.pointer (some ⟨p,0,none⟩))/\W.cell? ⟨m,4,none⟩=some (.int .i64 M.id)) ?_ ?_
  ·exact ⟨HB.out.cell 0,HB.out.cell 4⟩
  refine canon_at (λ w1 hw=>?_)
  have hk:Keeps Nob w w1:=by rw [hw];exact Keeps.drew _ _
  clear hw
  replace HJ:=Hd (HJ.out.nob hk)
  replace HB:=Hd (HB.out.keeps hk id)
  replace HKY:=Hd (HKY.out.keeps hk (λ _ _ _=>id))
  replace HH:=Hd (HH.out.keeps hk (λ _ _ _=>id))
  replace HD:=Hd (HD.out.keeps hk (λ _ _ _=>id))
  replace hk:Keeps (λ x=>x=m) w w1:=hk.mono (λ _ _ h=>h.elim)
  have K:=Hd hk
  clear hk
  iterate 8
   refine cR_ (v:=?_) rfl ?_ ?_
   rotate_left
   ·intro W hW
    try (obtain ⟨h1,h2⟩:_/\_:=hW)
    go_simp
    try rfl
   simp only [Act.put,sa_,sb_,sc_]
  refine cA_ rfl ?_
  go_wp2_with (go_at_call 89;refine (HJ.out.wordX (ix:=M.id)).mono ?_;rintro e wk ⟨rfl,rfl⟩)
  refine ⟨.inr ⟨HB.out.cell 0,HB.out.cell 4⟩,?_⟩
  iterate 5
   refine cR_ (v:=?_) rfl ?_ ?_
   rotate_left
   ·intro W hW
    try (obtain ⟨h1,h2⟩:_/\_:=hW)
    go_simp
    try rfl
   simp only [Act.put,sa_,sb_,sc_]
  refine wpCanon_nil ?_
  have n1:=c1.out
  rw [n1]
  unfold iV
  have n2:((opWord A M.id:Int) != (M.word:Int))=false:=by have:=c2.out;simp;omega
  first
  |
   have n3:(decide (M.nd.lvl < M.level))=false:=by have:=c3.out;simp;omega
   have n4:beyond M.nd.high M.key=false:=by have:=c4.out;simpa using this
   have n5:(M.nd.lvl==M.level)=false:=by have:=c5.out;simpa using this
   have q3:=HB.out.cell 3
   have g3:=HB.out.frozen 3
   have q5:=HB.out.cell 5
   have g5:=HB.out.frozen 5
   unfold pV iV at q3 q5
   go_wp2_with fail
   clear q3 g3 q5 g5
   refine code_at (λ w2 hw=>?_)
  |
   have n3:(decide (M.nd.lvl < M.level))=false:=by have:=c3.out;simp;omega
   have n4:beyond M.nd.high M.key=false:=by have:=c4.out;simpa using this
   have n5:(M.nd.lvl==M.level)=true:=by have:=c5.out;simpa using this
   have q3:=HB.out.cell 3
   have g3:=HB.out.frozen 3
   have q5:=HB.out.cell 5
   have g5:=HB.out.frozen 5
   unfold pV iV at q3 q5
   go_wp2_with fail
   clear q3 g3 q5 g5
   refine code_at (λ w2 hw=>?_)
  |
   have n3:(decide (M.nd.lvl < M.level))=false:=by have:=c3.out;simp;omega
   have n4:beyond M.nd.high M.key=true:=by have:=c4.out;simpa using this
   have q3:=HB.out.cell 3
   have g3:=HB.out.frozen 3
   have q5:=HB.out.cell 5
   have g5:=HB.out.frozen 5
   unfold pV iV at q3 q5
   go_wp2_with fail
   clear q3 g3 q5 g5
   refine code_at (λ w2 hw=>?_)
  |
   have n3:(decide (M.nd.lvl < M.level))=true:=by have:=c3.out;simp;omega
   have q3:=HB.out.cell 3
   have g3:=HB.out.frozen 3
   have q5:=HB.out.cell 5
   have g5:=HB.out.frozen 5
   unfold pV iV at q3 q5
   go_wp2_with fail
   clear q3 g3 q5 g5
   refine code_at (λ w2 hw=>?_)
  have hk:Keeps (λ x=>x=m) w1 w2:=by rw [hw];exact Keeps.setCell _ (M:=λ b=>b=m) rfl _
  replace HB:Hid (Blk w2 m 132 #[pV p,.slice KA M.key.length kc,iV M.level,.func (.func 73) #[pV m] #[],iV M.id,.int .u64 M.word,.int .i64 M.nd.lvl,.slice X1 M.nd.high.length k1,.int .i64 M.nd.right,.slice X3 M.nd.keys.length k3,.slice X4 M.nd.vals.length k4,.slice X5 M.nd.kids.length k5,.bool M.there,iV M.again,iV M.right]):=by rw [hw];exact (HB.out.set_ 3 _)
  clear hw
  replace HKY:=Hd (HKY.out.keeps hk (λ x _ hx e=>HM.out (e▸hx)))
  replace HH:=Hd (HH.out.keeps hk (λ x _ hx e=>HM.out (e▸hx)))
  replace HD:=Hd (HD.out.keeps hk (λ x _ hx e=>HM.out (e▸hx)))
  replace HJ:=Hd (HJ.out.keeps hk (λ x _ hx e=>HG.out (e▸hx)))
  replace K:=tq_ K hk
  clear hk
  refine rC_ [0,1,2,3,4,5,6,7,8,9,10,11] 99 (λ W=>W.cell? ⟨m,2,none⟩=some (.int .i64 M.level)/\W.cell? ⟨m,6,none⟩=some (.int .i64 M.nd.lvl)) ?_ ?_
  ·exact ⟨HB.out.cell 2,HB.out.cell 6⟩
  refine canon_at (λ w3 hw=>?_)
  have hk:Keeps Nob w2 w3:=by rw [hw];exact Keeps.drew _ _
  clear hw
  replace HJ:=Hd (HJ.out.nob hk)
  replace HB:=Hd (HB.out.keeps hk id)
  replace HKY:=Hd (HKY.out.keeps hk (λ _ _ _=>id))
  replace HH:=Hd (HH.out.keeps hk (λ _ _ _=>id))
  replace HD:=Hd (HD.out.keeps hk (λ _ _ _=>id))
  replace hk:Keeps (λ x=>x=m) w2 w3:=hk.mono (λ _ _ h=>h.elim)
  replace K:=tq_ K hk
  clear hk
  iterate 12
   refine cR_ (v:=?_) rfl ?_ ?_
   rotate_left
   ·intro W hW
    try (obtain ⟨h1,h2⟩:_/\_:=hW)
    go_simp
    try rfl
   simp only [Act.put,sa_,sb_,sc_]
  refine wpCanon_nil ?_
  first
  |
   go_wp2_with fail
   refine rC_ [0,1,2,3,4,5,6,7,8,9] 99 (λ W=>W.cell? ⟨m,1,none⟩=some (.slice KA M.key.length kc)/\W.cell? ⟨m,6,none⟩=some (.int .i64 M.nd.lvl)/\W.cell? ⟨m,7,none⟩=some (.slice X1 M.nd.high.length k1)/\W.cell? ⟨m,8,none⟩=some (.int .i64 M.nd.right)/\W.cell? ⟨m,9,none⟩=some (.slice X3 M.nd.keys.length k3)/\W.cell? ⟨m,10,none⟩=some (.slice X4 M.nd.vals.length k4)/\W.cell? ⟨m,11,none⟩=some (.slice X5 M.nd.kids.length k5)) ?_ ?_
   ·exact ⟨HB.out.cell 1,HB.out.cell 6,HB.out.cell 7,HB.out.cell 8,HB.out.cell 9,HB.out.cell 10,HB.out.cell 11⟩
   refine canon_at (λ w4 hw=>?_)
   have hk:Keeps Nob w3 w4:=by rw [hw];exact Keeps.drew _ _
   clear hw
   replace HJ:=Hd (HJ.out.nob hk)
   replace HB:=Hd (HB.out.keeps hk id)
   replace HKY:=Hd (HKY.out.keeps hk (λ _ _ _=>id))
   replace HH:=Hd (HH.out.keeps hk (λ _ _ _=>id))
   replace HD:=Hd (HD.out.keeps hk (λ _ _ _=>id))
   replace hk:Keeps (λ x=>x=m) w3 w4:=hk.mono (λ _ _ h=>h.elim)
   replace K:=tq_ K hk
   clear hk
   iterate 8
    refine cR_ (v:=?_) rfl ?_ ?_
    rotate_left
    ·intro W hW
     try (obtain ⟨h1,h2,h3,h4,h5,h6,h7⟩:_/\_/\_/\_/\_/\_/\_:=hW)
     go_simp
     try rfl
    simp only [Act.put,sa_,sb_,sc_]
   refine cA_ rfl ?_
   go_wp2_with (go_at_call 86;refine (beyondP HH.out.high HKY.out).mono ?_;rintro e wl ⟨rfl,hk⟩)
   have hj:=HJ.out.nob hk
   replace HB:=Hd (HB.out.keeps hk id)
   replace HKY:=Hd (HKY.out.keeps hk (λ _ _ _=>id))
   replace HH:=Hd (HH.out.keeps hk (λ _ _ _=>id))
   replace HD:=Hd (HD.out.keeps hk (λ _ _ _=>id))
   replace HJ:=Hd hj
   replace hk:Keeps (λ x=>x=m) w4 wl:=hk.mono (λ _ _ h=>h.elim)
   replace K:=tq_ K hk
   clear hk hj
   refine ⟨.inr ⟨HB.out.cell 1,HB.out.cell 6,HB.out.cell 7,HB.out.cell 8,HB.out.cell 9,HB.out.cell 10,HB.out.cell 11⟩,?_⟩
   iterate 1
    refine cR_ (v:=?_) rfl ?_ ?_
    rotate_left
    ·intro W hW
     try (obtain ⟨h1,h2,h3,h4,h5,h6,h7⟩:_/\_/\_/\_/\_/\_/\_:=hW)
     go_simp
     try rfl
    simp only [Act.put,sa_,sb_,sc_]
   refine wpCanon_nil ?_
   go_wp2_with fail
   refine rC_ [0,1,2,3,4,5,6,7,8,9,10,11] 99 (λ W=>W.cell? ⟨m,2,none⟩=some (.int .i64 M.level)/\W.cell? ⟨m,6,none⟩=some (.int .i64 M.nd.lvl)) ?_ ?_
   ·exact ⟨HB.out.cell 2,HB.out.cell 6⟩
   refine canon_at (λ w5 hw=>?_)
   have hk:Keeps Nob wl w5:=by rw [hw];exact Keeps.drew _ _
   clear hw
   replace HJ:=Hd (HJ.out.nob hk)
   replace HB:=Hd (HB.out.keeps hk id)
   replace HKY:=Hd (HKY.out.keeps hk (λ _ _ _=>id))
   replace HH:=Hd (HH.out.keeps hk (λ _ _ _=>id))
   replace HD:=Hd (HD.out.keeps hk (λ _ _ _=>id))
   replace hk:Keeps (λ x=>x=m) wl w5:=hk.mono (λ _ _ h=>h.elim)
   replace K:=tq_ K hk
   clear hk
   iterate 12
    refine cR_ (v:=?_) rfl ?_ ?_
    rotate_left
    ·intro W hW
     try (obtain ⟨h1,h2⟩:_/\_:=hW)
     go_simp
     try rfl
    simp only [Act.put,sa_,sb_,sc_]
   refine wpCanon_nil ?_
   go_wp2_with fail
   refine rC_ [0,1,2,3,4,5,6,7,8,9,10,11,12] 12 (λ W=>W.cell? ⟨m,1,none⟩=some (.slice KA M.key.length kc)/\W.cell? ⟨m,6,none⟩=some (.int .i64 M.nd.lvl)/\W.cell? ⟨m,7,none⟩=some (.slice X1 M.nd.high.length k1)/\W.cell? ⟨m,8,none⟩=some (.int .i64 M.nd.right)/\W.cell? ⟨m,9,none⟩=some (.slice X3 M.nd.keys.length k3)/\W.cell? ⟨m,10,none⟩=some (.slice X4 M.nd.vals.length k4)/\W.cell? ⟨m,11,none⟩=some (.slice X5 M.nd.kids.length k5)) ?_ ?_
   ·exact ⟨HB.out.cell 1,HB.out.cell 6,HB.out.cell 7,HB.out.cell 8,HB.out.cell 9,HB.out.cell 10,HB.out.cell 11⟩
   refine canon_at (λ w6 hw=>?_)
   have hk:Keeps Nob w5 w6:=by rw [hw];exact Keeps.drew _ _
   clear hw
   replace HJ:=Hd (HJ.out.nob hk)
   replace HB:=Hd (HB.out.keeps hk id)
   replace HKY:=Hd (HKY.out.keeps hk (λ _ _ _=>id))
   replace HH:=Hd (HH.out.keeps hk (λ _ _ _=>id))
   replace HD:=Hd (HD.out.keeps hk (λ _ _ _=>id))
   replace hk:Keeps (λ x=>x=m) w5 w6:=hk.mono (λ _ _ h=>h.elim)
   replace K:=tq_ K hk
   clear hk
   iterate 9
    refine cR_ (v:=?_) rfl ?_ ?_
    rotate_left
    ·intro W hW
     try (obtain ⟨h1,h2,h3,h4,h5,h6,h7⟩:_/\_/\_/\_/\_/\_/\_:=hW)
     go_simp
     try rfl
    simp only [Act.put,sa_,sb_,sc_]
   refine cA_ rfl ?_
   go_wp2_with (go_at_call 99;refine (childP HD.out.keys HD.out.kids HKY.out).mono ?_;rintro e wj ⟨rfl,hk⟩)
   have hj:=HJ.out.nob hk
   replace HB:=Hd (HB.out.keeps hk id)
   replace HKY:=Hd (HKY.out.keeps hk (λ _ _ _=>id))
   replace HH:=Hd (HH.out.keeps hk (λ _ _ _=>id))
   replace HD:=Hd (HD.out.keeps hk (λ _ _ _=>id))
   replace HJ:=Hd hj
   replace hk:Keeps (λ x=>x=m) w6 wj:=hk.mono (λ _ _ h=>h.elim)
   replace K:=tq_ K hk
   clear hk hj
   refine ⟨.inr ⟨HB.out.cell 1,HB.out.cell 6,HB.out.cell 7,HB.out.cell 8,HB.out.cell 9,HB.out.cell 10,HB.out.cell 11⟩,?_⟩
   iterate 2
    refine cR_ (v:=?_) rfl ?_ ?_
    rotate_left
    ·intro W hW
     try (obtain ⟨h1,h2,h3,h4,h5,h6,h7⟩:_/\_/\_/\_/\_/\_/\_:=hW)
     go_simp
     try rfl
    simp only [Act.put,sa_,sb_,sc_]
   refine cA_ rfl ?_
   have q4:=HB.out.cell 4
   have g4:=HB.out.frozen 4
   unfold pV iV at q4
  |
   go_wp2_with fail
   refine rC_ [0,1,2,3,4,5,6,7,8,9] 99 (λ W=>W.cell? ⟨m,1,none⟩=some (.slice KA M.key.length kc)/\W.cell? ⟨m,6,none⟩=some (.int .i64 M.nd.lvl)/\W.cell? ⟨m,7,none⟩=some (.slice X1 M.nd.high.length k1)/\W.cell? ⟨m,8,none⟩=some (.int .i64 M.nd.right)/\W.cell? ⟨m,9,none⟩=some (.slice X3 M.nd.keys.length k3)/\W.cell? ⟨m,10,none⟩=some (.slice X4 M.nd.vals.length k4)/\W.cell? ⟨m,11,none⟩=some (.slice X5 M.nd.kids.length k5)) ?_ ?_
   ·exact ⟨HB.out.cell 1,HB.out.cell 6,HB.out.cell 7,HB.out.cell 8,HB.out.cell 9,HB.out.cell 10,HB.out.cell 11⟩
   refine canon_at (λ w4 hw=>?_)
   have hk:Keeps Nob w3 w4:=by rw [hw];exact Keeps.drew _ _
   clear hw
   replace HJ:=Hd (HJ.out.nob hk)
   replace HB:=Hd (HB.out.keeps hk id)
   replace HKY:=Hd (HKY.out.keeps hk (λ _ _ _=>id))
   replace HH:=Hd (HH.out.keeps hk (λ _ _ _=>id))
   replace HD:=Hd (HD.out.keeps hk (λ _ _ _=>id))
   replace hk:Keeps (λ x=>x=m) w3 w4:=hk.mono (λ _ _ h=>h.elim)
   replace K:=tq_ K hk
   clear hk
   iterate 8
    refine cR_ (v:=?_) rfl ?_ ?_
    rotate_left
    ·intro W hW
     try (obtain ⟨h1,h2,h3,h4,h5,h6,h7⟩:_/\_/\_/\_/\_/\_/\_:=hW)
     go_simp
     try rfl
    simp only [Act.put,sa_,sb_,sc_]
   refine cA_ rfl ?_
   go_wp2_with (go_at_call 86;refine (beyondP HH.out.high HKY.out).mono ?_;rintro e wl ⟨rfl,hk⟩)
   have hj:=HJ.out.nob hk
   replace HB:=Hd (HB.out.keeps hk id)
   replace HKY:=Hd (HKY.out.keeps hk (λ _ _ _=>id))
   replace HH:=Hd (HH.out.keeps hk (λ _ _ _=>id))
   replace HD:=Hd (HD.out.keeps hk (λ _ _ _=>id))
   replace HJ:=Hd hj
   replace hk:Keeps (λ x=>x=m) w4 wl:=hk.mono (λ _ _ h=>h.elim)
   replace K:=tq_ K hk
   clear hk hj
   refine ⟨.inr ⟨HB.out.cell 1,HB.out.cell 6,HB.out.cell 7,HB.out.cell 8,HB.out.cell 9,HB.out.cell 10,HB.out.cell 11⟩,?_⟩
   iterate 1
    refine cR_ (v:=?_) rfl ?_ ?_
    rotate_left
    ·intro W hW
     try (obtain ⟨h1,h2,h3,h4,h5,h6,h7⟩:_/\_/\_/\_/\_/\_/\_:=hW)
     go_simp
     try rfl
    simp only [Act.put,sa_,sb_,sc_]
   refine wpCanon_nil ?_
   go_wp2_with fail
   refine rC_ [0,1,2,3,4,5,6,7,8,9,10,11] 99 (λ W=>W.cell? ⟨m,2,none⟩=some (.int .i64 M.level)/\W.cell? ⟨m,6,none⟩=some (.int .i64 M.nd.lvl)) ?_ ?_
   ·exact ⟨HB.out.cell 2,HB.out.cell 6⟩
   refine canon_at (λ w5 hw=>?_)
   have hk:Keeps Nob wl w5:=by rw [hw];exact Keeps.drew _ _
   clear hw
   replace HJ:=Hd (HJ.out.nob hk)
   replace HB:=Hd (HB.out.keeps hk id)
   replace HKY:=Hd (HKY.out.keeps hk (λ _ _ _=>id))
   replace HH:=Hd (HH.out.keeps hk (λ _ _ _=>id))
   replace HD:=Hd (HD.out.keeps hk (λ _ _ _=>id))
   replace hk:Keeps (λ x=>x=m) wl w5:=hk.mono (λ _ _ h=>h.elim)
   replace K:=tq_ K hk
   clear hk
   iterate 12
    refine cR_ (v:=?_) rfl ?_ ?_
    rotate_left
    ·intro W hW
     try (obtain ⟨h1,h2⟩:_/\_:=hW)
     go_simp
     try rfl
    simp only [Act.put,sa_,sb_,sc_]
   refine wpCanon_nil ?_
   have q12:=HB.out.cell 12
   have g12:=HB.out.frozen 12
   have q3:=HB.out.cell 3
   have g3:=HB.out.frozen 3
   unfold pV iV at q12 q3
  |
   go_wp2_with fail
   refine rC_ [0,1,2,3,4,5,6,7,8,9] 99 (λ W=>W.cell? ⟨m,1,none⟩=some (.slice KA M.key.length kc)/\W.cell? ⟨m,6,none⟩=some (.int .i64 M.nd.lvl)/\W.cell? ⟨m,7,none⟩=some (.slice X1 M.nd.high.length k1)/\W.cell? ⟨m,8,none⟩=some (.int .i64 M.nd.right)/\W.cell? ⟨m,9,none⟩=some (.slice X3 M.nd.keys.length k3)/\W.cell? ⟨m,10,none⟩=some (.slice X4 M.nd.vals.length k4)/\W.cell? ⟨m,11,none⟩=some (.slice X5 M.nd.kids.length k5)) ?_ ?_
   ·exact ⟨HB.out.cell 1,HB.out.cell 6,HB.out.cell 7,HB.out.cell 8,HB.out.cell 9,HB.out.cell 10,HB.out.cell 11⟩
   refine canon_at (λ w4 hw=>?_)
   have hk:Keeps Nob w3 w4:=by rw [hw];exact Keeps.drew _ _
   clear hw
   replace HJ:=Hd (HJ.out.nob hk)
   replace HB:=Hd (HB.out.keeps hk id)
   replace HKY:=Hd (HKY.out.keeps hk (λ _ _ _=>id))
   replace HH:=Hd (HH.out.keeps hk (λ _ _ _=>id))
   replace HD:=Hd (HD.out.keeps hk (λ _ _ _=>id))
   replace hk:Keeps (λ x=>x=m) w3 w4:=hk.mono (λ _ _ h=>h.elim)
   replace K:=tq_ K hk
   clear hk
   iterate 8
    refine cR_ (v:=?_) rfl ?_ ?_
    rotate_left
    ·intro W hW
     try (obtain ⟨h1,h2,h3,h4,h5,h6,h7⟩:_/\_/\_/\_/\_/\_/\_:=hW)
     go_simp
     try rfl
    simp only [Act.put,sa_,sb_,sc_]
   refine cA_ rfl ?_
   go_wp2_with (go_at_call 86;refine (beyondP HH.out.high HKY.out).mono ?_;rintro e wl ⟨rfl,hk⟩)
   have hj:=HJ.out.nob hk
   replace HB:=Hd (HB.out.keeps hk id)
   replace HKY:=Hd (HKY.out.keeps hk (λ _ _ _=>id))
   replace HH:=Hd (HH.out.keeps hk (λ _ _ _=>id))
   replace HD:=Hd (HD.out.keeps hk (λ _ _ _=>id))
   replace HJ:=Hd hj
   replace hk:Keeps (λ x=>x=m) w4 wl:=hk.mono (λ _ _ h=>h.elim)
   replace K:=tq_ K hk
   clear hk hj
   refine ⟨.inr ⟨HB.out.cell 1,HB.out.cell 6,HB.out.cell 7,HB.out.cell 8,HB.out.cell 9,HB.out.cell 10,HB.out.cell 11⟩,?_⟩
   iterate 1
    refine cR_ (v:=?_) rfl ?_ ?_
    rotate_left
    ·intro W hW
     try (obtain ⟨h1,h2,h3,h4,h5,h6,h7⟩:_/\_/\_/\_/\_/\_/\_:=hW)
     go_simp
     try rfl
    simp only [Act.put,sa_,sb_,sc_]
   refine wpCanon_nil ?_
   have q14:=HB.out.cell 14
   have g14:=HB.out.frozen 14
   have q8:=HB.out.cell 8
   have g8:=HB.out.frozen 8
   have q4:=HB.out.cell 4
   have g4:=HB.out.frozen 4
   unfold pV iV at q14 q8 q4
  |
   have q3:=HB.out.cell 3
   have g3:=HB.out.frozen 3
   unfold pV iV at q3
  go_wp2
  first
  |
   clear q14 g14 q8 g8 q4 g4
   refine post_at (λ w5 hw=>?_)
   have hk:Keeps (λ x=>x=m) wl w5:=by rw [hw];exact (Keeps.setCell _ (M:=λ b=>b=m) rfl _).setCell' (λ _=>rfl) _
   replace HB:Hid (Blk w5 m 132 #[pV p,.slice KA M.key.length kc,iV M.level,.func (.func 73) #[pV m] #[],.int .i64 M.nd.right,.int .u64 M.word,.int .i64 M.nd.lvl,.slice X1 M.nd.high.length k1,.int .i64 M.nd.right,.slice X3 M.nd.keys.length k3,.slice X4 M.nd.vals.length k4,.slice X5 M.nd.kids.length k5,.bool M.there,iV M.again,.int .i64 (M.right+1)]):=by rw [hw];exact ((HB.out.set_ 14 _).set_ 4 _)
  |
   clear q4 g4
   refine ⟨.inl (by kernel_rfl),?_⟩
   refine canon_at (λ w7 hw=>?_)
   have hk:Keeps (λ x=>x=m) wj w7:=by rw [hw];exact Keeps.setCell _ (M:=λ b=>b=m) rfl _
   replace HB:Hid (Blk w7 m 132 #[pV p,.slice KA M.key.length kc,iV M.level,.func (.func 73) #[pV m] #[],.int .i64 (childOf M.nd.kids M.nd.keys M.key),.int .u64 M.word,.int .i64 M.nd.lvl,.slice X1 M.nd.high.length k1,.int .i64 M.nd.right,.slice X3 M.nd.keys.length k3,.slice X4 M.nd.vals.length k4,.slice X5 M.nd.kids.length k5,.bool M.there,iV M.again,iV M.right]):=by rw [hw];exact (HB.out.set_ 4 _)
  |
   clear q12 g12 q3 g3
   refine post_at (λ w6 hw=>?_)
   have hk:Keeps (λ x=>x=m) w5 w6:=by rw [hw];exact (Keeps.setCell _ (M:=λ b=>b=m) rfl _).setCell' (λ _=>rfl) _
   replace HB:Hid (Blk w6 m 132 #[pV p,.slice KA M.key.length kc,iV M.level,Value.nilFunc,iV M.id,.int .u64 M.word,.int .i64 M.nd.lvl,.slice X1 M.nd.high.length k1,.int .i64 M.nd.right,.slice X3 M.nd.keys.length k3,.slice X4 M.nd.vals.length k4,.slice X5 M.nd.kids.length k5,.bool true,iV M.again,iV M.right]):=by rw [hw];exact ((HB.out.set_ 12 _).set_ 3 _)
  |
   clear q3 g3
   refine post_at (λ w4 hw=>?_)
   have hk:Keeps (λ x=>x=m) w3 w4:=by rw [hw];exact Keeps.setCell _ (M:=λ b=>b=m) rfl _
   replace HB:Hid (Blk w4 m 132 #[pV p,.slice KA M.key.length kc,iV M.level,Value.nilFunc,iV M.id,.int .u64 M.word,.int .i64 M.nd.lvl,.slice X1 M.nd.high.length k1,.int .i64 M.nd.right,.slice X3 M.nd.keys.length k3,.slice X4 M.nd.vals.length k4,.slice X5 M.nd.kids.length k5,.bool M.there,iV M.again,iV M.right]):=by rw [hw];exact (HB.out.set_ 3 _)
  clear hw
  replace HKY:=Hd (HKY.out.keeps hk (λ x _ hx e=>HM.out (e▸hx)))
  replace HH:=Hd (HH.out.keeps hk (λ x _ hx e=>HM.out (e▸hx)))
  replace HD:=Hd (HD.out.keeps hk (λ x _ hx e=>HM.out (e▸hx)))
  replace HJ:=Hd (HJ.out.keeps hk (λ x _ hx e=>HG.out (e▸hx)))
  replace K:=tq_ K hk
  clear hk
  first
  |
   refine wpCanon_nil ?_
   go_wp2
  |
   skip
  go_ret
  refine ⟨rfl,⟨S,⟨⟨_,_,_,_,_,_,_,HB.out,HKY.out,⟨HH.out,HD.out⟩⟩,HU.out,HS.out⟩,λ x h=>.inl h⟩,K.out⟩
end
end Go.Proofs.Ytjcgphhpaenjkaa

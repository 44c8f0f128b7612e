import Derived.Test.YtjcgphhpaenjkaaPkD4
set_option maxHeartbeats 64000000
set_option maxRecDepth 100000
set_option linter.unusedVariables false
namespace Go.Proofs.Ytjcgphhpaenjkaa
open Go.RowKit
def pv0 (a:Nat) (C:Cf) (k v:Value):Pv:={a:=pV a,c0:=iV C.nodes,c1:=iV C.leaf,c2:=iV C.inner,c3:=iV C.fill,c4:=iV C.block,key:=k,val:=v,way:=.pointer none,next:=iV 0,level:=iV 0,sep:=.slice none 0 0,id:=iV 0,word:=.int .u64 0,o0:=iV 0,o1:=.slice none 0 0,o2:=iV 0,o3:=.slice none 0 0,o4:=.slice none 0 0,o5:=.slice none 0 0,n0:=iV 0,n1:=.slice none 0 0,n2:=iV 0,n3:=.slice none 0 0,n4:=.slice none 0 0,n5:=.slice none 0 0,l0:=iV 0,l1:=.slice none 0 0,l2:=iV 0,l3:=.slice none 0 0,l4:=.slice none 0 0,l5:=.slice none 0 0,r0:=iV 0,r1:=.slice none 0 0,r2:=iV 0,r3:=.slice none 0 0,r4:=.slice none 0 0,r5:=.slice none 0 0,btw:=.slice none 0 0,side:=iV 0,half:=iV 0,fresh:=iV 0,root:=iV 0,dn:=.bool false,there:=.bool false,err:=iV 0}
theorem pv0_rd {w:World} {S:Nat->Prop} {a dm:Nat} {C:Cf} {k v:Value} {key val:List UInt8} (hk:Byts w S k key) (hv:Byts w S v val):PRd w S a dm C {pv0 a C k v with sep:=k} (Pm.idle key val):=
 ⟨rfl,rfl,rfl,rfl,rfl,rfl,hk,hv,(λ d h=>by cases h),rfl,hk,rfl,rfl,IsNd.zero _ _,λ _=>IsNd.zero _ _,IsNd.zero _ _,IsNd.zero _ _,SlR.nil _ _ _ _ (by decide),rfl,rfl,rfl,rfl,rfl,by show U64 0;unfold U64;omega⟩
section
variable {w:World} {S:Nat->Prop} {p:Nat} {C:Cf} {key val:List UInt8} {kv vv:Value}
theorem pnewX_fit (hk:Byts w S kv key) (hv:Byts w S vv val) (hz:Sm 0 1 key.length) (hzv:Sm 0 1 val.length) (hfit:1<=key.length/\key.length<=64/\val.length<=256):Calls Try.prog 8 #[pV p,.agg #[.int .i64 C.nodes,.int .i64 C.leaf,.int .i64 C.inner,.int .i64 C.fill,.int .i64 C.block],kv,vv] w λ e w'=>∃ m dm S',e=.returned (pV m)/\PX w' m dm p S' C (Pm.new key val)/\(∀ x,x=m\/x=dm\/S' x->Fresh w w' x)/\Keeps Nob w w':=by
 obtain ⟨KA,kc,ek,_,_⟩:=hk.form
 obtain ⟨VA,vc,ev,_,_⟩:=hv.form
 subst ek ev
 have HK:=Hd hk
 have HV:=Hd hv
 have HZ:Hid (Sm 0 1 key.length):=hz
 have HZV:Hid (Sm 0 1 val.length):=hzv
 have HFT:=Hd hfit
 have FC:=λ wx (h:Byts wx S (.slice KA key.length kc) key)=>cloneB h hz
 have FV:=λ wx (h:Byts wx S (.slice VA val.length vc) val)=>cloneB h hzv
 have hl1:key.length<=9223372036854775807:=by unfold Sm at hz;omega
 have hl2:val.length<=9223372036854775807:=by unfold Sm at hzv;omega
 have h1:(1:Int)<=(key.length:Int):=by have:=hfit;omega
 have h2:(key.length:Int)<=64:=by have:=hfit;omega
 have h3:(val.length:Int)<=256:=by have:=hfit;omega
 clear hk hv hz hzv hfit
 unfold pV
 go_enter Try.func8,Try.ntmps8
 go_wp2_with fail
 refine code_at (λ w1 hw=>?_)
 have hk:Keeps Nob w w1:=by rw [hw];exact Keeps.alloc Nob _ _
 obtain ⟨N,hN⟩:∃ N,w.heap.size=N:=⟨_,rfl⟩
 have hb:Blk w1 N 23 #[.int .i64 C.nodes,.int .i64 C.leaf,.int .i64 C.inner,.int .i64 C.fill,.int .i64 C.block]:=by rw [hw,<-hN];exact Blk.new _ _ _
 rw [hN]
 clear hw hN
 replace HK:=Hd (HK.out.keeps hk (λ _ _ _=>id))
 replace HV:=Hd (HV.out.keeps hk (λ _ _ _=>id))
 have HN:=Hd hb
 have K:=Hd hk
 clear hb hk
 refine rC_ [0,1,2,4,3,5,6,7,8] 7 (λ W=>W.cell? ⟨N,0,none⟩=some (.int .i64 C.nodes)/\W.cell? ⟨N,1,none⟩=some (.int .i64 C.leaf)/\W.cell? ⟨N,2,none⟩=some (.int .i64 C.inner)/\W.cell? ⟨N,3,none⟩=some (.int .i64 C.fill)/\W.cell? ⟨N,4,none⟩=some (.int .i64 C.block)) ?_ ?_
 ·exact ⟨HN.out.cell 0,HN.out.cell 1,HN.out.cell 2,HN.out.cell 3,HN.out.cell 4⟩
 refine canon_at (λ w2 hw=>?_)
 have hk:Keeps Nob w1 w2:=by rw [hw];exact Keeps.drew _ _
 clear hw
 replace HK:=Hd (HK.out.keeps hk (λ _ _ _=>id))
 replace HV:=Hd (HV.out.keeps hk (λ _ _ _=>id))
 replace HN:=Hd (HN.out.keeps hk id)
 replace K:=tq_ K hk
 clear hk
 iterate 4
  refine cR_ (v:=?_) rfl ?_ ?_
  rotate_left
  ·intro W hW
   try (obtain ⟨z1,z2,z3,z4,z5⟩:_/\_/\_/\_/\_:=hW)
   go_simp
   try rfl
  simp only [Act.put,sa_,sb_,sc_]
 refine cA_ rfl ?_
 go_wp2_with (go_at_call 18;refine (FC _ HK.out).mono ?_;rintro e w3 ⟨k1,rfl,hO,hk⟩)
 have hs3:=K.out.size
 replace HK:=Hd (HK.out.keeps hk (λ _ _ _=>id))
 replace HV:=Hd (HV.out.keeps hk (λ _ _ _=>id))
 replace HN:=Hd (HN.out.keeps hk id)
 obtain ⟨K1,j1,f1⟩:=hO.form
 subst f1
 have HO:Hid (Byts w3 (Fresh w w3) (.slice K1 key.length j1) key):=hO.r.mono (λ x _ hx=>⟨Nat.le_trans hs3 hx.1,hx.2⟩)
 replace K:=tq_ K hk
 clear hO hk hs3 FC
 refine ⟨.inr ⟨HN.out.cell 0,HN.out.cell 1,HN.out.cell 2,HN.out.cell 3,HN.out.cell 4⟩,?_⟩
 refine cA_ rfl ?_
 go_wp2_with (go_at_call 18;refine (FV _ HV.out).mono ?_;rintro e w4 ⟨v1,rfl,hO,hk⟩)
 have hs3:=K.out.size
 replace HN:=Hd (HN.out.keeps hk id)
 obtain ⟨V1,i1,f1⟩:=hO.form
 subst f1
 replace HO:Hid (Byts w4 (Fresh w w4) (.slice K1 key.length j1) key):=(HO.out.keeps hk (λ _ _ _=>id)).mono (λ x _ hx=>⟨hx.1,Nat.lt_of_lt_of_le hx.2 hk.size⟩)
 have HP:Hid (Byts w4 (Fresh w w4) (.slice V1 val.length i1) val):=hO.r.mono (λ x _ hx=>⟨Nat.le_trans hs3 hx.1,hx.2⟩)
 replace K:=tq_ K hk
 clear hO hk hs3 FV HK HV
 refine ⟨.inr ⟨HN.out.cell 0,HN.out.cell 1,HN.out.cell 2,HN.out.cell 3,HN.out.cell 4⟩,?_⟩
 iterate 1
  refine cR_ (v:=?_) rfl ?_ ?_
  rotate_left
  ·intro W hW
   try (obtain ⟨z1,z2,z3,z4,z5⟩:_/\_/\_/\_/\_:=hW)
   go_simp
   try rfl
  simp only [Act.put,sa_,sb_,sc_]
 refine cA_ rfl ?_
 go_wp2
 refine ⟨.inl (by kernel_rfl),?_⟩
 refine canon_at (λ w5 hw=>?_)
 have hk:Keeps Nob w4 w5:=by rw [hw];exact Keeps.alloc Nob _ _
 obtain ⟨m,hm⟩:∃ m,w4.heap.size=m:=⟨_,rfl⟩
 have hb:Blk w5 m 77 (cellsX (pv0 p C (.slice K1 key.length j1) (.slice V1 val.length i1))):=by rw [hw,<-hm];exact Blk.new _ _ _
 rw [hm]
 have HM:Hid (w4.heap.size<=m):=by show _<=_;rw [hm];exact Nat.le_refl _
 have HMW:Hid (w.heap.size<=m):=Nat.le_trans K.out.size HM.out
 clear hw hm
 have HB:=Hd hb
 have HS4:=Hd hk.size
 have HLS:Hid (∀ x,Fresh w w4 x->x≠m):=Hd (λ x hx e=>by have h1:=hx.2;have h2:=HM.out;omega)
 replace HO:=Hd (HO.out.keeps hk (λ _ _ _=>id))
 replace HP:=Hd (HP.out.keeps hk (λ _ _ _=>id))
 replace K:=tq_ K hk
 clear hb hk HN
 iterate 1
  refine cR_ (v:=?_) rfl ?_ ?_
  rotate_left
  ·intro W hW
   try (obtain ⟨z1,z2,z3,z4,z5⟩:_/\_/\_/\_/\_:=hW)
   go_simp
   try rfl
  simp only [Act.put,sa_,sb_,sc_]
 refine wpCanon_nil ?_
 have q6:=Pv.keyX_ HB.out
 simp only [pv0] at q6
 have q11:=Pv.sepX_ HB.out
 simp only [pv0] at q11
 have g11:=HB.out.frozen 11
 go_wp2_with fail
 clear q6 q11 g11
 refine calls_at (λ w6 hw=>?_)
 have hk:Keeps (λ x=>x=m) w5 w6:=by rw [hw];exact Keeps.setCell _ (M:=λ x=>x=m) rfl _
 replace HB:Hid (Blk w6 m 77 (cellsX {pv0 p C (.slice K1 key.length j1) (.slice V1 val.length i1) with sep:=.slice K1 key.length j1})):=by rw [hw];exact Pv.putsepX HB.out _
 clear hw
 replace HO:=Hd (HO.out.keeps hk (λ x _ hx e=>HLS.out x hx e))
 replace HP:=Hd (HP.out.keeps hk (λ x _ hx e=>HLS.out x hx e))
 replace K:=Hd (K.out.trans hk (λ x hx e=>by have h1:=HMW.out;have h2:x=m:=e;omega))
 have HS5:=Hd hk.size
 clear hk
 refine (pgoesX (l:=0) (sep:=key) HB.out rfl rfl rfl HO.out (by have:=HFT.out;omega)).mono ?_
 rintro e w7 ⟨d,rfl,hf,hX,hb,hk⟩
 have hlt:=HB.out.lt
 have hR:=(pv0_rd (a:=p) (dm:=d) (C:=C) HO.out HP.out).keeps hk (λ x _ hx e=>HLS.out x hx e)
 go_wp2
 go_ret
 have hsz:=hk.size
 have hfw:∀ x,Fresh w w4 x->Fresh w w7 x:=λ x hx=>⟨hx.1,by have h1:=hx.2;have h2:=HS4.out;have h3:=HS5.out;omega⟩
 have hgo:Pm.new key val=(Pm.idle key val).goes:=by
  unfold Pm.new
  rw [if_pos ⟨by unfold keyFit;have:=HFT.out;simp;omega,by unfold valFit;have:=HFT.out;simp;omega⟩]
 rw [hgo]
 have hP:=PX.went (C:=C) (P:=Pm.idle key val) hb (hR.mono (T:=Fresh w w4) (λ _ _ h=>h)) hX hf hlt (λ h=>HLS.out m h rfl) (λ x hx=>by have h1:=hx.2;have h2:=HS4.out;have h3:=HS5.out;omega) (λ h=>by have h1:(0:Nat)=5:=h;cases h1)
 refine ⟨m,d,_,rfl,hP,λ x hx=>?_,(K.out.trans hk (λ x hx e=>by have h1:=HMW.out;have h2:x=m:=e;omega))⟩
 have hd:Fresh w w7 d:=⟨by have h1:=hf.1;have h2:=K.out.size;omega,hf.2⟩
 rcases hx with hx|hx|hx|hx
 ·subst hx;exact ⟨HMW.out,by omega⟩
 ·subst hx;exact hd
 ·exact hfw x hx
 ·exact ⟨by have h1:=hx.1.1;have h2:=K.out.size;omega,hx.1.2⟩
theorem pnewX_short (hk:Byts w S kv key) (hv:Byts w S vv val) (hz:Sm 0 1 key.length) (hzv:Sm 0 1 val.length) (hfit:key.length < 1):Calls Try.prog 8 #[pV p,.agg #[.int .i64 C.nodes,.int .i64 C.leaf,.int .i64 C.inner,.int .i64 C.fill,.int .i64 C.block],kv,vv] w λ e w'=>∃ m dm S',e=.returned (pV m)/\PX w' m dm p S' C (Pm.new key val)/\(∀ x,x=m\/x=dm\/S' x->Fresh w w' x)/\Keeps Nob w w':=by
 obtain ⟨KA,kc,ek,_,_⟩:=hk.form
 obtain ⟨VA,vc,ev,_,_⟩:=hv.form
 subst ek ev
 have HK:=Hd hk
 have HV:=Hd hv
 have HZ:Hid (Sm 0 1 key.length):=hz
 have HZV:Hid (Sm 0 1 val.length):=hzv
 have HFT:=Hd hfit
 have FC:=λ wx (h:Byts wx S (.slice KA key.length kc) key)=>cloneB h hz
 have FV:=λ wx (h:Byts wx S (.slice VA val.length vc) val)=>cloneB h hzv
 have hl1:key.length<=9223372036854775807:=by unfold Sm at hz;omega
 have hl2:val.length<=9223372036854775807:=by unfold Sm at hzv;omega
 have h1:¬(1:Int)<=(key.length:Int):=by have:=hfit;omega
 clear hk hv hz hzv hfit
 unfold pV
 go_enter Try.func8,Try.ntmps8
 go_wp2_with fail
 refine code_at (λ w1 hw=>?_)
 have hk:Keeps Nob w w1:=by rw [hw];exact Keeps.alloc Nob _ _
 obtain ⟨N,hN⟩:∃ N,w.heap.size=N:=⟨_,rfl⟩
 have hb:Blk w1 N 23 #[.int .i64 C.nodes,.int .i64 C.leaf,.int .i64 C.inner,.int .i64 C.fill,.int .i64 C.block]:=by rw [hw,<-hN];exact Blk.new _ _ _
 rw [hN]
 clear hw hN
 replace HK:=Hd (HK.out.keeps hk (λ _ _ _=>id))
 replace HV:=Hd (HV.out.keeps hk (λ _ _ _=>id))
 have HN:=Hd hb
 have K:=Hd hk
 clear hb hk
 refine rC_ [0,1,2,4,3,5,6,7,8] 7 (λ W=>W.cell? ⟨N,0,none⟩=some (.int .i64 C.nodes)/\W.cell? ⟨N,1,none⟩=some (.int .i64 C.leaf)/\W.cell? ⟨N,2,none⟩=some (.int .i64 C.inner)/\W.cell? ⟨N,3,none⟩=some (.int .i64 C.fill)/\W.cell? ⟨N,4,none⟩=some (.int .i64 C.block)) ?_ ?_
 ·exact ⟨HN.out.cell 0,HN.out.cell 1,HN.out.cell 2,HN.out.cell 3,HN.out.cell 4⟩
 refine canon_at (λ w2 hw=>?_)
 have hk:Keeps Nob w1 w2:=by rw [hw];exact Keeps.drew _ _
 clear hw
 replace HK:=Hd (HK.out.keeps hk (λ _ _ _=>id))
 replace HV:=Hd (HV.out.keeps hk (λ _ _ _=>id))
 replace HN:=Hd (HN.out.keeps hk id)
 replace K:=tq_ K hk
 clear hk
 iterate 4
  refine cR_ (v:=?_) rfl ?_ ?_
  rotate_left
  ·intro W hW
   try (obtain ⟨z1,z2,z3,z4,z5⟩:_/\_/\_/\_/\_:=hW)
   go_simp
   try rfl
  simp only [Act.put,sa_,sb_,sc_]
 refine cA_ rfl ?_
 go_wp2_with (go_at_call 18;refine (FC _ HK.out).mono ?_;rintro e w3 ⟨k1,rfl,hO,hk⟩)
 have hs3:=K.out.size
 replace HK:=Hd (HK.out.keeps hk (λ _ _ _=>id))
 replace HV:=Hd (HV.out.keeps hk (λ _ _ _=>id))
 replace HN:=Hd (HN.out.keeps hk id)
 obtain ⟨K1,j1,f1⟩:=hO.form
 subst f1
 have HO:Hid (Byts w3 (Fresh w w3) (.slice K1 key.length j1) key):=hO.r.mono (λ x _ hx=>⟨Nat.le_trans hs3 hx.1,hx.2⟩)
 replace K:=tq_ K hk
 clear hO hk hs3 FC
 refine ⟨.inr ⟨HN.out.cell 0,HN.out.cell 1,HN.out.cell 2,HN.out.cell 3,HN.out.cell 4⟩,?_⟩
 refine cA_ rfl ?_
 go_wp2_with (go_at_call 18;refine (FV _ HV.out).mono ?_;rintro e w4 ⟨v1,rfl,hO,hk⟩)
 have hs3:=K.out.size
 replace HN:=Hd (HN.out.keeps hk id)
 obtain ⟨V1,i1,f1⟩:=hO.form
 subst f1
 replace HO:Hid (Byts w4 (Fresh w w4) (.slice K1 key.length j1) key):=(HO.out.keeps hk (λ _ _ _=>id)).mono (λ x _ hx=>⟨hx.1,Nat.lt_of_lt_of_le hx.2 hk.size⟩)
 have HP:Hid (Byts w4 (Fresh w w4) (.slice V1 val.length i1) val):=hO.r.mono (λ x _ hx=>⟨Nat.le_trans hs3 hx.1,hx.2⟩)
 replace K:=tq_ K hk
 clear hO hk hs3 FV HK HV
 refine ⟨.inr ⟨HN.out.cell 0,HN.out.cell 1,HN.out.cell 2,HN.out.cell 3,HN.out.cell 4⟩,?_⟩
 iterate 1
  refine cR_ (v:=?_) rfl ?_ ?_
  rotate_left
  ·intro W hW
   try (obtain ⟨z1,z2,z3,z4,z5⟩:_/\_/\_/\_/\_:=hW)
   go_simp
   try rfl
  simp only [Act.put,sa_,sb_,sc_]
 refine cA_ rfl ?_
 go_wp2
 refine ⟨.inl (by kernel_rfl),?_⟩
 refine canon_at (λ w5 hw=>?_)
 have hk:Keeps Nob w4 w5:=by rw [hw];exact Keeps.alloc Nob _ _
 obtain ⟨m,hm⟩:∃ m,w4.heap.size=m:=⟨_,rfl⟩
 have hb:Blk w5 m 77 (cellsX (pv0 p C (.slice K1 key.length j1) (.slice V1 val.length i1))):=by rw [hw,<-hm];exact Blk.new _ _ _
 rw [hm]
 have HM:Hid (w4.heap.size<=m):=by show _<=_;rw [hm];exact Nat.le_refl _
 have HMW:Hid (w.heap.size<=m):=Nat.le_trans K.out.size HM.out
 clear hw hm
 have HB:=Hd hb
 have HS4:=Hd hk.size
 have HLS:Hid (∀ x,Fresh w w4 x->x≠m):=Hd (λ x hx e=>by have h1:=hx.2;have h2:=HM.out;omega)
 replace HO:=Hd (HO.out.keeps hk (λ _ _ _=>id))
 replace HP:=Hd (HP.out.keeps hk (λ _ _ _=>id))
 replace K:=tq_ K hk
 clear hb hk HN
 iterate 1
  refine cR_ (v:=?_) rfl ?_ ?_
  rotate_left
  ·intro W hW
   try (obtain ⟨z1,z2,z3,z4,z5⟩:_/\_/\_/\_/\_:=hW)
   go_simp
   try rfl
  simp only [Act.put,sa_,sb_,sc_]
 refine wpCanon_nil ?_
 have q6:=Pv.keyX_ HB.out
 simp only [pv0] at q6
 have q11:=Pv.sepX_ HB.out
 simp only [pv0] at q11
 have g11:=HB.out.frozen 11
 go_wp2_with fail
 clear q6 q11 g11
 refine post_at (λ w6 hw=>?_)
 have hk:Keeps (λ x=>x=m) w5 w6:=by rw [hw];exact Keeps.setCell _ (M:=λ x=>x=m) rfl _
 replace HB:Hid (Blk w6 m 77 (cellsX {pv0 p C (.slice K1 key.length j1) (.slice V1 val.length i1) with sep:=.slice K1 key.length j1})):=by rw [hw];exact Pv.putsepX HB.out _
 clear hw
 replace HO:=Hd (HO.out.keeps hk (λ x _ hx e=>HLS.out x hx e))
 replace HP:=Hd (HP.out.keeps hk (λ x _ hx e=>HLS.out x hx e))
 replace K:=Hd (K.out.trans hk (λ x hx e=>by have h1:=HMW.out;have h2:x=m:=e;omega))
 have HS5:=Hd hk.size
 clear hk
 go_ret
 have hgo:Pm.new key val=Pm.idle key val:=by
  unfold Pm.new
  rw [if_neg (λ h=>by have h1:=h.1;have h2:=h.2;unfold keyFit at h1;unfold valFit at h2;simp only [Bool.and_eq_true,decide_eq_true_eq] at h1 h2;have:=HFT.out;omega)]
 rw [hgo]
 have hlt:=HB.out.lt
 have hPX:PX w6 m m p (Fresh w w4) C (Pm.idle key val):=⟨⟨_,HB.out,rfl,(λ h=>by cases h),λ _=>⟨pv0_rd HO.out HP.out,(λ d h=>by cases h),λ h=>HLS.out m h rfl⟩⟩,λ h=>HLS.out m h rfl⟩
 have hfx:∀ x,x=m\/x=m\/Fresh w w4 x->Fresh w w6 x:=λ x hx=>by
  rcases hx with hx|hx|hx
  ·subst hx;exact ⟨HMW.out,hlt⟩
  ·subst hx;exact ⟨HMW.out,hlt⟩
  ·exact ⟨hx.1,by have h1:=hx.2;have h2:=HS4.out;have h3:=HS5.out;omega⟩
 first
  | exact ⟨m,m,_,rfl,hPX,hfx,K.out⟩
  | exact ⟨m,rfl,m,_,hPX,⟨hfx m (.inl rfl),hfx m (.inl rfl),λ x hx=>hfx x (.inr (.inr hx))⟩,K.out⟩
theorem pnewX_long (hk:Byts w S kv key) (hv:Byts w S vv val) (hz:Sm 0 1 key.length) (hzv:Sm 0 1 val.length) (hfit:1<=key.length/\64 < key.length):Calls Try.prog 8 #[pV p,.agg #[.int .i64 C.nodes,.int .i64 C.leaf,.int .i64 C.inner,.int .i64 C.fill,.int .i64 C.block],kv,vv] w λ e w'=>∃ m dm S',e=.returned (pV m)/\PX w' m dm p S' C (Pm.new key val)/\(∀ x,x=m\/x=dm\/S' x->Fresh w w' x)/\Keeps Nob w w':=by
 obtain ⟨KA,kc,ek,_,_⟩:=hk.form
 obtain ⟨VA,vc,ev,_,_⟩:=hv.form
 subst ek ev
 have HK:=Hd hk
 have HV:=Hd hv
 have HZ:Hid (Sm 0 1 key.length):=hz
 have HZV:Hid (Sm 0 1 val.length):=hzv
 have HFT:=Hd hfit
 have FC:=λ wx (h:Byts wx S (.slice KA key.length kc) key)=>cloneB h hz
 have FV:=λ wx (h:Byts wx S (.slice VA val.length vc) val)=>cloneB h hzv
 have hl1:key.length<=9223372036854775807:=by unfold Sm at hz;omega
 have hl2:val.length<=9223372036854775807:=by unfold Sm at hzv;omega
 have h1:(1:Int)<=(key.length:Int):=by have:=hfit;omega
 have h2:¬(key.length:Int)<=64:=by have:=hfit;omega
 clear hk hv hz hzv hfit
 unfold pV
 go_enter Try.func8,Try.ntmps8
 go_wp2_with fail
 refine code_at (λ w1 hw=>?_)
 have hk:Keeps Nob w w1:=by rw [hw];exact Keeps.alloc Nob _ _
 obtain ⟨N,hN⟩:∃ N,w.heap.size=N:=⟨_,rfl⟩
 have hb:Blk w1 N 23 #[.int .i64 C.nodes,.int .i64 C.leaf,.int .i64 C.inner,.int .i64 C.fill,.int .i64 C.block]:=by rw [hw,<-hN];exact Blk.new _ _ _
 rw [hN]
 clear hw hN
 replace HK:=Hd (HK.out.keeps hk (λ _ _ _=>id))
 replace HV:=Hd (HV.out.keeps hk (λ _ _ _=>id))
 have HN:=Hd hb
 have K:=Hd hk
 clear hb hk
 refine rC_ [0,1,2,4,3,5,6,7,8] 7 (λ W=>W.cell? ⟨N,0,none⟩=some (.int .i64 C.nodes)/\W.cell? ⟨N,1,none⟩=some (.int .i64 C.leaf)/\W.cell? ⟨N,2,none⟩=some (.int .i64 C.inner)/\W.cell? ⟨N,3,none⟩=some (.int .i64 C.fill)/\W.cell? ⟨N,4,none⟩=some (.int .i64 C.block)) ?_ ?_
 ·exact ⟨HN.out.cell 0,HN.out.cell 1,HN.out.cell 2,HN.out.cell 3,HN.out.cell 4⟩
 refine canon_at (λ w2 hw=>?_)
 have hk:Keeps Nob w1 w2:=by rw [hw];exact Keeps.drew _ _
 clear hw
 replace HK:=Hd (HK.out.keeps hk (λ _ _ _=>id))
 replace HV:=Hd (HV.out.keeps hk (λ _ _ _=>id))
 replace HN:=Hd (HN.out.keeps hk id)
 replace K:=tq_ K hk
 clear hk
 iterate 4
  refine cR_ (v:=?_) rfl ?_ ?_
  rotate_left
  ·intro W hW
   try (obtain ⟨z1,z2,z3,z4,z5⟩:_/\_/\_/\_/\_:=hW)
   go_simp
   try rfl
  simp only [Act.put,sa_,sb_,sc_]
 refine cA_ rfl ?_
 go_wp2_with (go_at_call 18;refine (FC _ HK.out).mono ?_;rintro e w3 ⟨k1,rfl,hO,hk⟩)
 have hs3:=K.out.size
 replace HK:=Hd (HK.out.keeps hk (λ _ _ _=>id))
 replace HV:=Hd (HV.out.keeps hk (λ _ _ _=>id))
 replace HN:=Hd (HN.out.keeps hk id)
 obtain ⟨K1,j1,f1⟩:=hO.form
 subst f1
 have HO:Hid (Byts w3 (Fresh w w3) (.slice K1 key.length j1) key):=hO.r.mono (λ x _ hx=>⟨Nat.le_trans hs3 hx.1,hx.2⟩)
 replace K:=tq_ K hk
 clear hO hk hs3 FC
 refine ⟨.inr ⟨HN.out.cell 0,HN.out.cell 1,HN.out.cell 2,HN.out.cell 3,HN.out.cell 4⟩,?_⟩
 refine cA_ rfl ?_
 go_wp2_with (go_at_call 18;refine (FV _ HV.out).mono ?_;rintro e w4 ⟨v1,rfl,hO,hk⟩)
 have hs3:=K.out.size
 replace HN:=Hd (HN.out.keeps hk id)
 obtain ⟨V1,i1,f1⟩:=hO.form
 subst f1
 replace HO:Hid (Byts w4 (Fresh w w4) (.slice K1 key.length j1) key):=(HO.out.keeps hk (λ _ _ _=>id)).mono (λ x _ hx=>⟨hx.1,Nat.lt_of_lt_of_le hx.2 hk.size⟩)
 have HP:Hid (Byts w4 (Fresh w w4) (.slice V1 val.length i1) val):=hO.r.mono (λ x _ hx=>⟨Nat.le_trans hs3 hx.1,hx.2⟩)
 replace K:=tq_ K hk
 clear hO hk hs3 FV HK HV
 refine ⟨.inr ⟨HN.out.cell 0,HN.out.cell 1,HN.out.cell 2,HN.out.cell 3,HN.out.cell 4⟩,?_⟩
 iterate 1
  refine cR_ (v:=?_) rfl ?_ ?_
  rotate_left
  ·intro W hW
   try (obtain ⟨z1,z2,z3,z4,z5⟩:_/\_/\_/\_/\_:=hW)
   go_simp
   try rfl
  simp only [Act.put,sa_,sb_,sc_]
 refine cA_ rfl ?_
 go_wp2
 refine ⟨.inl (by kernel_rfl),?_⟩
 refine canon_at (λ w5 hw=>?_)
 have hk:Keeps Nob w4 w5:=by rw [hw];exact Keeps.alloc Nob _ _
 obtain ⟨m,hm⟩:∃ m,w4.heap.size=m:=⟨_,rfl⟩
 have hb:Blk w5 m 77 (cellsX (pv0 p C (.slice K1 key.length j1) (.slice V1 val.length i1))):=by rw [hw,<-hm];exact Blk.new _ _ _
 rw [hm]
 have HM:Hid (w4.heap.size<=m):=by show _<=_;rw [hm];exact Nat.le_refl _
 have HMW:Hid (w.heap.size<=m):=Nat.le_trans K.out.size HM.out
 clear hw hm
 have HB:=Hd hb
 have HS4:=Hd hk.size
 have HLS:Hid (∀ x,Fresh w w4 x->x≠m):=Hd (λ x hx e=>by have h1:=hx.2;have h2:=HM.out;omega)
 replace HO:=Hd (HO.out.keeps hk (λ _ _ _=>id))
 replace HP:=Hd (HP.out.keeps hk (λ _ _ _=>id))
 replace K:=tq_ K hk
 clear hb hk HN
 iterate 1
  refine cR_ (v:=?_) rfl ?_ ?_
  rotate_left
  ·intro W hW
   try (obtain ⟨z1,z2,z3,z4,z5⟩:_/\_/\_/\_/\_:=hW)
   go_simp
   try rfl
  simp only [Act.put,sa_,sb_,sc_]
 refine wpCanon_nil ?_
 have q6:=Pv.keyX_ HB.out
 simp only [pv0] at q6
 have q11:=Pv.sepX_ HB.out
 simp only [pv0] at q11
 have g11:=HB.out.frozen 11
 go_wp2_with fail
 clear q6 q11 g11
 refine post_at (λ w6 hw=>?_)
 have hk:Keeps (λ x=>x=m) w5 w6:=by rw [hw];exact Keeps.setCell _ (M:=λ x=>x=m) rfl _
 replace HB:Hid (Blk w6 m 77 (cellsX {pv0 p C (.slice K1 key.length j1) (.slice V1 val.length i1) with sep:=.slice K1 key.length j1})):=by rw [hw];exact Pv.putsepX HB.out _
 clear hw
 replace HO:=Hd (HO.out.keeps hk (λ x _ hx e=>HLS.out x hx e))
 replace HP:=Hd (HP.out.keeps hk (λ x _ hx e=>HLS.out x hx e))
 replace K:=Hd (K.out.trans hk (λ x hx e=>by have h1:=HMW.out;have h2:x=m:=e;omega))
 have HS5:=Hd hk.size
 clear hk
 go_ret
 have hgo:Pm.new key val=Pm.idle key val:=by
  unfold Pm.new
  rw [if_neg (λ h=>by have h1:=h.1;have h2:=h.2;unfold keyFit at h1;unfold valFit at h2;simp only [Bool.and_eq_true,decide_eq_true_eq] at h1 h2;have:=HFT.out;omega)]
 rw [hgo]
 have hlt:=HB.out.lt
 have hPX:PX w6 m m p (Fresh w w4) C (Pm.idle key val):=⟨⟨_,HB.out,rfl,(λ h=>by cases h),λ _=>⟨pv0_rd HO.out HP.out,(λ d h=>by cases h),λ h=>HLS.out m h rfl⟩⟩,λ h=>HLS.out m h rfl⟩
 have hfx:∀ x,x=m\/x=m\/Fresh w w4 x->Fresh w w6 x:=λ x hx=>by
  rcases hx with hx|hx|hx
  ·subst hx;exact ⟨HMW.out,hlt⟩
  ·subst hx;exact ⟨HMW.out,hlt⟩
  ·exact ⟨hx.1,by have h1:=hx.2;have h2:=HS4.out;have h3:=HS5.out;omega⟩
 first
  | exact ⟨m,m,_,rfl,hPX,hfx,K.out⟩
  | exact ⟨m,rfl,m,_,hPX,⟨hfx m (.inl rfl),hfx m (.inl rfl),λ x hx=>hfx x (.inr (.inr hx))⟩,K.out⟩
theorem pnewX_big (hk:Byts w S kv key) (hv:Byts w S vv val) (hz:Sm 0 1 key.length) (hzv:Sm 0 1 val.length) (hfit:1<=key.length/\key.length<=64/\256 < val.length):Calls Try.prog 8 #[pV p,.agg #[.int .i64 C.nodes,.int .i64 C.leaf,.int .i64 C.inner,.int .i64 C.fill,.int .i64 C.block],kv,vv] w λ e w'=>∃ m dm S',e=.returned (pV m)/\PX w' m dm p S' C (Pm.new key val)/\(∀ x,x=m\/x=dm\/S' x->Fresh w w' x)/\Keeps Nob w w':=by
 obtain ⟨KA,kc,ek,_,_⟩:=hk.form
 obtain ⟨VA,vc,ev,_,_⟩:=hv.form
 subst ek ev
 have HK:=Hd hk
 have HV:=Hd hv
 have HZ:Hid (Sm 0 1 key.length):=hz
 have HZV:Hid (Sm 0 1 val.length):=hzv
 have HFT:=Hd hfit
 have FC:=λ wx (h:Byts wx S (.slice KA key.length kc) key)=>cloneB h hz
 have FV:=λ wx (h:Byts wx S (.slice VA val.length vc) val)=>cloneB h hzv
 have hl1:key.length<=9223372036854775807:=by unfold Sm at hz;omega
 have hl2:val.length<=9223372036854775807:=by unfold Sm at hzv;omega
 have h1:(1:Int)<=(key.length:Int):=by have:=hfit;omega
 have h2:(key.length:Int)<=64:=by have:=hfit;omega
 have h3:¬(val.length:Int)<=256:=by have:=hfit;omega
 clear hk hv hz hzv hfit
 unfold pV
 go_enter Try.func8,Try.ntmps8
 go_wp2_with fail
 refine code_at (λ w1 hw=>?_)
 have hk:Keeps Nob w w1:=by rw [hw];exact Keeps.alloc Nob _ _
 obtain ⟨N,hN⟩:∃ N,w.heap.size=N:=⟨_,rfl⟩
 have hb:Blk w1 N 23 #[.int .i64 C.nodes,.int .i64 C.leaf,.int .i64 C.inner,.int .i64 C.fill,.int .i64 C.block]:=by rw [hw,<-hN];exact Blk.new _ _ _
 rw [hN]
 clear hw hN
 replace HK:=Hd (HK.out.keeps hk (λ _ _ _=>id))
 replace HV:=Hd (HV.out.keeps hk (λ _ _ _=>id))
 have HN:=Hd hb
 have K:=Hd hk
 clear hb hk
 refine rC_ [0,1,2,4,3,5,6,7,8] 7 (λ W=>W.cell? ⟨N,0,none⟩=some (.int .i64 C.nodes)/\W.cell? ⟨N,1,none⟩=some (.int .i64 C.leaf)/\W.cell? ⟨N,2,none⟩=some (.int .i64 C.inner)/\W.cell? ⟨N,3,none⟩=some (.int .i64 C.fill)/\W.cell? ⟨N,4,none⟩=some (.int .i64 C.block)) ?_ ?_
 ·exact ⟨HN.out.cell 0,HN.out.cell 1,HN.out.cell 2,HN.out.cell 3,HN.out.cell 4⟩
 refine canon_at (λ w2 hw=>?_)
 have hk:Keeps Nob w1 w2:=by rw [hw];exact Keeps.drew _ _
 clear hw
 replace HK:=Hd (HK.out.keeps hk (λ _ _ _=>id))
 replace HV:=Hd (HV.out.keeps hk (λ _ _ _=>id))
 replace HN:=Hd (HN.out.keeps hk id)
 replace K:=tq_ K hk
 clear hk
 iterate 4
  refine cR_ (v:=?_) rfl ?_ ?_
  rotate_left
  ·intro W hW
   try (obtain ⟨z1,z2,z3,z4,z5⟩:_/\_/\_/\_/\_:=hW)
   go_simp
   try rfl
  simp only [Act.put,sa_,sb_,sc_]
 refine cA_ rfl ?_
 go_wp2_with (go_at_call 18;refine (FC _ HK.out).mono ?_;rintro e w3 ⟨k1,rfl,hO,hk⟩)
 have hs3:=K.out.size
 replace HK:=Hd (HK.out.keeps hk (λ _ _ _=>id))
 replace HV:=Hd (HV.out.keeps hk (λ _ _ _=>id))
 replace HN:=Hd (HN.out.keeps hk id)
 obtain ⟨K1,j1,f1⟩:=hO.form
 subst f1
 have HO:Hid (Byts w3 (Fresh w w3) (.slice K1 key.length j1) key):=hO.r.mono (λ x _ hx=>⟨Nat.le_trans hs3 hx.1,hx.2⟩)
 replace K:=tq_ K hk
 clear hO hk hs3 FC
 refine ⟨.inr ⟨HN.out.cell 0,HN.out.cell 1,HN.out.cell 2,HN.out.cell 3,HN.out.cell 4⟩,?_⟩
 refine cA_ rfl ?_
 go_wp2_with (go_at_call 18;refine (FV _ HV.out).mono ?_;rintro e w4 ⟨v1,rfl,hO,hk⟩)
 have hs3:=K.out.size
 replace HN:=Hd (HN.out.keeps hk id)
 obtain ⟨V1,i1,f1⟩:=hO.form
 subst f1
 replace HO:Hid (Byts w4 (Fresh w w4) (.slice K1 key.length j1) key):=(HO.out.keeps hk (λ _ _ _=>id)).mono (λ x _ hx=>⟨hx.1,Nat.lt_of_lt_of_le hx.2 hk.size⟩)
 have HP:Hid (Byts w4 (Fresh w w4) (.slice V1 val.length i1) val):=hO.r.mono (λ x _ hx=>⟨Nat.le_trans hs3 hx.1,hx.2⟩)
 replace K:=tq_ K hk
 clear hO hk hs3 FV HK HV
 refine ⟨.inr ⟨HN.out.cell 0,HN.out.cell 1,HN.out.cell 2,HN.out.cell 3,HN.out.cell 4⟩,?_⟩
 iterate 1
  refine cR_ (v:=?_) rfl ?_ ?_
  rotate_left
  ·intro W hW
   try (obtain ⟨z1,z2,z3,z4,z5⟩:_/\_/\_/\_/\_:=hW)
   go_simp
   try rfl
  simp only [Act.put,sa_,sb_,sc_]
 refine cA_ rfl ?_
 go_wp2
 refine ⟨.inl (by kernel_rfl),?_⟩
 refine canon_at (λ w5 hw=>?_)
 have hk:Keeps Nob w4 w5:=by rw [hw];exact Keeps.alloc Nob _ _
 obtain ⟨m,hm⟩:∃ m,w4.heap.size=m:=⟨_,rfl⟩
 have hb:Blk w5 m 77 (cellsX (pv0 p C (.slice K1 key.length j1) (.slice V1 val.length i1))):=by rw [hw,<-hm];exact Blk.new _ _ _
 rw [hm]
 have HM:Hid (w4.heap.size<=m):=by show _<=_;rw [hm];exact Nat.le_refl _
 have HMW:Hid (w.heap.size<=m):=Nat.le_trans K.out.size HM.out
 clear hw hm
 have HB:=Hd hb
 have HS4:=Hd hk.size
 have HLS:Hid (∀ x,Fresh w w4 x->x≠m):=Hd (λ x hx e=>by have h1:=hx.2;have h2:=HM.out;omega)
 replace HO:=Hd (HO.out.keeps hk (λ _ _ _=>id))
 replace HP:=Hd (HP.out.keeps hk (λ _ _ _=>id))
 replace K:=tq_ K hk
 clear hb hk HN
 iterate 1
  refine cR_ (v:=?_) rfl ?_ ?_
  rotate_left
  ·intro W hW
   try (obtain ⟨z1,z2,z3,z4,z5⟩:_/\_/\_/\_/\_:=hW)
   go_simp
   try rfl
  simp only [Act.put,sa_,sb_,sc_]
 refine wpCanon_nil ?_
 have q6:=Pv.keyX_ HB.out
 simp only [pv0] at q6
 have q11:=Pv.sepX_ HB.out
 simp only [pv0] at q11
 have g11:=HB.out.frozen 11
 go_wp2_with fail
 clear q6 q11 g11
 refine post_at (λ w6 hw=>?_)
 have hk:Keeps (λ x=>x=m) w5 w6:=by rw [hw];exact Keeps.setCell _ (M:=λ x=>x=m) rfl _
 replace HB:Hid (Blk w6 m 77 (cellsX {pv0 p C (.slice K1 key.length j1) (.slice V1 val.length i1) with sep:=.slice K1 key.length j1})):=by rw [hw];exact Pv.putsepX HB.out _
 clear hw
 replace HO:=Hd (HO.out.keeps hk (λ x _ hx e=>HLS.out x hx e))
 replace HP:=Hd (HP.out.keeps hk (λ x _ hx e=>HLS.out x hx e))
 replace K:=Hd (K.out.trans hk (λ x hx e=>by have h1:=HMW.out;have h2:x=m:=e;omega))
 have HS5:=Hd hk.size
 clear hk
 go_ret
 have hgo:Pm.new key val=Pm.idle key val:=by
  unfold Pm.new
  rw [if_neg (λ h=>by have h1:=h.1;have h2:=h.2;unfold keyFit at h1;unfold valFit at h2;simp only [Bool.and_eq_true,decide_eq_true_eq] at h1 h2;have:=HFT.out;omega)]
 rw [hgo]
 have hlt:=HB.out.lt
 have hPX:PX w6 m m p (Fresh w w4) C (Pm.idle key val):=⟨⟨_,HB.out,rfl,(λ h=>by cases h),λ _=>⟨pv0_rd HO.out HP.out,(λ d h=>by cases h),λ h=>HLS.out m h rfl⟩⟩,λ h=>HLS.out m h rfl⟩
 have hfx:∀ x,x=m\/x=m\/Fresh w w4 x->Fresh w w6 x:=λ x hx=>by
  rcases hx with hx|hx|hx
  ·subst hx;exact ⟨HMW.out,hlt⟩
  ·subst hx;exact ⟨HMW.out,hlt⟩
  ·exact ⟨hx.1,by have h1:=hx.2;have h2:=HS4.out;have h3:=HS5.out;omega⟩
 first
  | exact ⟨m,m,_,rfl,hPX,hfx,K.out⟩
  | exact ⟨m,rfl,m,_,hPX,⟨hfx m (.inl rfl),hfx m (.inl rfl),λ x hx=>hfx x (.inr (.inr hx))⟩,K.out⟩
theorem pnewX (hk:Byts w S kv key) (hv:Byts w S vv val) (hz:Sm 0 1 key.length) (hzv:Sm 0 1 val.length):Calls Try.prog 8 #[pV p,.agg #[.int .i64 C.nodes,.int .i64 C.leaf,.int .i64 C.inner,.int .i64 C.fill,.int .i64 C.block],kv,vv] w λ e w'=>∃ m dm S',e=.returned (pV m)/\PX w' m dm p S' C (Pm.new key val)/\(∀ x,x=m\/x=dm\/S' x->Fresh w w' x)/\Keeps Nob w w':=by
 rcases Nat.lt_or_ge key.length 1 with h1|h1
 ·exact pnewX_short hk hv hz hzv h1
 ·rcases Nat.lt_or_ge 64 key.length with h2|h2
  ·exact pnewX_long hk hv hz hzv ⟨h1,h2⟩
  ·rcases Nat.lt_or_ge 256 val.length with h3|h3
   ·exact pnewX_big hk hv hz hzv ⟨h1,h2,h3⟩
   ·exact pnewX_fit hk hv hz hzv ⟨h1,h2,h3⟩
end
end Go.Proofs.Ytjcgphhpaenjkaa

import Derived.Test.YtjcgphhpaenjkaaPkB0
set_option maxHeartbeats 64000000
set_option maxRecDepth 100000
set_option linter.unusedVariables false
namespace Go.Proofs.Ytjcgphhpaenjkaa
open Go.RowKit
section
variable {w:World} {G S:Nat->Prop} {b p q m now:Nat} {A B:Ar} {M:Mc}
end
section
variable {w:World} {G S:Nat->Prop} {b p q m:Nat} {A B:Ar} {Φ:Fr} {M:Mc}
theorem validX_ (hJ:JX w G Φ p A) (hG:¬G m) (h:MX w m p S M) (hm:¬S m) (hlow:M.low):Calls Try.prog 98 #[pV m] w λ e w'=>e=.returned (iV (opErr A M.id))/\StX w w' m p S (if opErr A M.id=0 then decideM (opWord A M.id) M else M):=by
 by_cases c1:opErr A M.id=0
 ·rw [if_pos c1]
  unfold decideM
  by_cases c2:opWord A M.id=M.word
  ·rw [if_neg (λ h=>h c2)]
   by_cases c3:M.nd.lvl < M.level
   ·rw [if_pos c3,c1];exact validD.1 hJ hG h hm hlow c1 c2 c3
   ·rw [if_neg c3]
    by_cases c4:beyond M.nd.high M.key=true
    ·rw [if_pos c4,c1];exact validD.2.1 hJ hG h hm hlow c1 c2 c3 c4
    ·rw [if_neg c4]
     by_cases c5:M.nd.lvl=M.level
     ·rw [if_pos c5,c1];exact validD.2.2.1 hJ hG h hm hlow c1 c2 c3 c4 c5
     ·rw [if_neg c5,c1];exact validD.2.2.2 hJ hG h hm hlow c1 c2 c3 c4 c5
  ·rw [if_pos c2,c1];exact validE.2 hJ hG h hm hlow c1 c2
 ·rw [if_neg c1];exact validE.1 hJ hG h hm c1
theorem fne_nil (w:World):(binOp .neq 81 .nilFunc .nilFunc).run Try.prog w=.ok (.bool false) w:=by kernel_rfl
theorem fne_fun (w:World) (fn:Fn) (f c:Array Value):(binOp .neq 81 (.func fn f c) .nilFunc).run Try.prog w=.ok (.bool true) w:=by kernel_rfl
theorem feq_nil (w:World):(binOp .eql 81 .nilFunc .nilFunc).run Try.prog w=.ok (.bool true) w:=by kernel_rfl
theorem feq_fun (w:World) (fn:Fn) (f c:Array Value):(binOp .eql 81 (.func fn f c) .nilFunc).run Try.prog w=.ok (.bool false) w:=by kernel_rfl
theorem MW.next {nv:Nx->Value} {t:TypeId} (h:MW w t m p nv S M):w.cell? ⟨m,3,none⟩=some (nv M.nx)/\w.frozen? ⟨m,3,none⟩=false/\m < w.heap.size:=by
 obtain ⟨kv,c0,c1,c2,c3,c4,c5,hb,hk,hn⟩:=h.cells
 exact ⟨hb.cell 3,hb.frozen 3,hb.lt⟩
theorem MW.setNext {nv:Nx->Value} {t:TypeId} {n:Nx} {v:Value} (h:MW w t m p nv S M) (hm:¬S m) (hv:v=nv n):MW (w.setCell ⟨m,3,none⟩ v) t m p nv S {M with nx:=n}:=by
 subst hv
 obtain ⟨⟨kv,c0,c1,c2,c3,c4,c5,hb,hk,hn⟩,hu,hs⟩:=h
 have k:Keeps (λ x=>x=m) w (w.setCell ⟨m,3,none⟩ (nv n)):=Keeps.setCell w (M:=λ x=>x=m) rfl _
 exact ⟨⟨kv,c0,c1,c2,c3,c4,c5,hb.set_ 3 _,hk.keeps k (λ x _ hx e=>hm (e▸hx)),hn.keeps k (λ x _ hx e=>hm (e▸hx))⟩,hu,hs⟩
theorem step_root {err:Int} {M1:Mc} (hn:M.nx=.root) (h:MX w m p S M) (hm:¬S m) (hC:Calls Try.prog 61 #[pV m] w λ e w'=>e=.returned (iV err)/\StX w w' m p S M1) :
  Calls Try.prog 38 #[pV m] w λ e w'=>e=.returned (.bool (decide ((if err=0 then M1 else {M1 with nx:=.done}).nx=.done)))/\StX w w' m p S (if err=0 then M1 else {M1 with nx:=.done}):=by
 obtain ⟨q3,g3,hlt⟩:=h.next
 rw [hn] at q3
 simp only [nvX] at q3
 have HC:=Hd hC
 have HM:Hid (¬S m):=hm
 have HLT:=Hd hlt
 clear hC hm h hn hlt
 have f1:=fne_nil;have f2:=fne_fun;have f3:=feq_nil;have f4:=feq_fun
 unfold pV at *
 by_cases he:err=0
 ·subst he
  rw [if_pos rfl]
  cases h1:M1.nx
  all_goals
   go_enter Try.func38,Try.ntmps38
   go_wp2_with (go_at_call 61;refine HC.out.mono ?_;rintro e w1 ⟨rfl,⟨S',hX,hsub⟩,hk⟩;clear q3 g3;have q3:=hX.next.1;have HX:=Hd hX;have HSub:=Hd hsub;have HK:=Hd hk;clear hX hsub hk;rw [h1] at q3;simp only [nvX] at q3;unfold pV iV at *)
   go_ret
   exact ⟨by simp,⟨S',HX.out,HSub.out⟩,HK.out⟩
 ·rw [if_neg he]
  have hef:(err==0)=false:=by simpa using he
  clear he
  go_enter Try.func38,Try.ntmps38
  have hsn:∀ (a:Addr) (w:World),(store a .nilFunc).run Try.prog w=stored Try.prog w a .nilFunc .plain:=λ a w=>run_store Try.prog w a .nilFunc .plain rfl
  go_wp2_with (go_at_call 61;refine HC.out.mono ?_;rintro e w1 ⟨rfl,⟨S',hX,hsub⟩,hk⟩;clear q3 g3;have q3:=hX.next.1;have g3:=hX.next.2.1;have HX:=Hd hX;have HSub:=Hd hsub;have HK:=Hd hk;clear hX hsub hk;generalize nvX m M1.nx=nv at q3;unfold pV iV at *)
  go_ret
  refine ⟨by simp,⟨S',HX.out.setNext (λ h=>(HSub.out m h).elim HM.out (λ h=>by have:=h.1;have:=HLT.out;omega)) rfl,λ x hx=>(HSub.out x hx).imp id (λ h=>⟨h.1,by simpa using h.2⟩)⟩,HK.out.setCell' (λ _=>rfl) _⟩
theorem step_latch {err:Int} {M1:Mc} (hn:M.nx=.latch) (h:MX w m p S M) (hm:¬S m) (hC:Calls Try.prog 73 #[pV m] w λ e w'=>e=.returned (iV err)/\StX w w' m p S M1) :
  Calls Try.prog 38 #[pV m] w λ e w'=>e=.returned (.bool (decide ((if err=0 then M1 else {M1 with nx:=.done}).nx=.done)))/\StX w w' m p S (if err=0 then M1 else {M1 with nx:=.done}):=by
 obtain ⟨q3,g3,hlt⟩:=h.next
 rw [hn] at q3
 simp only [nvX] at q3
 have HC:=Hd hC
 have HM:Hid (¬S m):=hm
 have HLT:=Hd hlt
 clear hC hm h hn hlt
 have f1:=fne_nil;have f2:=fne_fun;have f3:=feq_nil;have f4:=feq_fun
 unfold pV at *
 by_cases he:err=0
 ·subst he
  rw [if_pos rfl]
  cases h1:M1.nx
  all_goals
   go_enter Try.func38,Try.ntmps38
   go_wp2_with (go_at_call 73;refine HC.out.mono ?_;rintro e w1 ⟨rfl,⟨S',hX,hsub⟩,hk⟩;clear q3 g3;have q3:=hX.next.1;have HX:=Hd hX;have HSub:=Hd hsub;have HK:=Hd hk;clear hX hsub hk;rw [h1] at q3;simp only [nvX] at q3;unfold pV iV at *)
   go_ret
   exact ⟨by simp,⟨S',HX.out,HSub.out⟩,HK.out⟩
 ·rw [if_neg he]
  have hef:(err==0)=false:=by simpa using he
  clear he
  go_enter Try.func38,Try.ntmps38
  have hsn:∀ (a:Addr) (w:World),(store a .nilFunc).run Try.prog w=stored Try.prog w a .nilFunc .plain:=λ a w=>run_store Try.prog w a .nilFunc .plain rfl
  go_wp2_with (go_at_call 73;refine HC.out.mono ?_;rintro e w1 ⟨rfl,⟨S',hX,hsub⟩,hk⟩;clear q3 g3;have q3:=hX.next.1;have g3:=hX.next.2.1;have HX:=Hd hX;have HSub:=Hd hsub;have HK:=Hd hk;clear hX hsub hk;generalize nvX m M1.nx=nv at q3;unfold pV iV at *)
  go_ret
  refine ⟨by simp,⟨S',HX.out.setNext (λ h=>(HSub.out m h).elim HM.out (λ h=>by have:=h.1;have:=HLT.out;omega)) rfl,λ x hx=>(HSub.out x hx).imp id (λ h=>⟨h.1,by simpa using h.2⟩)⟩,HK.out.setCell' (λ _=>rfl) _⟩
theorem step_head {err:Int} {M1:Mc} (hn:M.nx=.head) (h:MX w m p S M) (hm:¬S m) (hC:Calls Try.prog 90 #[pV m] w λ e w'=>e=.returned (iV err)/\StX w w' m p S M1) :
  Calls Try.prog 38 #[pV m] w λ e w'=>e=.returned (.bool (decide ((if err=0 then M1 else {M1 with nx:=.done}).nx=.done)))/\StX w w' m p S (if err=0 then M1 else {M1 with nx:=.done}):=by
 obtain ⟨q3,g3,hlt⟩:=h.next
 rw [hn] at q3
 simp only [nvX] at q3
 have HC:=Hd hC
 have HM:Hid (¬S m):=hm
 have HLT:=Hd hlt
 clear hC hm h hn hlt
 have f1:=fne_nil;have f2:=fne_fun;have f3:=feq_nil;have f4:=feq_fun
 unfold pV at *
 by_cases he:err=0
 ·subst he
  rw [if_pos rfl]
  cases h1:M1.nx
  all_goals
   go_enter Try.func38,Try.ntmps38
   go_wp2_with (go_at_call 90;refine HC.out.mono ?_;rintro e w1 ⟨rfl,⟨S',hX,hsub⟩,hk⟩;clear q3 g3;have q3:=hX.next.1;have HX:=Hd hX;have HSub:=Hd hsub;have HK:=Hd hk;clear hX hsub hk;rw [h1] at q3;simp only [nvX] at q3;unfold pV iV at *)
   go_ret
   exact ⟨by simp,⟨S',HX.out,HSub.out⟩,HK.out⟩
 ·rw [if_neg he]
  have hef:(err==0)=false:=by simpa using he
  clear he
  go_enter Try.func38,Try.ntmps38
  have hsn:∀ (a:Addr) (w:World),(store a .nilFunc).run Try.prog w=stored Try.prog w a .nilFunc .plain:=λ a w=>run_store Try.prog w a .nilFunc .plain rfl
  go_wp2_with (go_at_call 90;refine HC.out.mono ?_;rintro e w1 ⟨rfl,⟨S',hX,hsub⟩,hk⟩;clear q3 g3;have q3:=hX.next.1;have g3:=hX.next.2.1;have HX:=Hd hX;have HSub:=Hd hsub;have HK:=Hd hk;clear hX hsub hk;generalize nvX m M1.nx=nv at q3;unfold pV iV at *)
  go_ret
  refine ⟨by simp,⟨S',HX.out.setNext (λ h=>(HSub.out m h).elim HM.out (λ h=>by have:=h.1;have:=HLT.out;omega)) rfl,λ x hx=>(HSub.out x hx).imp id (λ h=>⟨h.1,by simpa using h.2⟩)⟩,HK.out.setCell' (λ _=>rfl) _⟩
theorem step_body {err:Int} {M1:Mc} (hn:M.nx=.body) (h:MX w m p S M) (hm:¬S m) (hC:Calls Try.prog 95 #[pV m] w λ e w'=>e=.returned (iV err)/\StX w w' m p S M1) :
  Calls Try.prog 38 #[pV m] w λ e w'=>e=.returned (.bool (decide ((if err=0 then M1 else {M1 with nx:=.done}).nx=.done)))/\StX w w' m p S (if err=0 then M1 else {M1 with nx:=.done}):=by
 obtain ⟨q3,g3,hlt⟩:=h.next
 rw [hn] at q3
 simp only [nvX] at q3
 have HC:=Hd hC
 have HM:Hid (¬S m):=hm
 have HLT:=Hd hlt
 clear hC hm h hn hlt
 have f1:=fne_nil;have f2:=fne_fun;have f3:=feq_nil;have f4:=feq_fun
 unfold pV at *
 by_cases he:err=0
 ·subst he
  rw [if_pos rfl]
  cases h1:M1.nx
  all_goals
   go_enter Try.func38,Try.ntmps38
   go_wp2_with (go_at_call 95;refine HC.out.mono ?_;rintro e w1 ⟨rfl,⟨S',hX,hsub⟩,hk⟩;clear q3 g3;have q3:=hX.next.1;have HX:=Hd hX;have HSub:=Hd hsub;have HK:=Hd hk;clear hX hsub hk;rw [h1] at q3;simp only [nvX] at q3;unfold pV iV at *)
   go_ret
   exact ⟨by simp,⟨S',HX.out,HSub.out⟩,HK.out⟩
 ·rw [if_neg he]
  have hef:(err==0)=false:=by simpa using he
  clear he
  go_enter Try.func38,Try.ntmps38
  have hsn:∀ (a:Addr) (w:World),(store a .nilFunc).run Try.prog w=stored Try.prog w a .nilFunc .plain:=λ a w=>run_store Try.prog w a .nilFunc .plain rfl
  go_wp2_with (go_at_call 95;refine HC.out.mono ?_;rintro e w1 ⟨rfl,⟨S',hX,hsub⟩,hk⟩;clear q3 g3;have q3:=hX.next.1;have g3:=hX.next.2.1;have HX:=Hd hX;have HSub:=Hd hsub;have HK:=Hd hk;clear hX hsub hk;generalize nvX m M1.nx=nv at q3;unfold pV iV at *)
  go_ret
  refine ⟨by simp,⟨S',HX.out.setNext (λ h=>(HSub.out m h).elim HM.out (λ h=>by have:=h.1;have:=HLT.out;omega)) rfl,λ x hx=>(HSub.out x hx).imp id (λ h=>⟨h.1,by simpa using h.2⟩)⟩,HK.out.setCell' (λ _=>rfl) _⟩
theorem step_valid {err:Int} {M1:Mc} (hn:M.nx=.valid) (h:MX w m p S M) (hm:¬S m) (hC:Calls Try.prog 98 #[pV m] w λ e w'=>e=.returned (iV err)/\StX w w' m p S M1) :
  Calls Try.prog 38 #[pV m] w λ e w'=>e=.returned (.bool (decide ((if err=0 then M1 else {M1 with nx:=.done}).nx=.done)))/\StX w w' m p S (if err=0 then M1 else {M1 with nx:=.done}):=by
 obtain ⟨q3,g3,hlt⟩:=h.next
 rw [hn] at q3
 simp only [nvX] at q3
 have HC:=Hd hC
 have HM:Hid (¬S m):=hm
 have HLT:=Hd hlt
 clear hC hm h hn hlt
 have f1:=fne_nil;have f2:=fne_fun;have f3:=feq_nil;have f4:=feq_fun
 unfold pV at *
 by_cases he:err=0
 ·subst he
  rw [if_pos rfl]
  cases h1:M1.nx
  all_goals
   go_enter Try.func38,Try.ntmps38
   go_wp2_with (go_at_call 98;refine HC.out.mono ?_;rintro e w1 ⟨rfl,⟨S',hX,hsub⟩,hk⟩;clear q3 g3;have q3:=hX.next.1;have HX:=Hd hX;have HSub:=Hd hsub;have HK:=Hd hk;clear hX hsub hk;rw [h1] at q3;simp only [nvX] at q3;unfold pV iV at *)
   go_ret
   exact ⟨by simp,⟨S',HX.out,HSub.out⟩,HK.out⟩
 ·rw [if_neg he]
  have hef:(err==0)=false:=by simpa using he
  clear he
  go_enter Try.func38,Try.ntmps38
  have hsn:∀ (a:Addr) (w:World),(store a .nilFunc).run Try.prog w=stored Try.prog w a .nilFunc .plain:=λ a w=>run_store Try.prog w a .nilFunc .plain rfl
  go_wp2_with (go_at_call 98;refine HC.out.mono ?_;rintro e w1 ⟨rfl,⟨S',hX,hsub⟩,hk⟩;clear q3 g3;have q3:=hX.next.1;have g3:=hX.next.2.1;have HX:=Hd hX;have HSub:=Hd hsub;have HK:=Hd hk;clear hX hsub hk;generalize nvX m M1.nx=nv at q3;unfold pV iV at *)
  go_ret
  refine ⟨by simp,⟨S',HX.out.setNext (λ h=>(HSub.out m h).elim HM.out (λ h=>by have:=h.1;have:=HLT.out;omega)) rfl,λ x hx=>(HSub.out x hx).imp id (λ h=>⟨h.1,by simpa using h.2⟩)⟩,HK.out.setCell' (λ _=>rfl) _⟩
theorem step_done (hn:M.nx=.done) (h:MX w m p S M):Calls Try.prog 38 #[pV m] w λ e w'=>e=.returned (.bool true)/\StX w w' m p S M:=by
 obtain ⟨q3,g3,hlt⟩:=h.next
 rw [hn] at q3
 simp only [nvX] at q3
 have HX:=Hd h
 clear h
 unfold pV
 have f1:=fne_nil;have f2:=fne_fun;have f3:=feq_nil;have f4:=feq_fun
 go_enter Try.func38,Try.ntmps38
 go_wp2
 go_ret
 exact ⟨rfl,⟨S,HX.out,λ x h=>.inl h⟩,Keeps.refl _ _⟩
theorem stepX_ (hJ:JX w G Φ p A) (hG:¬G m) (h:MX w m p S M) (hm:¬S m) (hlow:M.low):Calls Try.prog 38 #[pV m] w λ e w'=>e=.returned (.bool (decide ((stepM A M).nx=.done)))/\StX w w' m p S (stepM A M):=by
 unfold stepM
 split
 ·rename_i hn
  have:=step_done hn h
  simpa [hn] using this
 ·rename_i hn;have:=step_root hn h hm (rootX hJ hG h hm);simpa using this
 ·rename_i hn;exact step_latch hn h hm (latchX hJ hG h hm)
 ·rename_i hn;exact step_head hn h hm (hbX.1 hJ hG h hm)
 ·rename_i hn;exact step_body hn h hm (hbX.2 hJ hG h hm)
 ·rename_i hn
  have:=step_valid hn h hm (validX_ hJ hG h hm hlow)
  by_cases c:opErr A M.id=0
  ·simpa [c] using this
  ·simpa [c] using this
end
section
variable {w:World} {G S:Nat->Prop} {b p q m:Nat} {A B:Ar} {M:Mc}
end
def Mc.outId (M:Mc):Int:=if M.there then M.id else 0
def Mc.outWord (M:Mc):Nat:=if M.there then M.word else 0
def Mc.outNd (M:Mc):Nd:=if M.there then M.nd else Nd.zero
section
variable {w:World} {G S:Nat->Prop} {b p q m:Nat} {A B:Ar} {M:Mc} {v:Value} {key:List UInt8} {level:Int}
theorem newX (hv:Byts w S v key) (hz:Sm 0 1 key.length):Calls Try.prog 37 #[pV p,v,iV level] w λ e w'=>∃ m,e=.returned (pV m)/\Fresh w w' m/\MX w' m p (λ x=>Fresh w w' x/\x≠m) (Mc.new key level)/\Keeps Nob w w':=by
 have HC:=Hd (cloneB hv hz)
 clear hv hz
 have hmf:∀ (fn:Fn) (first cap:Array Value) (w:World),(Instr.makeFunc fn first cap).run Try.prog w=.ok (.func fn first cap) w:=λ _ _ _ _=>rfl
 have hsf:∀ (a:Addr) (fn:Fn) (first cap:Array Value) (w:World),(store a (.func fn first cap)).run Try.prog w=stored Try.prog w a (.func fn first cap) .plain:=λ a fn f c w=>run_store Try.prog w a (.func fn f c) .plain rfl
 unfold pV iV
 go_enter Try.func37,Try.ntmps37
 go_wp2_with (go_at_call 18;refine HC.out.mono ?_;rintro e w1 ⟨v1,rfl,hO,hk⟩;obtain ⟨B1,d1,hf⟩:=hO.form;subst hf;have HO:=Hd hO;have HK:=Hd hk;clear hO hk)
 refine post_at (λ w2 hw=>?_)
 go_ret
 have hb:Blk w2 w1.heap.size 132 #[pV p,.slice B1 key.length d1,iV level,.func (.func 61) #[pV w1.heap.size] #[],iV 0,.int .u64 0,iV 0,.slice none 0 0,iV 0,.slice none 0 0,.slice none 0 0,.slice none 0 0,.bool false,iV 0,iV 0]:=by rw [hw];exact Blk.new _ _ _
 have hk:Keeps Nob w1 w2:=by rw [hw];exact Keeps.alloc Nob _ _
 have s1:=HK.out.size
 have s2:=hk.size
 have s3:=hb.lt
 refine ⟨w1.heap.size,rfl,⟨s1,s3⟩,⟨⟨_,_,_,_,_,_,_,hb,?_,IsNd.zero _ _⟩,by show U64 0;unfold U64;decide,sm_zero⟩,HK.out.trans hk (λ _ _ h=>h)⟩
 exact (HO.out.r.keeps hk (λ _ _ _=>id)).mono (λ x _ hx=>⟨⟨hx.1,Nat.lt_of_lt_of_le hx.2 s2⟩,λ e=>by have h1:=hx.2;omega⟩)
theorem atX0 (h:MX w m p S M) (ht:M.there=false):Calls Try.prog 39 #[pV m] w λ e w'=>∃ d0 d1 d2 d3 d4 d5,e=.returned (.tuple #[iV (0),.int .u64 0,.agg #[d0,d1,d2,d3,d4,d5]])/\ONd w' (Fresh w w') d0 d1 d2 d3 d4 d5 (Nd.zero)/\Keeps Nob w w':=by
 obtain ⟨⟨kv,c0,c1,c2,c3,c4,c5,hb,hk,hn⟩,hu,hs⟩:=h
 obtain ⟨KA,kc,ek,_,_⟩:=hk.form
 obtain ⟨X1,k1,e1,_,_⟩:=hn.1.high.form
 obtain ⟨X3,k3,e3,_,_⟩:=hn.2.keys.form
 obtain ⟨X4,k4,e4,_,_⟩:=hn.2.vals.form
 obtain ⟨X5,k5,e5,_,_⟩:=hn.2.kids.form
 have e0:=hn.1.lvl
 have e2:=hn.1.right
 unfold iV at e0 e2
 subst ek e0 e1 e2 e3 e4 e5
 have HB:=Hd hb
 have HN:=Hd hn
 have HS:Hid (NdSm 0 M.nd):=hs
 have HLT:=Hd hb.lt
 clear hb hk hn hu hs
 unfold pV
 have q12:=HB.out.cell 12
 have l12:=HLT.out
 rw [ht] at q12
 clear ht
 unfold pV iV at q12
 go_enter Try.func39,Try.ntmps39
 go_wp2
 refine post_at (λ w2 hw=>?_)
 have hb:Blk w2 w.heap.size 75 #[.int .i64 0,.slice none 0 0,.int .i64 0,.slice none 0 0,.slice none 0 0,.slice none 0 0]:=by rw [hw];exact Blk.new _ _ _
 have hk:Keeps Nob w w2:=by rw [hw];exact Keeps.alloc Nob _ _
 clear hw q12
 have r0:=hb.cell 0
 have r1:=hb.cell 1
 have r2:=hb.cell 2
 have r3:=hb.cell 3
 have r4:=hb.cell 4
 have r5:=hb.cell 5
 exact bodyPost_ret (v:=.tuple #[.int .i64 0,.int .u64 0,.agg #[.int .i64 0,.slice none 0 0,.int .i64 0,.slice none 0 0,.slice none 0 0,.slice none 0 0]]) (by simp [results,Try.results39,go_sem,r0,r1,r2,r3,r4,r5]) rfl ⟨_,_,_,_,_,_,rfl,ONd.zero _ _,hk⟩
theorem atX1 (h:MX w m p S M) (ht:M.there=true):Calls Try.prog 39 #[pV m] w λ e w'=>∃ d0 d1 d2 d3 d4 d5,e=.returned (.tuple #[iV (M.id),.int .u64 M.word,.agg #[d0,d1,d2,d3,d4,d5]])/\ONd w' (Fresh w w') d0 d1 d2 d3 d4 d5 (M.nd)/\Keeps Nob w w':=by
 obtain ⟨⟨kv,c0,c1,c2,c3,c4,c5,hb,hk,hn⟩,hu,hs⟩:=h
 obtain ⟨KA,kc,ek,_,_⟩:=hk.form
 obtain ⟨X1,k1,e1,_,_⟩:=hn.1.high.form
 obtain ⟨X3,k3,e3,_,_⟩:=hn.2.keys.form
 obtain ⟨X4,k4,e4,_,_⟩:=hn.2.vals.form
 obtain ⟨X5,k5,e5,_,_⟩:=hn.2.kids.form
 have e0:=hn.1.lvl
 have e2:=hn.1.right
 unfold iV at e0 e2
 subst ek e0 e1 e2 e3 e4 e5
 have HB:=Hd hb
 have HN:=Hd hn
 have HS:Hid (NdSm 0 M.nd):=hs
 have HLT:=Hd hb.lt
 clear hb hk hn hu hs
 unfold pV
 have q12:=HB.out.cell 12
 have l12:=HLT.out
 rw [ht] at q12
 clear ht
 unfold pV iV at q12
 go_enter Try.func39,Try.ntmps39
 go_wp2_with fail
 clear q12 l12
 refine code_at (λ w1 hw=>?_)
 have hk:Keeps Nob w w1:=by rw [hw];exact Keeps.alloc Nob _ _
 have BR:Hid (Blk w1 w.heap.size 75 #[.int .i64 0,.slice none 0 0,.int .i64 0,.slice none 0 0,.slice none 0 0,.slice none 0 0]):=by rw [hw];exact Blk.new _ _ _
 clear hw
 replace HB:=Hd (HB.out.keeps hk id)
 replace HN:=Hd (HN.out.keeps hk (λ _ _ _=>id))
 have K:=Hd hk
 clear hk
 refine rC_ [0,1,2,3,4,5,6,7,8,9,10,11,12,13,14,15] 15 (λ W=>W.cell? ⟨m,4,none⟩=some (.int .i64 M.id)/\W.cell? ⟨m,5,none⟩=some (.int .u64 M.word)/\W.cell? ⟨m,6,none⟩=some (.int .i64 M.nd.lvl)/\W.cell? ⟨m,7,none⟩=some (.slice X1 M.nd.high.length k1)/\W.cell? ⟨m,8,none⟩=some (.int .i64 M.nd.right)/\W.cell? ⟨m,9,none⟩=some (.slice X3 M.nd.keys.length k3)/\W.cell? ⟨m,10,none⟩=some (.slice X4 M.nd.vals.length k4)/\W.cell? ⟨m,11,none⟩=some (.slice X5 M.nd.kids.length k5)) ?_ ?_
 ·exact ⟨HB.out.cell 4,HB.out.cell 5,HB.out.cell 6,HB.out.cell 7,HB.out.cell 8,HB.out.cell 9,HB.out.cell 10,HB.out.cell 11⟩
 refine canon_at (λ w2 hw=>?_)
 have hk:Keeps Nob w1 w2:=by rw [hw];exact Keeps.drew _ _
 clear hw
 replace HB:=Hd (HB.out.keeps hk id)
 replace BR:=Hd (BR.out.keeps hk id)
 replace HN:=Hd (HN.out.keeps hk (λ _ _ _=>id))
 replace K:=tq_ K hk
 clear hk
 iterate 12
  refine cR_ (v:=?_) rfl ?_ ?_
  rotate_left
  ·intro W hW
   try (obtain ⟨h1,h2,h3,h4,h5,h6,h7,h8⟩:_/\_/\_/\_/\_/\_/\_/\_:=hW)
   go_simp
   try rfl
  simp only [Act.put,sa_,sb_,sc_]
 refine cA_ rfl ?_
 go_wp2_with (go_at_call 34;refine (cloneP HN.out HS.out).mono ?_;rintro e w3 ⟨d0,d1,d2,d3,d4,d5,rfl,hO,hk,_⟩)
 obtain ⟨D1,j1,f1⟩:=Own.form hO.1.high
 obtain ⟨D3,j3,f3⟩:=OTx.form hO.2.keys
 obtain ⟨D4,j4,f4⟩:=OTx.form hO.2.vals
 obtain ⟨D5,j5,f5⟩:=Own.form hO.2.kids
 have f0:=hO.1.lvl
 have f2:=hO.1.right
 unfold iV at f0 f2
 subst f0 f1 f2 f3 f4 f5
 have sz:=K.out.size
 have lr:=BR.out.lt
 replace HB:=Hd (HB.out.keeps hk id)
 replace BR:=Hd (BR.out.keeps hk id)
 replace K:=tq_ K hk
 have HO:Hid (ONd w3 (λ x=>Fresh w w3 x/\x≠w.heap.size) (.int .i64 M.nd.lvl) (.slice D1 M.nd.high.length j1) (.int .i64 M.nd.right) (.slice D3 M.nd.keys.length j3) (.slice D4 M.nd.vals.length j4) (.slice D5 M.nd.kids.length j5) M.nd):=hO.mono (λ x _ hx=>⟨⟨Nat.le_trans sz hx.1,hx.2⟩,λ e=>by have:=hx.1;omega⟩)
 clear hO hk sz lr HN
 refine ⟨.inr ⟨HB.out.cell 4,HB.out.cell 5,HB.out.cell 6,HB.out.cell 7,HB.out.cell 8,HB.out.cell 9,HB.out.cell 10,HB.out.cell 11⟩,?_⟩
 iterate 2
  refine cR_ (v:=?_) rfl ?_ ?_
  rotate_left
  ·intro W hW
   try (obtain ⟨h1,h2,h3,h4,h5,h6,h7,h8⟩:_/\_/\_/\_/\_/\_/\_/\_:=hW)
   go_simp
   try rfl
  simp only [Act.put,sa_,sb_,sc_]
 refine cA_ rfl ?_
 have q0:=BR.out.cell 0
 have g0:=BR.out.frozen 0
 have q1:=BR.out.cell 1
 have g1:=BR.out.frozen 1
 have q2:=BR.out.cell 2
 have g2:=BR.out.frozen 2
 have q3:=BR.out.cell 3
 have g3:=BR.out.frozen 3
 have q4:=BR.out.cell 4
 have g4:=BR.out.frozen 4
 have q5:=BR.out.cell 5
 have g5:=BR.out.frozen 5
 go_wp2
 clear q0 g0 q1 g1 q2 g2 q3 g3 q4 g4 q5 g5
 refine ⟨.inl (by kernel_rfl),?_⟩
 refine wpCanon_nil ?_
 go_wp2
 refine post_at (λ w4 hw=>?_)
 have hb:Blk w4 w.heap.size 75 #[.int .i64 M.nd.lvl,.slice D1 M.nd.high.length j1,.int .i64 M.nd.right,.slice D3 M.nd.keys.length j3,.slice D4 M.nd.vals.length j4,.slice D5 M.nd.kids.length j5]:=by rw [hw];exact (((((BR.out.set_ 0 _).set_ 1 _).set_ 2 _).set_ 3 _).set_ 4 _).set_ 5 _
 have hk:Keeps (λ x=>x=w.heap.size) w3 w4:=by rw [hw];exact (((((Keeps.setCell w3 (M:=λ b=>b=w.heap.size) rfl _).setCell' (λ _=>rfl) _).setCell' (λ _=>rfl) _).setCell' (λ _=>rfl) _).setCell' (λ _=>rfl) _).setCell' (λ _=>rfl) _
 clear hw
 have r0:=hb.cell 0
 have r1:=hb.cell 1
 have r2:=hb.cell 2
 have r3:=hb.cell 3
 have r4:=hb.cell 4
 have r5:=hb.cell 5
 have s3:=hk.size
 exact bodyPost_ret (v:=.tuple #[.int .i64 M.id,.int .u64 M.word,.agg #[.int .i64 M.nd.lvl,.slice D1 M.nd.high.length j1,.int .i64 M.nd.right,.slice D3 M.nd.keys.length j3,.slice D4 M.nd.vals.length j4,.slice D5 M.nd.kids.length j5]]) (by simp [results,Try.results39,go_sem,r0,r1,r2,r3,r4,r5]) rfl ⟨_,_,_,_,_,_,rfl,(HO.out.keeps hk (λ x _ hx e=>hx.2 e)).mono (λ x _ hx=>⟨hx.1.1,Nat.lt_of_lt_of_le hx.1.2 s3⟩),K.out.trans hk (λ x hx e=>by have h:x=_:=e;omega)⟩
theorem atX (h:MX w m p S M):Calls Try.prog 39 #[pV m] w λ e w'=>∃ d0 d1 d2 d3 d4 d5,e=.returned (.tuple #[iV M.outId,.int .u64 M.outWord,.agg #[d0,d1,d2,d3,d4,d5]])/\ONd w' (Fresh w w') d0 d1 d2 d3 d4 d5 M.outNd/\Keeps Nob w w':=by
 cases ht:M.there
 ·have:=atX0 h ht
  simpa [Mc.outId,Mc.outWord,Mc.outNd,ht] using this
 ·have:=atX1 h ht
  simpa [Mc.outId,Mc.outWord,Mc.outNd,ht] using this
end
end Go.Proofs.Ytjcgphhpaenjkaa

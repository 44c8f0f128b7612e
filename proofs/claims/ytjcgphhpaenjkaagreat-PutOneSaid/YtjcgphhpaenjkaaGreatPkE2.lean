import Derived.Test.YtjcgphhpaenjkaaGreatPkA5
import Derived.WalkLawsBesides
import Derived.Deep.Cut
import Derived.Test.YtjcgphhpaenjkaaGreatPkE1
import Derived.Test.YtjcgphhpaenjkaaGreatPkD5
import Derived.Test.YtjcgphhpaenjkaaGreatPkA7
set_option linter.unusedVariables false
namespace Go.Proofs.YtjcgphhpaenjkaaGreat
open Go.RowKit
def wrongV (id err:Int):Value:=.iface 207 (.agg #[.int .i64 id,.int .i64 err])
theorem needOk (w:World) (id err:Int):Calls Tryz.prog 187 #[.bool true,.int .i64 id,.int .i64 err] w λ e w'=>e=.returned (.tuple #[])/\w'=w:=by
 go_enter Tryz.func187,Tryz.ntmps187
 go_wp2
 exact ⟨rfl,_,results_none rfl _ _ _,rfl,rfl⟩
theorem needNo (w:World) (id err:Int):Calls Tryz.prog 187 #[.bool false,.int .i64 id,.int .i64 err] w λ e w'=>e=.panicked [{v:=wrongV id err,recovered:=false}]/\w'=w:=by
 unfold wrongV
 go_enter Tryz.func187,Tryz.ntmps187
 go_wp2
 exact ⟨rfl,rfl,rfl⟩
section
variable {w:World} {M D:Nat->Prop} {p:Nat} {slots:Value} {ids:List Nat} {A:Ar} {ix:Int}
theorem opErr_is (A:Ar) (ix:Int):(opErr A ix=0/\(A.get ix).isSome=true)\/(opErr A ix=101/\(A.get ix).isSome=false):=by
 rcases hg:A.get ix with _|s
 ·exact .inr ⟨opErr_none hg,rfl⟩
 ·exact .inl ⟨opErr_some hg,rfl⟩
theorem readO (h:ArW w M D p slots ids A) (hsm:∀ s ∈ A.sl,NdSm 0 s.nd):Calls Tryz.prog 75 #[pV p,.int .i64 ix] w λ e w'=>∃ X1 k1 X3 k3 X4 k4 X5 k5,e=.returned (.tuple #[.agg #[.int .i64 (opNd A ix).lvl,.slice X1 (opNd A ix).high.length k1,.int .i64 (opNd A ix).right,.slice X3 (opNd A ix).keys.length k3,.slice X4 (opNd A ix).vals.length k4,.slice X5 (opNd A ix).kids.length k5],.bool (A.get ix).isSome])/\ONd w' (Fresh w w') (.int .i64 (opNd A ix).lvl) (.slice X1 (opNd A ix).high.length k1) (.int .i64 (opNd A ix).right) (.slice X3 (opNd A ix).keys.length k3) (.slice X4 (opNd A ix).vals.length k4) (.slice X5 (opNd A ix).kids.length k5) (opNd A ix)/\Keeps Nob w w':=by
 have H:=Hd h
 have HS:=Hd hsm
 clear h hsm
 have FH:=λ wx (h:ArW wx M D p slots ids A)=>headX (ix:=ix) h HS.out
 have FB:=λ wx (h:ArW wx M D p slots ids A)=>bodyX (ix:=ix) h HS.out
 unfold pV iV at FH FB
 rcases opErr_is A ix with ⟨h1,h2⟩|⟨h1,h2⟩<;>rw [h2]<;>rw [h1] at FH FB<;>clear h1 h2
 ·go_enter Tryz.func75,Tryz.ntmps75
  go_wp2_with fail
  obtain ⟨P,hP⟩:∃ N,w.heap.size=N:=⟨_,rfl⟩
  rw [hP]
  refine calls_at (λ w1 hw=>?_)
  have k1:Keeps Nob w w1:=by rw [hw];exact Keeps.alloc _ _ _
  have HB:Hid (Blk w1 P 95 #[.int .i64 0,.slice none 0 0,.int .i64 0,.slice none 0 0,.slice none 0 0,.slice none 0 0]):=by rw [hw,<-hP];exact Hd (Blk.new _ _ _)
  have hlt:=HB.out.lt
  clear hw
  refine (FH _ (H.out.keeps k1 (λ _ _ _ h=>h) (λ _ _ _ h=>h))).mono ?_
  rintro e w2 ⟨d0,d1,d2,rfl,hh,k2⟩
  replace HB:=Hd (HB.out.keeps k2 (λ h=>h))
  have HH:=Hd hh
  have K:=Hd (k1.trans k2 (λ _ _ h=>h))
  have HP:=Hd (And.intro hlt (And.intro k1.size k2.size))
  clear hh k1 k2 hlt
  obtain ⟨X1,k1,e1⟩:=Own.form HH.out.high
  have e0:=HH.out.lvl
  have e2:=HH.out.right
  unfold iV at e0 e2
  subst e0 e1 e2
  have f0:=((Blk.new w2 90 #[.int .i64 0,.slice none 0 0,.int .i64 0])).frozen 0
  have z0:=((Blk.new w2 90 #[.int .i64 0,.slice none 0 0,.int .i64 0])).cell 0
  have f1:=λ (v0:Value)=>(((Blk.new w2 90 #[.int .i64 0,.slice none 0 0,.int .i64 0])).set_ 0 v0).frozen 1
  have z1:=λ (v0:Value)=>(((Blk.new w2 90 #[.int .i64 0,.slice none 0 0,.int .i64 0])).set_ 0 v0).cell 1
  have f2:=λ (v0 v1:Value)=>((((Blk.new w2 90 #[.int .i64 0,.slice none 0 0,.int .i64 0])).set_ 0 v0).set_ 1 v1).frozen 2
  have z2:=λ (v0 v1:Value)=>((((Blk.new w2 90 #[.int .i64 0,.slice none 0 0,.int .i64 0])).set_ 0 v0).set_ 1 v1).cell 2
  go_wp2_with fail
  clear f0 z0 f1 z1 f2 z2
  obtain ⟨Q,hQ⟩:∃ N,w2.heap.size=N:=⟨_,rfl⟩
  rw [hQ]
  refine calls_at (λ w3 hw=>?_)
  have k2:Keeps Nob w2 w3:=by rw [hw];exact Keeps.alloc _ _ _
  have HC:Hid (Blk w3 Q 90 #[.int .i64 (opNd A ix).lvl,.slice X1 (opNd A ix).high.length k1,.int .i64 (opNd A ix).right]):=by rw [hw,<-hQ];exact Hd (Blk.new _ _ _)
  clear hw
  replace K:=Hd (K.out.trans k2 (λ _ _ h=>h))
  refine (FB _ (H.out.keeps K.out (λ _ _ _ h=>h) (λ _ _ _ h=>h))).mono ?_
  rintro e w4 ⟨d3,d4,d5,rfl,hh,k3⟩
  replace HB:=Hd ((HB.out.keeps k2 (λ h=>h)).keeps k3 (λ h=>h))
  replace HC:=Hd (HC.out.keeps k3 (λ h=>h))
  have HE:=Hd hh
  have HS2:=Hd (And.intro (And.intro k2.size k3.size) hQ)
  replace HH:=Hd (And.intro HH.out (k2.trans k3 (λ _ _ h=>h)))
  replace K:=Hd (K.out.trans k3 (λ _ _ h=>h))
  clear hh k2 k3 hQ
  obtain ⟨X3,k3,e3⟩:=Own.form HE.out.keys.choose_spec.1
  obtain ⟨X4,k4,e4⟩:=Own.form HE.out.vals.choose_spec.1
  obtain ⟨X5,k5,e5⟩:=Own.form HE.out.kids
  subst e3 e4 e5
  have f0:=((Blk.new w4 93 #[.slice none 0 0,.slice none 0 0,.slice none 0 0])).frozen 0
  have z0:=((Blk.new w4 93 #[.slice none 0 0,.slice none 0 0,.slice none 0 0])).cell 0
  have f1:=λ (v0:Value)=>(((Blk.new w4 93 #[.slice none 0 0,.slice none 0 0,.slice none 0 0])).set_ 0 v0).frozen 1
  have z1:=λ (v0:Value)=>(((Blk.new w4 93 #[.slice none 0 0,.slice none 0 0,.slice none 0 0])).set_ 0 v0).cell 1
  have f2:=λ (v0 v1:Value)=>((((Blk.new w4 93 #[.slice none 0 0,.slice none 0 0,.slice none 0 0])).set_ 0 v0).set_ 1 v1).frozen 2
  have z2:=λ (v0 v1:Value)=>((((Blk.new w4 93 #[.slice none 0 0,.slice none 0 0,.slice none 0 0])).set_ 0 v0).set_ 1 v1).cell 2
  go_upto_region 3 with (fail)
  clear f0 z0 f1 z1 f2 z2
  obtain ⟨R,hR⟩:∃ N,w4.heap.size=N:=⟨_,rfl⟩
  rw [hR]
  refine code_at (λ w5 hw=>?_)
  have k6:Keeps Nob w4 w5:=by rw [hw];exact Keeps.alloc _ _ _
  have HD:Hid (Blk w5 R 93 #[.slice X3 (opNd A ix).keys.length k3,.slice X4 (opNd A ix).vals.length k4,.slice X5 (opNd A ix).kids.length k5]):=by rw [hw,<-hR];exact Hd (Blk.new _ _ _)
  clear hw hR
  replace HB:=Hd (HB.out.keeps k6 (λ h=>h))
  replace HC:=Hd (HC.out.keeps k6 (λ h=>h))
  have HN:Hid (ONd w5 (Fresh w1 w5) (.int .i64 (opNd A ix).lvl) (.slice X1 (opNd A ix).high.length k1) (.int .i64 (opNd A ix).right) (.slice X3 (opNd A ix).keys.length k3) (.slice X4 (opNd A ix).vals.length k4) (.slice X5 (opNd A ix).kids.length k5) (opNd A ix)):=by
   have s1:=HS2.out.1.1
   have s2:=HS2.out.1.2
   have s3:=HP.out.2.2
   have s4:=k6.size
   exact Hd ⟨(((HH.out.1.keeps HH.out.2 (λ _ _ _ h=>h)).keeps k6 (λ _ _ _ h=>h)).mono (λ b _ hb=>⟨hb.1,by have:=hb.2;omega⟩)),((HE.out.keeps k6 (λ _ _ _ h=>h)).mono (λ b _ hb=>⟨by have:=hb.1;omega,by have:=hb.2;omega⟩))⟩
  replace K:=Hd (K.out.trans k6 (λ _ _ h=>h))
  clear k6
  have f0:=(HB.out).frozen 0
  have z0:=(HB.out).cell 0
  have f1:=λ (v0:Value)=>((HB.out).set_ 0 v0).frozen 1
  have z1:=λ (v0:Value)=>((HB.out).set_ 0 v0).cell 1
  have f2:=λ (v0 v1:Value)=>(((HB.out).set_ 0 v0).set_ 1 v1).frozen 2
  have z2:=λ (v0 v1:Value)=>(((HB.out).set_ 0 v0).set_ 1 v1).cell 2
  have f3:=λ (v0 v1 v2:Value)=>((((HB.out).set_ 0 v0).set_ 1 v1).set_ 2 v2).frozen 3
  have z3:=λ (v0 v1 v2:Value)=>((((HB.out).set_ 0 v0).set_ 1 v1).set_ 2 v2).cell 3
  have f4:=λ (v0 v1 v2 v3:Value)=>(((((HB.out).set_ 0 v0).set_ 1 v1).set_ 2 v2).set_ 3 v3).frozen 4
  have z4:=λ (v0 v1 v2 v3:Value)=>(((((HB.out).set_ 0 v0).set_ 1 v1).set_ 2 v2).set_ 3 v3).cell 4
  have f5:=λ (v0 v1 v2 v3 v4:Value)=>((((((HB.out).set_ 0 v0).set_ 1 v1).set_ 2 v2).set_ 3 v3).set_ 4 v4).frozen 5
  have z5:=λ (v0 v1 v2 v3 v4:Value)=>((((((HB.out).set_ 0 v0).set_ 1 v1).set_ 2 v2).set_ 3 v3).set_ 4 v4).cell 5
  have r0:=(HC.out).cell 0
  have r1:=(HC.out).cell 1
  have r2:=(HC.out).cell 2
  have t0:=(HD.out).cell 0
  have t1:=(HD.out).cell 1
  have t2:=(HD.out).cell 2
  go_wp2
  clear f0 z0 f1 z1 f2 z2 f3 z3 f4 z4 f5 z5
  clear r0 t0 r1 t1 r2 t2
  refine post_at (λ w6 hw=>?_)
  have k7:Keeps (λ x=>x=P) w5 w6:=by rw [hw];exact (((((Keeps.setCell _ (M:=λ x=>x=P) rfl _).setCell' (λ _=>rfl) _).setCell' (λ _=>rfl) _).setCell' (λ _=>rfl) _).setCell' (λ _=>rfl) _).setCell' (λ _=>rfl) _
  have hB:Blk w6 P 95 #[.int .i64 (opNd A ix).lvl,.slice X1 (opNd A ix).high.length k1,.int .i64 (opNd A ix).right,.slice X3 (opNd A ix).keys.length k3,.slice X4 (opNd A ix).vals.length k4,.slice X5 (opNd A ix).kids.length k5]:=by rw [hw];exact (((((HB.out.set_ 0 _).set_ 1 _).set_ 2 _).set_ 3 _).set_ 4 _).set_ 5 _
  clear hw
  have s0:=(hB).cell 0
  have s1:=(hB).cell 1
  have s2:=(hB).cell 2
  have s3:=(hB).cell 3
  have s4:=(hB).cell 4
  have s5:=(hB).cell 5
  refine bodyPost_ret (v:=.tuple #[.agg #[.int .i64 (opNd A ix).lvl,.slice X1 (opNd A ix).high.length k1,.int .i64 (opNd A ix).right,.slice X3 (opNd A ix).keys.length k3,.slice X4 (opNd A ix).vals.length k4,.slice X5 (opNd A ix).kids.length k5],.bool true]) (by simp [results,Tryz.results75,go_sem,s0,s1,s2,s3,s4,s5]) rfl ⟨_,_,_,_,_,_,_,_,rfl,(HN.out.keeps k7 (λ x _ hx e=>by have h1:=hx.1;have h2:=HP.out.1;have e2:x=P:=e;omega)).mono (λ x _ hx=>⟨by have h1:=hx.1;have h2:=HP.out.2.1;omega,by have h1:=hx.2;have h2:=k7.size;omega⟩),K.out.trans k7 (λ x hx e=>by have e2:x=P:=e;have h:=HP.out;omega)⟩
 ·go_enter Tryz.func75,Tryz.ntmps75
  go_wp2_with fail
  obtain ⟨P,hP⟩:∃ N,w.heap.size=N:=⟨_,rfl⟩
  rw [hP]
  refine calls_at (λ w1 hw=>?_)
  have k1:Keeps Nob w w1:=by rw [hw];exact Keeps.alloc _ _ _
  have HB:Hid (Blk w1 P 95 #[.int .i64 0,.slice none 0 0,.int .i64 0,.slice none 0 0,.slice none 0 0,.slice none 0 0]):=by rw [hw,<-hP];exact Hd (Blk.new _ _ _)
  have hlt:=HB.out.lt
  clear hw
  refine (FH _ (H.out.keeps k1 (λ _ _ _ h=>h) (λ _ _ _ h=>h))).mono ?_
  rintro e w2 ⟨d0,d1,d2,rfl,hh,k2⟩
  replace HB:=Hd (HB.out.keeps k2 (λ h=>h))
  have HH:=Hd hh
  have K:=Hd (k1.trans k2 (λ _ _ h=>h))
  have HP:=Hd (And.intro hlt (And.intro k1.size k2.size))
  clear hh k1 k2 hlt
  obtain ⟨X1,k1,e1⟩:=Own.form HH.out.high
  have e0:=HH.out.lvl
  have e2:=HH.out.right
  unfold iV at e0 e2
  subst e0 e1 e2
  have f0:=((Blk.new w2 90 #[.int .i64 0,.slice none 0 0,.int .i64 0])).frozen 0
  have z0:=((Blk.new w2 90 #[.int .i64 0,.slice none 0 0,.int .i64 0])).cell 0
  have f1:=λ (v0:Value)=>(((Blk.new w2 90 #[.int .i64 0,.slice none 0 0,.int .i64 0])).set_ 0 v0).frozen 1
  have z1:=λ (v0:Value)=>(((Blk.new w2 90 #[.int .i64 0,.slice none 0 0,.int .i64 0])).set_ 0 v0).cell 1
  have f2:=λ (v0 v1:Value)=>((((Blk.new w2 90 #[.int .i64 0,.slice none 0 0,.int .i64 0])).set_ 0 v0).set_ 1 v1).frozen 2
  have z2:=λ (v0 v1:Value)=>((((Blk.new w2 90 #[.int .i64 0,.slice none 0 0,.int .i64 0])).set_ 0 v0).set_ 1 v1).cell 2
  go_wp2_with fail
  clear f0 z0 f1 z1 f2 z2
  obtain ⟨Q,hQ⟩:∃ N,w2.heap.size=N:=⟨_,rfl⟩
  rw [hQ]
  refine calls_at (λ w3 hw=>?_)
  have k2:Keeps Nob w2 w3:=by rw [hw];exact Keeps.alloc _ _ _
  have HC:Hid (Blk w3 Q 90 #[.int .i64 (opNd A ix).lvl,.slice X1 (opNd A ix).high.length k1,.int .i64 (opNd A ix).right]):=by rw [hw,<-hQ];exact Hd (Blk.new _ _ _)
  clear hw
  replace K:=Hd (K.out.trans k2 (λ _ _ h=>h))
  refine (FB _ (H.out.keeps K.out (λ _ _ _ h=>h) (λ _ _ _ h=>h))).mono ?_
  rintro e w4 ⟨d3,d4,d5,rfl,hh,k3⟩
  replace HB:=Hd ((HB.out.keeps k2 (λ h=>h)).keeps k3 (λ h=>h))
  replace HC:=Hd (HC.out.keeps k3 (λ h=>h))
  have HE:=Hd hh
  have HS2:=Hd (And.intro (And.intro k2.size k3.size) hQ)
  replace HH:=Hd (And.intro HH.out (k2.trans k3 (λ _ _ h=>h)))
  replace K:=Hd (K.out.trans k3 (λ _ _ h=>h))
  clear hh k2 k3 hQ
  obtain ⟨X3,k3,e3⟩:=Own.form HE.out.keys.choose_spec.1
  obtain ⟨X4,k4,e4⟩:=Own.form HE.out.vals.choose_spec.1
  obtain ⟨X5,k5,e5⟩:=Own.form HE.out.kids
  subst e3 e4 e5
  have f0:=((Blk.new w4 93 #[.slice none 0 0,.slice none 0 0,.slice none 0 0])).frozen 0
  have z0:=((Blk.new w4 93 #[.slice none 0 0,.slice none 0 0,.slice none 0 0])).cell 0
  have f1:=λ (v0:Value)=>(((Blk.new w4 93 #[.slice none 0 0,.slice none 0 0,.slice none 0 0])).set_ 0 v0).frozen 1
  have z1:=λ (v0:Value)=>(((Blk.new w4 93 #[.slice none 0 0,.slice none 0 0,.slice none 0 0])).set_ 0 v0).cell 1
  have f2:=λ (v0 v1:Value)=>((((Blk.new w4 93 #[.slice none 0 0,.slice none 0 0,.slice none 0 0])).set_ 0 v0).set_ 1 v1).frozen 2
  have z2:=λ (v0 v1:Value)=>((((Blk.new w4 93 #[.slice none 0 0,.slice none 0 0,.slice none 0 0])).set_ 0 v0).set_ 1 v1).cell 2
  go_upto_region 3 with (fail)
  clear f0 z0 f1 z1 f2 z2
  obtain ⟨R,hR⟩:∃ N,w4.heap.size=N:=⟨_,rfl⟩
  rw [hR]
  refine code_at (λ w5 hw=>?_)
  have k6:Keeps Nob w4 w5:=by rw [hw];exact Keeps.alloc _ _ _
  have HD:Hid (Blk w5 R 93 #[.slice X3 (opNd A ix).keys.length k3,.slice X4 (opNd A ix).vals.length k4,.slice X5 (opNd A ix).kids.length k5]):=by rw [hw,<-hR];exact Hd (Blk.new _ _ _)
  clear hw hR
  replace HB:=Hd (HB.out.keeps k6 (λ h=>h))
  replace HC:=Hd (HC.out.keeps k6 (λ h=>h))
  have HN:Hid (ONd w5 (Fresh w1 w5) (.int .i64 (opNd A ix).lvl) (.slice X1 (opNd A ix).high.length k1) (.int .i64 (opNd A ix).right) (.slice X3 (opNd A ix).keys.length k3) (.slice X4 (opNd A ix).vals.length k4) (.slice X5 (opNd A ix).kids.length k5) (opNd A ix)):=by
   have s1:=HS2.out.1.1
   have s2:=HS2.out.1.2
   have s3:=HP.out.2.2
   have s4:=k6.size
   exact Hd ⟨(((HH.out.1.keeps HH.out.2 (λ _ _ _ h=>h)).keeps k6 (λ _ _ _ h=>h)).mono (λ b _ hb=>⟨hb.1,by have:=hb.2;omega⟩)),((HE.out.keeps k6 (λ _ _ _ h=>h)).mono (λ b _ hb=>⟨by have:=hb.1;omega,by have:=hb.2;omega⟩))⟩
  replace K:=Hd (K.out.trans k6 (λ _ _ h=>h))
  clear k6
  have f0:=(HB.out).frozen 0
  have z0:=(HB.out).cell 0
  have f1:=λ (v0:Value)=>((HB.out).set_ 0 v0).frozen 1
  have z1:=λ (v0:Value)=>((HB.out).set_ 0 v0).cell 1
  have f2:=λ (v0 v1:Value)=>(((HB.out).set_ 0 v0).set_ 1 v1).frozen 2
  have z2:=λ (v0 v1:Value)=>(((HB.out).set_ 0 v0).set_ 1 v1).cell 2
  have f3:=λ (v0 v1 v2:Value)=>((((HB.out).set_ 0 v0).set_ 1 v1).set_ 2 v2).frozen 3
  have z3:=λ (v0 v1 v2:Value)=>((((HB.out).set_ 0 v0).set_ 1 v1).set_ 2 v2).cell 3
  have f4:=λ (v0 v1 v2 v3:Value)=>(((((HB.out).set_ 0 v0).set_ 1 v1).set_ 2 v2).set_ 3 v3).frozen 4
  have z4:=λ (v0 v1 v2 v3:Value)=>(((((HB.out).set_ 0 v0).set_ 1 v1).set_ 2 v2).set_ 3 v3).cell 4
  have f5:=λ (v0 v1 v2 v3 v4:Value)=>((((((HB.out).set_ 0 v0).set_ 1 v1).set_ 2 v2).set_ 3 v3).set_ 4 v4).frozen 5
  have z5:=λ (v0 v1 v2 v3 v4:Value)=>((((((HB.out).set_ 0 v0).set_ 1 v1).set_ 2 v2).set_ 3 v3).set_ 4 v4).cell 5
  have r0:=(HC.out).cell 0
  have r1:=(HC.out).cell 1
  have r2:=(HC.out).cell 2
  have t0:=(HD.out).cell 0
  have t1:=(HD.out).cell 1
  have t2:=(HD.out).cell 2
  go_wp2
  clear f0 z0 f1 z1 f2 z2 f3 z3 f4 z4 f5 z5
  clear r0 t0 r1 t1 r2 t2
  refine post_at (λ w6 hw=>?_)
  have k7:Keeps (λ x=>x=P) w5 w6:=by rw [hw];exact (((((Keeps.setCell _ (M:=λ x=>x=P) rfl _).setCell' (λ _=>rfl) _).setCell' (λ _=>rfl) _).setCell' (λ _=>rfl) _).setCell' (λ _=>rfl) _).setCell' (λ _=>rfl) _
  have hB:Blk w6 P 95 #[.int .i64 (opNd A ix).lvl,.slice X1 (opNd A ix).high.length k1,.int .i64 (opNd A ix).right,.slice X3 (opNd A ix).keys.length k3,.slice X4 (opNd A ix).vals.length k4,.slice X5 (opNd A ix).kids.length k5]:=by rw [hw];exact (((((HB.out.set_ 0 _).set_ 1 _).set_ 2 _).set_ 3 _).set_ 4 _).set_ 5 _
  clear hw
  have s0:=(hB).cell 0
  have s1:=(hB).cell 1
  have s2:=(hB).cell 2
  have s3:=(hB).cell 3
  have s4:=(hB).cell 4
  have s5:=(hB).cell 5
  refine bodyPost_ret (v:=.tuple #[.agg #[.int .i64 (opNd A ix).lvl,.slice X1 (opNd A ix).high.length k1,.int .i64 (opNd A ix).right,.slice X3 (opNd A ix).keys.length k3,.slice X4 (opNd A ix).vals.length k4,.slice X5 (opNd A ix).kids.length k5],.bool false]) (by simp [results,Tryz.results75,go_sem,s0,s1,s2,s3,s4,s5]) rfl ⟨_,_,_,_,_,_,_,_,rfl,(HN.out.keeps k7 (λ x _ hx e=>by have h1:=hx.1;have h2:=HP.out.1;have e2:x=P:=e;omega)).mono (λ x _ hx=>⟨by have h1:=hx.1;have h2:=HP.out.2.1;omega,by have h1:=hx.2;have h2:=k7.size;omega⟩),K.out.trans k7 (λ x hx e=>by have e2:x=P:=e;have h:=HP.out;omega)⟩
theorem readX (h:ArW w M D p slots ids A) (hsm:∀ s ∈ A.sl,NdSm 0 s.nd):Calls Tryz.prog 75 #[pV p,.int .i64 ix] w λ e w'=>∃ X1 k1 X3 k3 X4 k4 X5 k5,e=.returned (.tuple #[.agg #[.int .i64 (opNd A ix).lvl,.slice X1 (opNd A ix).high.length k1,.int .i64 (opNd A ix).right,.slice X3 (opNd A ix).keys.length k3,.slice X4 (opNd A ix).vals.length k4,.slice X5 (opNd A ix).kids.length k5],.bool (A.get ix).isSome])/\IsNd w' (Fresh w w') (.int .i64 (opNd A ix).lvl) (.slice X1 (opNd A ix).high.length k1) (.int .i64 (opNd A ix).right) (.slice X3 (opNd A ix).keys.length k3) (.slice X4 (opNd A ix).vals.length k4) (.slice X5 (opNd A ix).kids.length k5) (opNd A ix)/\Keeps Nob w w':=
 (readO h hsm).mono (λ e w' ⟨X1,k1,X3,k3,X4,k4,X5,k5,he,hn,hk⟩=>⟨X1,k1,X3,k3,X4,k4,X5,k5,he,hn.r,hk⟩)
end
end Go.Proofs.YtjcgphhpaenjkaaGreat
namespace Go.Proofs.YtjcgphhpaenjkaaGreat
open Go.RowKit Go.Maps
theorem Tryz.inf_link:(Tryz.prog.info? 212).map (λ i=>(i.zero,i.size,i.bytes))=some (some (.agg #[.int .i64 0,.slice none 0 0,.int .i64 0,.slice none 0 0,.int .i64 0,.slice none 0 0,.slice none 0 0,.slice none 0 0]),8,144):=by kernel_rfl
theorem k64_in {k:Int} (h1:1<=k) (h2:k<=65536):K64 k:=by
 unfold K64 Lit.wf
 rw [Bool.and_eq_true,decide_eq_true_eq,decide_eq_true_eq]
 exact ⟨by rw [show IntKind.i64.min=-9223372036854775808 from rfl];omega,by rw [show IntKind.i64.max=9223372036854775807 from rfl];omega⟩
theorem wpList_partS {P:Program} {ops:Array Oper} {Q:Exit->Act->World->Prop} {l2:List Oper} {N:Act->World->Prop} (hN:∀ a w,N a w->wpList P ops Q l2 a w):∀ (l:List Oper) (a:Act) (w:World),wpList P ops (Behind Q N) l a w->wpList P ops Q (l++l2) a w
 | [],_,_,h=>hN _ _ h
 | o::rest,a,w,h=>by
  rw [List.cons_append]
  simp only [wpList] at h ⊢
  split
  ·rename_i hw
   rw [if_pos hw] at h
   rcases h with h|h
   ·exact .inl (Oper.wp_cut (λ a w h=>wpList_partS hN rest a w h) h)
   ·exact .inr ⟨h.1,letsOut_behind h.2⟩
  ·rename_i hw
   rw [if_neg hw] at h
   exact wpList_partS hN rest _ _ h
theorem wpList_takeS {P:Program} {ops:Array Oper} {Q:Exit->Act->World->Prop} (n:Nat) {l:List Oper} {a:Act} {w:World} (vals:List (Option Tmp × Value)) (F:World->Prop) (h:wpList P ops (Behind Q (λ a' w'=>a'=putsA a vals/\F w')) (l.take n) a w) (he:∀ w',F w'->wpList P ops Q (l.drop n) (putsA a vals) w'):wpList P ops Q l a w:=by
 rw [<-List.take_append_drop n l]
 exact wpList_partS (λ a' w' ⟨e,hf⟩=>by rw [e];exact he w' hf) _ a w h
theorem wpList_eqS {P:Program} {ops:Array Oper} {Q:Exit->Act->World->Prop} {o:Oper} {rest:List Oper} {a:Act} {w:World} (hgd:o.guard=none) (v:Value) (w':World) (hr:(execOp a.eval o).run P w=.ok (.value v) w') (hK:wpList P ops Q rest (a.put o.dst v) w'):wpList P ops Q (o::rest) a w:=by
 refine wpList_plain hgd λ K hK'=>?_
 unfold Oper.wp
 rw [hr]
 exact hK' _ _ hK
theorem build_link (i:Int) (A:Option Addr) (n c:Nat) (lvl hi rt ks vs kd:Value) (w:World):(Instr.build 212 #[(0,.int .i64 i),(1,.slice A n c),(2,.agg #[lvl,hi,rt,ks,vs,kd])]).run Tryz.prog w=.ok (.agg #[.int .i64 i,.slice A n c,lvl,hi,rt,ks,vs,kd]) w:=by
 kernel_rfl
theorem buildSl_link (a b c d e f g h:Value) (w:World):(Instr.buildSlice 210 1 #[(0,.agg #[a,b,c,d,e,f,g,h])]).run Tryz.prog w=.ok (.slice (some ⟨w.heap.size,0,none⟩) 1 1) (w.alloc (.cells #[a,b,c,d,e,f,g,h] 212)):=by
 kernel_rfl
section
variable {ops:Array Oper} {Q:Exit->Act->World->Prop} {o:Oper} {rest:List Oper} {a:Act} {w:World}
theorem wpList_link (hgd:o.guard=none) (x y z:Operand) (ho:o.op=.build 212 #[(0,x),(1,y),(2,z)]) {i:Int} {A:Option Addr} {n c:Nat} {lvl hi rt ks vs kd:Value} (h0:a.eval x=.int .i64 i) (h1:a.eval y=.slice A n c) (h2:a.eval z=.agg #[lvl,hi,rt,ks,vs,kd])
  (hK:wpList Tryz.prog ops Q rest (a.put o.dst (.agg #[.int .i64 i,.slice A n c,lvl,hi,rt,ks,vs,kd])) w):wpList Tryz.prog ops Q (o::rest) a w:=by
 refine wpList_eqS hgd _ w ?_ hK
 unfold execOp
 simp only [ho,List.map_toArray,List.map_cons,List.map_nil,h0,h1,h2,Sem.run_bind,build_link,Result.andThen_ok,Sem.run_pure]
theorem wpList_linkSl (hgd:o.guard=none) (x:Operand) (ho:o.op=.buildSlice 210 1 #[(0,x)]) {c0 c1 c2 c3 c4 c5 c6 c7:Value} (h0:a.eval x=.agg #[c0,c1,c2,c3,c4,c5,c6,c7])
  (hK:wpList Tryz.prog ops Q rest (a.put o.dst (.slice (some ⟨w.heap.size,0,none⟩) 1 1)) (w.alloc (.cells #[c0,c1,c2,c3,c4,c5,c6,c7] 212))):wpList Tryz.prog ops Q (o::rest) a w:=by
 refine wpList_eqS hgd _ _ ?_ hK
 unfold execOp
 simp only [ho,List.map_toArray,List.map_cons,List.map_nil,h0,Sem.run_bind,buildSl_link,Result.andThen_ok,Sem.run_pure]
end
def axOb (M D:Nat->Prop) (p:Nat) (slots:Value) (ids:List Nat) (A:Ar):Ob where
 P:=λ w=>ArW w M D p slots ids A
 F:=λ x=>M x\/D x
 W:=λ _=>False
 fr:=λ _ _ _ h k hd=>h.keeps k (λ x hx hm=>hd x hx (.inl hm)) (λ x hx hm=>hd x hx (.inr hm))
abbrev OwnsI (w:World) (b n:Nat) (D:DataW Unit):Prop:=w.ownsMap Tryz.prog 3 (plainElem (H:=Unit) Tryz.prog 3) b n D
theorem OwnsI.keeps {w w':World} {N:Nat->Prop} {b n:Nat} {D:DataW Unit} (h:OwnsI w b n D) (k:Keeps N w w') (hn:¬N b):OwnsI w' b n D:=by
 obtain ⟨es,c,h1,h2⟩:=h
 exact ⟨es,c,by rw [k.block b (by have:=h1;exact (Array.getElem?_eq_some_iff.1 this).1) hn];exact h1,h2⟩
def metOb (b:Nat) (l:List Int):Ob where
 P:=λ w=>∃ D,Met D l/\OwnsI w b l.length D
 F:=λ x=>x=b
 W:=λ x=>x=b
 fr:=λ w _ _ h k hd=>by
  obtain ⟨D,h1,h2⟩:=h
  exact ⟨D,h1,h2.keeps k (hd b h2.lt rfl)⟩
structure Lk where
 id:Int
 low:List UInt8
 nd:Nd
 lowv:Value
 c1:Value
 c3:Value
 c4:Value
 c5:Value
def Lk.cells (k:Lk):List Value:=[.int .i64 k.id,k.lowv,.int .i64 k.nd.lvl,k.c1,.int .i64 k.nd.right,k.c3,k.c4,k.c5]
def Lk.pr (k:Lk):Int × List UInt8:=(k.id,k.low)
def IsLk (w:World) (D:Nat->Prop) (k:Lk):Prop:=Byts w D k.lowv k.low/\IsNd w D (.int .i64 k.nd.lvl) k.c1 (.int .i64 k.nd.right) k.c3 k.c4 k.c5 k.nd
def lkCells (ks:List Lk):List Value:=ks.flatMap Lk.cells
theorem lkCells_snoc (ks:List Lk) (k:Lk):lkCells (ks++[k])=lkCells ks++k.cells:=by simp [lkCells]
theorem lkCells_at:∀ {ks:List Lk} {i:Nat} {k:Lk},ks[i]?=some k->∀ j v,k.cells[j]?=some v->(lkCells ks)[i*8+j]?=some v
 | [],i,k,h,_,_,_=>by simp at h
 | x::ks,0,k,h,j,v,hv=>by
  simp at h;subst h
  rw [lkCells,List.flatMap_cons,Nat.zero_mul,Nat.zero_add,List.getElem?_append_left (by obtain ⟨h,_⟩:=List.getElem?_eq_some_iff.1 hv;exact h)]
  exact hv
 | x::ks,i+1,k,h,j,v,hv=>by
  rw [List.getElem?_cons_succ] at h
  rw [lkCells,List.flatMap_cons,List.getElem?_append_right (by simp [Lk.cells];omega),<-lkCells]
  have e:(i+1)*8+j-(Lk.cells x).length=i*8+j:=by simp [Lk.cells];omega
  rw [e]
  exact lkCells_at h j v hv
def lkOb (D:Nat->Prop) (ks:List Lk) (lowv:Value) (low:List UInt8):Ob where
 P:=λ w=>(∀ k ∈ ks,IsLk w D k)/\Byts w D lowv low
 F:=D
 W:=λ _=>False
 fr:=λ _ _ _ h k hd=>⟨λ x hx=>⟨(h.1 x hx).1.keeps k hd,(h.1 x hx).2.keeps k hd⟩,h.2.keeps k hd⟩
theorem IsLk.mono {w:World} {D D':Nat->Prop} {k:Lk} (h:IsLk w D k) (hd:∀ x,D x->D' x):IsLk w D' k:=⟨h.1.mono (λ x _=>hd x),h.2.mono (λ x _=>hd x)⟩
section
variable {w:World} {M D:Nat->Prop} {p:Nat} {slots:Value} {ids:List Nat} {A:Ar} {ix:Int} {s:Sl}
theorem readYes (hg:A.get ix=some s) (h:ArW w M D p slots ids A) (hsm:∀ s ∈ A.sl,NdSm 0 s.nd):Calls Tryz.prog 75 #[pV p,.int .i64 ix] w λ e w'=>∃ X1 k1 X3 k3 X4 k4 X5 k5,e=.returned (.tuple #[.agg #[.int .i64 s.nd.lvl,.slice X1 s.nd.high.length k1,.int .i64 s.nd.right,.slice X3 s.nd.keys.length k3,.slice X4 s.nd.vals.length k4,.slice X5 s.nd.kids.length k5],.bool true])/\IsNd w' (Fresh w w') (.int .i64 s.nd.lvl) (.slice X1 s.nd.high.length k1) (.int .i64 s.nd.right) (.slice X3 s.nd.keys.length k3) (.slice X4 s.nd.vals.length k4) (.slice X5 s.nd.kids.length k5) s.nd/\Keeps Nob w w':=by
 have h:=readX (ix:=ix) h hsm
 rw [hg,opNd_some hg] at h
 exact h
theorem readNo (hg:A.get ix=none) (h:ArW w M D p slots ids A) (hsm:∀ s ∈ A.sl,NdSm 0 s.nd):Calls Tryz.prog 75 #[pV p,.int .i64 ix] w λ e w'=>∃ X1 k1 X3 k3 X4 k4 X5 k5,e=.returned (.tuple #[.agg #[.int .i64 0,.slice X1 0 k1,.int .i64 0,.slice X3 0 k3,.slice X4 0 k4,.slice X5 0 k5],.bool false])/\Keeps Nob w w':=by
 have h:=readX (ix:=ix) h hsm
 rw [hg,opNd_none hg] at h
 refine h.mono ?_
 rintro e w' ⟨X1,k1,X3,k3,X4,k4,X5,k5,he,_,hk⟩
 exact ⟨X1,k1,X3,k3,X4,k4,X5,k5,he,hk⟩
end
end Go.Proofs.YtjcgphhpaenjkaaGreat

import Derived.Test.YtjcgphhpaenjkaaPkE8
import Derived.Lib.SlBytesConst
set_option maxHeartbeats 64000000
set_option maxRecDepth 100000
set_option linter.unusedVariables false
namespace Go.Proofs.Ytjcgphhpaenjkaa
open Go.RowKit
def hC:Cf:=⟨3,2,3,1,1⟩
def hP:Nat->Ar × Pm
 | 0=>(ar0 3,Pm.new [107] [118])
 | k+1=>(stepP 2 3 (hP k).1 (hP k).2).2
theorem hP_go:∀ k,k < 7->(stepP 2 3 (hP k).1 (hP k).2).1=(false,false)
 | 0,_=>by decide +kernel|1,_=>by decide +kernel|2,_=>by decide +kernel|3,_=>by decide +kernel|4,_=>by decide +kernel|5,_=>by decide +kernel|6,_=>by decide +kernel
 | n+7,h=>by omega
theorem hP_end:(stepP 2 3 (hP 7).1 (hP 7).2).1=(true,true):=by decide +kernel
theorem hP_nx:∀ k,k<=7->(hP k).2.nx<=20/\(hP k).2.level=0
 | 0,_=>by decide +kernel|1,_=>by decide +kernel|2,_=>by decide +kernel|3,_=>by decide +kernel|4,_=>by decide +kernel|5,_=>by decide +kernel|6,_=>by decide +kernel|7,_=>by decide +kernel
 | n+8,h=>by omega
theorem hP_inv:∀ k,k<=8->PInv 2 3 (hP k).1 [(hP k).2]/\WordsLe k (hP k).1/\∀ d,(hP k).2.D=some d->d.le k
 | 0,_=>⟨(show PInv 2 3 (ar0 3) ([]++[Pm.new [107] [118]]) from PInv.new (PInv.start 3)),λ s hs=>by simp [hP,ar0] at hs;subst hs;exact Nat.le_refl _,λ d hd=>by cases hd;exact Mc.le.new _ _ _⟩
 | k+1,hk=>by
  obtain ⟨h1,h2,h3⟩:=hP_inv k (by omega)
  obtain ⟨_,s3,_,_⟩:=stepP_sh (A:=(hP k).1) (leaf:=2) (inner:=3) (hP_nx k (by omega)).1
  refine ⟨h1.step (i:=0) rfl (by decide) (by decide) (by decide) (by decide) (λ s hs=>by have:=h2 s hs;omega),h2.step,λ d' hd=>?_⟩
  rcases s3 d' hd with e|⟨d0,e,rfl⟩|⟨_,_,rfl⟩
  ·exact (h3 d' e).mono (by omega)
  ·exact (h3 d0 e).step _
  ·exact Mc.le.new _ _ _
theorem hP_ok (k:Nat) (hk:k<=7):POk (hP k).1 (hP k).2:=
 (hP_inv k (by omega)).1.ok List.mem_cons_self (λ d hd=>((hP_inv k (by omega)).2.2 d hd).low (by omega)) (by rw [(hP_nx k hk).2];decide)
theorem hP_map:mapOf (hP 8).1=[([107],[118])]:=by decide +kernel
theorem hP_wide:Wide64 (hP 8).1/\1<=(hP 8).1.root/\(hP 8).1.root<=(hP 8).1.sl.length:=by
 have h:(hP 8).1.sl.all (λ s=>decide (s.nd.right=0)&&decide (s.nd.kids=[]))=true/\1<=(hP 8).1.root/\(hP 8).1.root<=(hP 8).1.sl.length:=by decide +kernel
 refine ⟨λ s hs=>?_,h.2⟩
 have h1:=List.all_eq_true.1 h.1 s hs
 simp only [Bool.and_eq_true,decide_eq_true_eq] at h1
 exact ⟨by rw [h1.1];rfl,λ k hk=>by rw [h1.2] at hk;cases hk⟩
theorem mark14 (w:World) (x:UInt8) {n:Nat} (hn:n=w.heap.size):Byts (w.alloc (.cells #[bV x] 5 (1,2))) (λ b=>b=n) (.slice (some ⟨n,0,none⟩) 1 1) [x]:=by
 subst hn
 refine ⟨some ⟨w.heap.size,0,none⟩,1,rfl,by simp,by decide,λ _=>⟨_,rfl,rfl,λ i y hy=>?_⟩⟩
 match i,hy with
 | 0,hy=>cases hy;rw [add_lit];exact cell_of_row _ _ 0 #[bV x] _ _ (heap_alloc_new w _)
 | i+1,hy=>simp at hy
theorem head14 (w:World):Calls Try.prog 5 #[] w λ e w'=>e=.returned (.bool true)/\Keeps Nob w w':=by
 have HN:=Hd (La.new 3 (by decide) (by decide) w)
 unfold iV pV at *
 go_enter Try.func5,Try.ntmps5
 go_wp2_with fail
 refine HN.out.mono ?_
 rintro e w1 ⟨p,rfl,ha⟩
 have HA:=Hd ha
 clear ha HN
 have hcv:∀ (w:World) (b:Nat) (C:Array Value) (n c:Nat),b=w.heap.size->(convert 34 34 (.slice (some ⟨b,0,none⟩) n c)).run Try.prog (w.alloc (.cells C 5))=.ok (.slice (some ⟨b,0,none⟩) n c) (w.alloc (.cells C 5 (C.size,C.size+1))):=λ w b C n c hb=>by
  subst hb;exact Lib.run_convert_bytes_const (P:=Try.prog) w 34 5 C n c Try.underlying34 Try.underlying5
 go_wp2_with fail
 clear hcv
 refine calls_at (λ w2 hw=>?_)
 have hk:Keeps Nob w1 w2:=by rw [hw];exact (Keeps.alloc Nob _ _).alloc' _
 have HBk:Hid (Byts w2 (λ b=>b=w1.heap.size) (.slice (some ⟨w1.heap.size,0,none⟩) 1 1) [107]):=by show Byts _ _ _ _;rw [hw];exact (mark14 w1 107 rfl).keeps (Keeps.alloc Nob _ _) (λ _ _ _=>id)
 have HBv:Hid (Byts w2 (λ b=>b=w1.heap.size+1) (.slice (some ⟨w1.heap.size+1,0,none⟩) 1 1) [118]):=by show Byts _ _ _ _;rw [hw];exact mark14 _ 118 (by simp)
 clear hw
 replace HA:=Hd (HA.out.nob hk)
 clear hk
 refine (La.put (C:=hC) HA.out (HBk.out.mono (T:=λ b=>b=w1.heap.size\/b=w1.heap.size+1) (λ _ _ h=>.inl h)) (HBv.out.mono (λ _ _ h=>.inr h)) (by unfold Sm;decide) (by unfold Sm;decide)).mono ?_
 rintro e w3 ⟨m,rfl,hl⟩
 have HL:Hid (Ln w w3 p m hC (hP 0).1 (hP 0).2):=hl
 clear hl HA HBk HBv
 unfold pV
 go_wp2
 go_loopw [4] (λ i wr=>∃ k:Nat,k<=7/\i=.int .i64 k/\Ln w wr p m hC (hP k).1 (hP k).2) (λ i _=>7-(intOf i).toNat)
 case atStart=>exact ⟨0,Nat.zero_le _,rfl,HL.out⟩
 clear HL
 obtain ⟨k,hk,rfl,hl⟩:=hrel
 have FS:=hl.step (hP_ok k hk) (hP_nx k hk).1
 unfold pV at FS
 clear hl
 rcases Nat.lt_or_ge k 7 with hlt|hlt
 ·rw [show stepP hC.leaf hC.inner (hP k).1 (hP k).2=((false,false),hP (k+1)) from Prod.ext (hP_go k hlt) rfl] at FS
  simp only at FS
  go_wp2_with fail
  refine FS.mono ?_
  rintro e w4 ⟨rfl,hl⟩
  clear FS
  go_wp2
  go_roundw
  case rel=>exact ⟨k+1,by omega,by go_num,hl⟩
  case measure=>simp [intOf];omega
 obtain rfl:k=7:=by omega
 rw [show stepP hC.leaf hC.inner (hP 7).1 (hP 7).2=((true,true),hP 8) from Prod.ext hP_end rfl] at FS
 simp only at FS
 clear hk hlt
 go_wp2_with fail
 refine FS.mono ?_
 rintro e w4 ⟨rfl,hl⟩
 obtain ⟨G,⟨⟨M,D,⟨sl,ids,hX⟩,_,_⟩,_,_,_,hsm⟩,_,hk4⟩:=hl.arena
 have FM:=pmapR hX hsm hP_wide.1 hP_wide.2 hP_map (by decide)
 have K4:=Hd hk4
 unfold pV at FM
 clear FS hl hX hsm hk4
 go_wp2_with fail
 refine FM.mono ?_
 rintro e w5 ⟨v,rfl,⟨l,ho,ht,hmap⟩,hk5⟩
 replace K4:=Hd (K4.out.trans hk5 (λ _ _ h=>h))
 obtain ⟨x,rfl⟩:=List.length_eq_one_iff.1 (show l.length=1 by have:=congrArg List.length hmap;simpa using this)
 have hx1:x.k=[107]:=congrArg Prod.fst (List.cons.inj hmap).1
 have hx2:x.v=[118]:=congrArg Prod.snd (List.cons.inj hmap).1
 have t1:=run_str (ht x List.mem_cons_self).1.r
 have t2:=run_str (ht x List.mem_cons_self).2.r
 rw [hx1] at t1
 rw [hx2] at t2
 have ho':Own w5 (Fresh w4 w5) 36 2 v 1 (enCells [x]):=ho
 obtain ⟨VA,vc,ev⟩:=ho'.form
 subst ev
 obtain ⟨hd1,hd1',hf⟩:=ho'.at_
 rcases hf with ⟨_,hd0⟩|⟨gb,o5,cur,rfl,hgb,hb,hcz,hxx⟩
 ·exact absurd hd1 (by omega)
 have r0:w5.cell? ⟨gb,o5,none⟩=some x.kv:=by rw [hb.cell];exact hxx 0 _ rfl
 have r1:w5.cell? ⟨gb,o5+1,none⟩=some x.vv:=by rw [hb.cell];exact hxx 1 _ rfl
 clear ho ho' hgb hb hcz hxx ht hx1 hx2 hmap hk5 FM
 go_wp2
 go_ret
 exact ⟨by simp,K4.out⟩
end Go.Proofs.Ytjcgphhpaenjkaa

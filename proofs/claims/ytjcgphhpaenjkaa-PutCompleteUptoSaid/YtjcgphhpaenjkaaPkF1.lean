import Derived.Test.YtjcgphhpaenjkaaPkF0
import Derived.Below
import Derived.JoinedCond
import Derived.Deep.CondSized
set_option maxRecDepth 100000
namespace Go.Proofs.Ytjcgphhpaenjkaa.putComplete
open Go.ChangeShapes Go.WideShapes Go.ChangeAt Go.RowKit
set_option linter.unusedVariables false
theorem own:ownKnob Try.prog.godebug=none:=by kernel_rfl
theorem laidOut:laidOutB Try.prog=true:=by kernel_rfl
theorem lifted (os:Os) (started:os.Started) (H:Type) (enc:TypeId × Value->H) (F:Stop.Interp) :
  ReturnsInHanded {} Try.checked os 4 .any ((Rows.OpenSpec.upto Rows.putCompleteSpec).pre6 enc Try.prog Try.f4 Rows.putCompleteUptoRow.domain false) (((Rows.OpenSpec.upto Rows.putCompleteSpec).at F).post enc Try.prog Try.f4 false true false false):=by
 refine returnsInHanded_of_cond_sized (C:=Try.checked) (s:=Rows.OpenSpec.upto Rows.putCompleteSpec) (k:=Rows.uptoSmall) rfl own started (by kernel_rfl) Try.func4
  (OpenSpec.witness (enc:=enc) (C:=Try.checked) (s:=Rows.OpenSpec.upto Rows.putCompleteSpec) (k:=Rows.uptoSmall) rfl false ⟨#[],#[.agg #[.int .i64 0,.int .i64 0,.int .i64 0,.int .i64 0,.int .i64 0],.slice none 0 0],[]⟩ 8 (by kernel_rfl) (by kernel_rfl) (by kernel_rfl)
   (x:=([.agg [.lit (.int .i64 0),.lit (.int .i64 0),.lit (.int .i64 0),.lit (.int .i64 0),.lit (.int .i64 0)],.nil],[],[])) (by kernel_rfl) rfl (by kernel_rfl)) ?_
 intro W base args ds gs before hval0 hW hcnd hkk hsz _
 have hval:∀ (j:Nat) t v,Try.f4.params[j]?=some t->args[j]?=some v->Value.okWide Try.prog W .any base t v:=hval0
 have hW':=hW
 obtain ⟨p,q,hA0,hV,rfl,hfz,hnd⟩:=hW
 have hA:DataW.TrodAll enc Try.prog W 0 (λ _=>true) true Try.f4.params.toList args.toList ds p:=hA0
 rw [Try.params4] at hA hval
 obtain ⟨v0,vs0,d0,ds0,p0,q0,hargs,rfl,rfl,h0,r0⟩:=trodAll_cons hA
 obtain ⟨v1,vs1,d1,ds1,p1,q1,rfl,rfl,rfl,h1,r1⟩:=trodAll_cons r0
 obtain ⟨rfl,rfl,rfl⟩:=trodAll_nil r1
 obtain rfl:args=#[v0,v1]:=by cases args;simp_all
 obtain ⟨rfl,rfl⟩:=trodVars_none hV
 have sz0:Sz 23 d0:=λ k hk=>by
  have:=List.all_eq_true.1 hsz k (DataW.weights_mem_each (j:=0) (t:=23) (d:=d0) rfl rfl k hk)
  simpa using this
 obtain ⟨cs0,rfl,_⟩:=okWide_struct Try.underlying23 (hval 0 23 v0 rfl rfl)
 have k0:=h0
 have lt0:∀ x ∈ p0,x.block < W.heap.size:=by obtain ⟨m,hm⟩:=k0;exact DataW.trod_lt m _ _ _ hm
 obtain ⟨fuel0,hf0⟩:=h0
 obtain ⟨n0a,n0b,n0c,n0d,n0e,e0,w0⟩:=open_cfg hf0
 obtain rfl:cs0=#[.int .i64 n0a,.int .i64 n0b,.int .i64 n0c,.int .i64 n0d,.int .i64 n0e]:=by
  have:cs0.toList=_:=e0
  cases cs0;simp_all
 have sz1:Sz 24 d1:=λ k hk=>by
  have:=List.all_eq_true.1 hsz k (DataW.weights_mem_each (j:=1) (t:=24) (d:=d1) rfl rfl k hk)
  simpa using this
 obtain ⟨a1,l1,c1,rfl⟩:=okWide_slice Try.underlying24 (hval 1 24 v1 rfl rfl)
 have k1:=h1
 have lt1:∀ x ∈ p1,x.block < W.heap.size:=by obtain ⟨m,hm⟩:=k1;exact DataW.trod_lt m _ _ _ hm
 obtain ⟨fuel1,hf1⟩:=h1
 obtain ⟨os1,g1⟩:=open_e1s hf1 sz1
 clear hA0 hval0 hval hsz hkk
 refine (pcompl_ok (c:=⟨n0a,n0b,n0c,n0d,n0e⟩) g1 (i64_of w0.1) (i64_of w0.2.1) (i64_of w0.2.2.1) (i64_of w0.2.2.2.1) (i64_of w0.2.2.2.2)).mono λ e W' ⟨he,hk⟩=>?_
 have bel:Below W.heap.size W W':=⟨hk.os,hk.tape,hk.output,hk.size,λ b hb=>hk.block b hb id⟩
 subst he
 exact ⟨_,rfl,_,_,_,[],_,[],hW',trodAll_mk1 (shut_bool Try.underlying4 _),(trodAll_cons_mk (Below.trod laidOut (by kernel_rfl) (of_decide_eq_true (by kernel_rfl)) k0 bel lt0) (trodAll_cons_mk (Below.trod laidOut (by kernel_rfl) (of_decide_eq_true (by kernel_rfl)) k1 bel lt1) trodAll_mk0)),rfl,bel.frame _,λ h=>by cases h⟩
theorem proved:Rows.PutCompleteUptoSaid:=
 OpenClaim.holds_of_cond 4 Try.f4 rfl rfl rfl rfl rfl rfl rfl ⟨rfl,rfl,rfl,rfl,rfl⟩ rfl rfl rfl rfl rfl (by kernel_rfl) Try.func4 (by kernel_rfl)
  (of_decide_eq_true (by kernel_rfl)) (by unfold Func.isWrapper;first|(rw [if_pos (by decide +kernel)];kernel_rfl)|(rw [if_neg (by decide +kernel)];exact ⟨rfl,rfl⟩))
  (λ os started H enc _ F=>lifted os started H enc F)
#print axioms proved
end Go.Proofs.Ytjcgphhpaenjkaa.putComplete

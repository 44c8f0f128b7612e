/- NodeMay answers true for every node and configuration, and leaves what was there alone. No condition. -/
import Derived.Test.YtdmmhblmgbhgfaaRows
import Derived.Test.YtdmmhblmgbhgfaaOpen
import Derived.Test.YtdmmhblmgbhgfaaMay
import Derived.ProofKit
import Derived.OpenShut
import Derived.Below
import Derived.SizedLaws
namespace Go.Proofs.Ytdmmhblmgbhgfaa.nodeMay
open Go.ChangeShapes Go.WideShapes Go.ChangeAt Go.RowKit
set_option linter.unusedVariables false

theorem own : ownKnob Try.prog.godebug = none := by kernel_rfl
theorem laidOut : laidOutB Try.prog = true := by kernel_rfl

set_option maxRecDepth 100000 in
theorem lifted (os : Os) (started : os.Started) (H : Type) (enc : TypeId × Value → H) :
    ReturnsInHanded {} Try.checked os 15 .any (Rows.nodeMaySpec.pre6 enc Try.prog Try.f15 Rows.nodeMayRow.domain false) (Rows.nodeMaySpec.post enc Try.prog Try.f15 false true false false) := by
  refine returnsInHanded_of_change_sized (C := Try.checked) own started (by kernel_rfl) Try.func15
    (ChangeSpec.witness6 (enc := enc) (C := Try.checked) false ⟨#[], #[.agg #[.int .i64 0, .slice none 0 0, .int .i64 0, .slice none 0 0, .slice none 0 0, .slice none 0 0], .agg #[.int .i64 0, .int .i64 0, .int .i64 0, .int .i64 0, .int .i64 0]], []⟩ 8 (by kernel_rfl) (by kernel_rfl) (by kernel_rfl) (by kernel_rfl)) ?_
  intro W base args ds gs before hval0 hW hcnd hsz _
  have hval : ∀ (j : Nat) t v, Try.f15.params[j]? = some t → args[j]? = some v → Value.okWide Try.prog W .any base t v := hval0
  have hW' := hW
  obtain ⟨p, q, hA0, hV, rfl, hfz, hnd⟩ := hW
  have hA : DataW.TrodAll enc Try.prog W 0 (fun _ => true) true Try.f15.params.toList args.toList ds p := hA0
  rw [Try.params15] at hA hval
  obtain ⟨v0, vs0, d0, ds0, p0, q0, hargs, rfl, rfl, h0, r0⟩ := trodAll_cons hA
  obtain ⟨v1, vs1, d1, ds1, p1, q1, rfl, rfl, rfl, h1, r1⟩ := trodAll_cons r0
  obtain ⟨rfl, rfl, rfl⟩ := trodAll_nil r1
  obtain rfl : args = #[v0, v1] := by cases args; simp_all
  obtain ⟨rfl, rfl⟩ := trodVars_none hV
  have sz0 : Sz 51 d0 := fun k hk => by
    have := List.all_eq_true.1 hsz k (DataW.weights_mem_each (j := 0) (t := 51) (d := d0) rfl rfl k hk)
    simpa using this
  obtain ⟨cs0, rfl, _⟩ := okWide_struct Try.underlying51 (hval 0 51 v0 rfl rfl)
  have k0 := h0
  have lt0 : ∀ x ∈ p0, x.block < W.heap.size := by obtain ⟨m, hm⟩ := k0; exact DataW.trod_lt m _ _ _ hm
  obtain ⟨fuel0, hf0⟩ := h0
  obtain ⟨c0_0, c1_0, c2_0, c3_0, c4_0, c5_0, n0, e0, g0, w0a, w0b, w0c, s0⟩ := open_nd hf0
  replace s0 := s0 sz0
  obtain rfl : cs0 = #[c0_0, c1_0, c2_0, c3_0, c4_0, c5_0] := by
    have : cs0.toList = _ := e0
    cases cs0; simp_all
  have sz1 : Sz 82 d1 := fun k hk => by
    have := List.all_eq_true.1 hsz k (DataW.weights_mem_each (j := 1) (t := 82) (d := d1) rfl rfl k hk)
    simpa using this
  obtain ⟨cs1, rfl, _⟩ := okWide_struct Try.underlying82 (hval 1 82 v1 rfl rfl)
  have k1 := h1
  have lt1 : ∀ x ∈ p1, x.block < W.heap.size := by obtain ⟨m, hm⟩ := k1; exact DataW.trod_lt m _ _ _ hm
  obtain ⟨fuel1, hf1⟩ := h1
  obtain ⟨n1a, n1b, n1c, n1d, n1e, e1, w1⟩ := open_cfg hf1
  obtain rfl : cs1 = #[.int .i64 n1a, .int .i64 n1b, .int .i64 n1c, .int .i64 n1d, .int .i64 n1e] := by
    have : cs1.toList = _ := e1
    cases cs1; simp_all
  clear hA0 hval0 hval hsz
  refine (may_ok g0 s0 w0c).mono fun e W' ⟨he, hk⟩ => ?_
  have bel : Below W.heap.size W W' := hk.below (Nat.le_refl _) (fun _ _ => id)
  subst he
  exact ⟨_, rfl, _, _, _, [], _, [], hW', trodAll_mk1 (shut_bool Try.underlying4 _), (trodAll_cons_mk (Below.trod laidOut (by kernel_rfl) (of_decide_eq_true (by kernel_rfl)) k0 bel lt0) (trodAll_cons_mk (Below.trod laidOut (by kernel_rfl) (of_decide_eq_true (by kernel_rfl)) k1 bel lt1) trodAll_mk0)), rfl, bel.frame _, fun h => by cases h⟩

theorem over : Rows.nodeMayRow.holds Try.pinned (OpenSpec.ofChange Rows.nodeMaySpec) :=
  OpenClaim.holds_of_wide 15 Try.f15 rfl rfl rfl rfl rfl rfl rfl ⟨rfl, rfl, rfl, rfl, rfl⟩ rfl rfl rfl rfl rfl (by kernel_rfl) Try.func15 (by kernel_rfl)
    (of_decide_eq_true (by kernel_rfl)) (by unfold Func.isWrapper; first | (rw [if_pos (by decide +kernel)]; kernel_rfl) | (rw [if_neg (by decide +kernel)]; exact ⟨rfl, rfl⟩))
    (fun os started H enc _ => lifted os started H enc)

theorem proved : Rows.NodeMaySaid := over
#print axioms proved
end Go.Proofs.Ytdmmhblmgbhgfaa.nodeMay

import Derived.Test.YtbhohohgojcapaaPkA6
import Derived.WalkLawsBesides
import Derived.Deep.Cut
namespace Go.Proofs.Ytbhohohgojcapaa
open Go.RowKit

/-- What need panics with. -/
def wrongV (id err : Int) : Value := .iface 144 (.agg #[.int .i64 id, .int .i64 err])
theorem needOk (w : World) (id err : Int) : Calls Try.prog 103 #[.bool true, .int .i64 id, .int .i64 err] w fun e w' => e = .returned (.tuple #[]) ∧ w' = w := by
  go_enter Try.func103, Try.ntmps103
  go_wp2
  exact ⟨rfl, _, results_none rfl _ _ _, rfl, rfl⟩
theorem needNo (w : World) (id err : Int) : Calls Try.prog 103 #[.bool false, .int .i64 id, .int .i64 err] w fun e w' => e = .panicked [{ v := wrongV id err, recovered := false }] ∧ w' = w := by
  unfold wrongV
  go_enter Try.func103, Try.ntmps103
  go_wp2
  exact ⟨rfl, rfl, rfl⟩
section
variable {w : World} {M D : Nat → Prop} {p : Nat} {slots : Value} {ids : List Nat} {A : Ar} {ix : Int}
theorem opErr_is (A : Ar) (ix : Int) : (opErr A ix = 0 ∧ (A.get ix).isSome = true) ∨ (opErr A ix = 101 ∧ (A.get ix).isSome = false) := by
  rcases hg : A.get ix with _ | s
  · exact .inr ⟨opErr_none hg, rfl⟩
  · exact .inl ⟨opErr_some hg, rfl⟩
theorem readO (h : ArW w M D p slots ids A) (hsm : ∀ s ∈ A.sl, NdSm 0 s.nd) : Calls Try.prog 80 #[pV p, .int .i64 ix] w fun e w' => ∃ X1 k1 X3 k3 X4 k4 X5 k5, e = .returned (.tuple #[.agg #[.int .i64 (opNd A ix).lvl, .slice X1 (opNd A ix).high.length k1, .int .i64 (opNd A ix).right, .slice X3 (opNd A ix).keys.length k3, .slice X4 (opNd A ix).vals.length k4, .slice X5 (opNd A ix).kids.length k5], .bool (A.get ix).isSome]) ∧ ONd w' (Fresh w w') (.int .i64 (opNd A ix).lvl) (.slice X1 (opNd A ix).high.length k1) (.int .i64 (opNd A ix).right) (.slice X3 (opNd A ix).keys.length k3) (.slice X4 (opNd A ix).vals.length k4) (.slice X5 (opNd A ix).kids.length k5) (opNd A ix) ∧ Keeps Nob w w' := by
  have H := Lib.hid h
  have HS := Lib.hid hsm
  clear h hsm
  have FH := fun wx (h : ArW wx M D p slots ids A) => headX (ix := ix) h HS.out
  have FB := fun wx (h : ArW wx M D p slots ids A) => bodyX (ix := ix) h HS.out
  unfold pV iV at FH FB
  rcases opErr_is A ix with ⟨h1, h2⟩ | ⟨h1, h2⟩ <;> rw [h2] <;> rw [h1] at FH FB <;> clear h1 h2
  · go_enter Try.func80, Try.ntmps80
    go_wp2_with fail
    obtain ⟨P, hP⟩ : ∃ N, w.heap.size = N := ⟨_, rfl⟩
    rw [hP]
    refine calls_at (fun w1 hw => ?_)
    have k1 : Keeps Nob w w1 := by rw [hw]; exact Keeps.alloc _ _ _
    have HB : Hid (Blk w1 P 37 #[.int .i64 0, .slice none 0 0, .int .i64 0, .slice none 0 0, .slice none 0 0, .slice none 0 0]) := by rw [hw, ← hP]; exact Lib.hid (Blk.new _ _ _)
    have hlt := HB.out.lt
    clear hw
    refine (FH _ (H.out.keeps k1 (fun _ _ _ h => h) (fun _ _ _ h => h))).mono ?_
    rintro e w2 ⟨d0, d1, d2, rfl, hh, k2⟩
    replace HB := Lib.hid (HB.out.keeps k2 (fun h => h))
    have HH := Lib.hid hh
    have K := Lib.hid (k1.trans k2 (fun _ _ h => h))
    have HP := Lib.hid (And.intro hlt (And.intro k1.size k2.size))
    clear hh k1 k2 hlt
    obtain ⟨X1, k1, e1⟩ := Own.form HH.out.high
    have e0 := HH.out.lvl
    have e2 := HH.out.right
    unfold iV at e0 e2
    subst e0 e1 e2
    have f0 := ((Blk.new w2 33 #[.int .i64 0, .slice none 0 0, .int .i64 0])).frozen 0
    have z0 := ((Blk.new w2 33 #[.int .i64 0, .slice none 0 0, .int .i64 0])).cell 0
    have f1 := fun (v0 : Value) => (((Blk.new w2 33 #[.int .i64 0, .slice none 0 0, .int .i64 0])).set_ 0 v0).frozen 1
    have z1 := fun (v0 : Value) => (((Blk.new w2 33 #[.int .i64 0, .slice none 0 0, .int .i64 0])).set_ 0 v0).cell 1
    have f2 := fun (v0 v1 : Value) => ((((Blk.new w2 33 #[.int .i64 0, .slice none 0 0, .int .i64 0])).set_ 0 v0).set_ 1 v1).frozen 2
    have z2 := fun (v0 v1 : Value) => ((((Blk.new w2 33 #[.int .i64 0, .slice none 0 0, .int .i64 0])).set_ 0 v0).set_ 1 v1).cell 2
    go_wp2_with fail
    clear f0 z0 f1 z1 f2 z2
    obtain ⟨Q, hQ⟩ : ∃ N, w2.heap.size = N := ⟨_, rfl⟩
    rw [hQ]
    refine calls_at (fun w3 hw => ?_)
    have k2 : Keeps Nob w2 w3 := by rw [hw]; exact Keeps.alloc _ _ _
    have HC : Hid (Blk w3 Q 33 #[.int .i64 (opNd A ix).lvl, .slice X1 (opNd A ix).high.length k1, .int .i64 (opNd A ix).right]) := by rw [hw, ← hQ]; exact Lib.hid (Blk.new _ _ _)
    clear hw
    replace K := Lib.hid (K.out.trans k2 (fun _ _ h => h))
    refine (FB _ (H.out.keeps K.out (fun _ _ _ h => h) (fun _ _ _ h => h))).mono ?_
    rintro e w4 ⟨d3, d4, d5, rfl, hh, k3⟩
    replace HB := Lib.hid ((HB.out.keeps k2 (fun h => h)).keeps k3 (fun h => h))
    replace HC := Lib.hid (HC.out.keeps k3 (fun h => h))
    have HE := Lib.hid hh
    have HS2 := Lib.hid (And.intro (And.intro k2.size k3.size) hQ)
    replace HH := Lib.hid (And.intro HH.out (k2.trans k3 (fun _ _ h => h)))
    replace K := Lib.hid (K.out.trans k3 (fun _ _ h => h))
    clear hh k2 k3 hQ
    obtain ⟨X3, k3, e3⟩ := Own.form HE.out.keys.choose_spec.1
    obtain ⟨X4, k4, e4⟩ := Own.form HE.out.vals.choose_spec.1
    obtain ⟨X5, k5, e5⟩ := Own.form HE.out.kids
    subst e3 e4 e5
    have f0 := ((Blk.new w4 35 #[.slice none 0 0, .slice none 0 0, .slice none 0 0])).frozen 0
    have z0 := ((Blk.new w4 35 #[.slice none 0 0, .slice none 0 0, .slice none 0 0])).cell 0
    have f1 := fun (v0 : Value) => (((Blk.new w4 35 #[.slice none 0 0, .slice none 0 0, .slice none 0 0])).set_ 0 v0).frozen 1
    have z1 := fun (v0 : Value) => (((Blk.new w4 35 #[.slice none 0 0, .slice none 0 0, .slice none 0 0])).set_ 0 v0).cell 1
    have f2 := fun (v0 v1 : Value) => ((((Blk.new w4 35 #[.slice none 0 0, .slice none 0 0, .slice none 0 0])).set_ 0 v0).set_ 1 v1).frozen 2
    have z2 := fun (v0 v1 : Value) => ((((Blk.new w4 35 #[.slice none 0 0, .slice none 0 0, .slice none 0 0])).set_ 0 v0).set_ 1 v1).cell 2
    go_upto_region 3 with (fail)
    clear f0 z0 f1 z1 f2 z2
    obtain ⟨R, hR⟩ : ∃ N, w4.heap.size = N := ⟨_, rfl⟩
    rw [hR]
    refine code_at (fun w5 hw => ?_)
    have k6 : Keeps Nob w4 w5 := by rw [hw]; exact Keeps.alloc _ _ _
    have HD : Hid (Blk w5 R 35 #[.slice X3 (opNd A ix).keys.length k3, .slice X4 (opNd A ix).vals.length k4, .slice X5 (opNd A ix).kids.length k5]) := by rw [hw, ← hR]; exact Lib.hid (Blk.new _ _ _)
    clear hw hR
    replace HB := Lib.hid (HB.out.keeps k6 (fun h => h))
    replace HC := Lib.hid (HC.out.keeps k6 (fun h => h))
    have HN : Hid (ONd w5 (Fresh w1 w5) (.int .i64 (opNd A ix).lvl) (.slice X1 (opNd A ix).high.length k1) (.int .i64 (opNd A ix).right) (.slice X3 (opNd A ix).keys.length k3) (.slice X4 (opNd A ix).vals.length k4) (.slice X5 (opNd A ix).kids.length k5) (opNd A ix)) := by
      have s1 := HS2.out.1.1
      have s2 := HS2.out.1.2
      have s3 := HP.out.2.2
      have s4 := k6.size
      exact Lib.hid ⟨(((HH.out.1.keeps HH.out.2 (fun _ _ _ h => h)).keeps k6 (fun _ _ _ h => h)).mono (fun b _ hb => ⟨hb.1, by have := hb.2; omega⟩)), ((HE.out.keeps k6 (fun _ _ _ h => h)).mono (fun b _ hb => ⟨by have := hb.1; omega, by have := hb.2; omega⟩))⟩
    replace K := Lib.hid (K.out.trans k6 (fun _ _ h => h))
    clear k6
    have f0 := (HB.out).frozen 0
    have z0 := (HB.out).cell 0
    have f1 := fun (v0 : Value) => ((HB.out).set_ 0 v0).frozen 1
    have z1 := fun (v0 : Value) => ((HB.out).set_ 0 v0).cell 1
    have f2 := fun (v0 v1 : Value) => (((HB.out).set_ 0 v0).set_ 1 v1).frozen 2
    have z2 := fun (v0 v1 : Value) => (((HB.out).set_ 0 v0).set_ 1 v1).cell 2
    have f3 := fun (v0 v1 v2 : Value) => ((((HB.out).set_ 0 v0).set_ 1 v1).set_ 2 v2).frozen 3
    have z3 := fun (v0 v1 v2 : Value) => ((((HB.out).set_ 0 v0).set_ 1 v1).set_ 2 v2).cell 3
    have f4 := fun (v0 v1 v2 v3 : Value) => (((((HB.out).set_ 0 v0).set_ 1 v1).set_ 2 v2).set_ 3 v3).frozen 4
    have z4 := fun (v0 v1 v2 v3 : Value) => (((((HB.out).set_ 0 v0).set_ 1 v1).set_ 2 v2).set_ 3 v3).cell 4
    have f5 := fun (v0 v1 v2 v3 v4 : Value) => ((((((HB.out).set_ 0 v0).set_ 1 v1).set_ 2 v2).set_ 3 v3).set_ 4 v4).frozen 5
    have z5 := fun (v0 v1 v2 v3 v4 : Value) => ((((((HB.out).set_ 0 v0).set_ 1 v1).set_ 2 v2).set_ 3 v3).set_ 4 v4).cell 5
    have r0 := (HC.out).cell 0
    have r1 := (HC.out).cell 1
    have r2 := (HC.out).cell 2
    have t0 := (HD.out).cell 0
    have t1 := (HD.out).cell 1
    have t2 := (HD.out).cell 2
    go_wp2
    clear f0 z0 f1 z1 f2 z2 f3 z3 f4 z4 f5 z5
    clear r0 t0 r1 t1 r2 t2
    refine post_at (fun w6 hw => ?_)
    have k7 : Keeps (fun x => x = P) w5 w6 := by rw [hw]; exact (((((Keeps.setCell _ (M := fun x => x = P) rfl _).setCell' (fun _ => rfl) _).setCell' (fun _ => rfl) _).setCell' (fun _ => rfl) _).setCell' (fun _ => rfl) _).setCell' (fun _ => rfl) _
    have hB : Blk w6 P 37 #[.int .i64 (opNd A ix).lvl, .slice X1 (opNd A ix).high.length k1, .int .i64 (opNd A ix).right, .slice X3 (opNd A ix).keys.length k3, .slice X4 (opNd A ix).vals.length k4, .slice X5 (opNd A ix).kids.length k5] := by rw [hw]; exact (((((HB.out.set_ 0 _).set_ 1 _).set_ 2 _).set_ 3 _).set_ 4 _).set_ 5 _
    clear hw
    have s0 := (hB).cell 0
    have s1 := (hB).cell 1
    have s2 := (hB).cell 2
    have s3 := (hB).cell 3
    have s4 := (hB).cell 4
    have s5 := (hB).cell 5
    refine bodyPost_ret (v := .tuple #[.agg #[.int .i64 (opNd A ix).lvl, .slice X1 (opNd A ix).high.length k1, .int .i64 (opNd A ix).right, .slice X3 (opNd A ix).keys.length k3, .slice X4 (opNd A ix).vals.length k4, .slice X5 (opNd A ix).kids.length k5], .bool true]) (by simp [results, Try.results80, go_sem, s0, s1, s2, s3, s4, s5]) rfl ⟨_, _, _, _, _, _, _, _, rfl, (HN.out.keeps k7 (fun x _ hx e => by have h1 := hx.1; have h2 := HP.out.1; have e2 : x = P := e; omega)).mono (fun x _ hx => ⟨by have h1 := hx.1; have h2 := HP.out.2.1; omega, by have h1 := hx.2; have h2 := k7.size; omega⟩), K.out.trans k7 (fun x hx e => by have e2 : x = P := e; have h := HP.out; omega)⟩
  · go_enter Try.func80, Try.ntmps80
    go_wp2_with fail
    obtain ⟨P, hP⟩ : ∃ N, w.heap.size = N := ⟨_, rfl⟩
    rw [hP]
    refine calls_at (fun w1 hw => ?_)
    have k1 : Keeps Nob w w1 := by rw [hw]; exact Keeps.alloc _ _ _
    have HB : Hid (Blk w1 P 37 #[.int .i64 0, .slice none 0 0, .int .i64 0, .slice none 0 0, .slice none 0 0, .slice none 0 0]) := by rw [hw, ← hP]; exact Lib.hid (Blk.new _ _ _)
    have hlt := HB.out.lt
    clear hw
    refine (FH _ (H.out.keeps k1 (fun _ _ _ h => h) (fun _ _ _ h => h))).mono ?_
    rintro e w2 ⟨d0, d1, d2, rfl, hh, k2⟩
    replace HB := Lib.hid (HB.out.keeps k2 (fun h => h))
    have HH := Lib.hid hh
    have K := Lib.hid (k1.trans k2 (fun _ _ h => h))
    have HP := Lib.hid (And.intro hlt (And.intro k1.size k2.size))
    clear hh k1 k2 hlt
    obtain ⟨X1, k1, e1⟩ := Own.form HH.out.high
    have e0 := HH.out.lvl
    have e2 := HH.out.right
    unfold iV at e0 e2
    subst e0 e1 e2
    have f0 := ((Blk.new w2 33 #[.int .i64 0, .slice none 0 0, .int .i64 0])).frozen 0
    have z0 := ((Blk.new w2 33 #[.int .i64 0, .slice none 0 0, .int .i64 0])).cell 0
    have f1 := fun (v0 : Value) => (((Blk.new w2 33 #[.int .i64 0, .slice none 0 0, .int .i64 0])).set_ 0 v0).frozen 1
    have z1 := fun (v0 : Value) => (((Blk.new w2 33 #[.int .i64 0, .slice none 0 0, .int .i64 0])).set_ 0 v0).cell 1
    have f2 := fun (v0 v1 : Value) => ((((Blk.new w2 33 #[.int .i64 0, .slice none 0 0, .int .i64 0])).set_ 0 v0).set_ 1 v1).frozen 2
    have z2 := fun (v0 v1 : Value) => ((((Blk.new w2 33 #[.int .i64 0, .slice none 0 0, .int .i64 0])).set_ 0 v0).set_ 1 v1).cell 2
    go_wp2_with fail
    clear f0 z0 f1 z1 f2 z2
    obtain ⟨Q, hQ⟩ : ∃ N, w2.heap.size = N := ⟨_, rfl⟩
    rw [hQ]
    refine calls_at (fun w3 hw => ?_)
    have k2 : Keeps Nob w2 w3 := by rw [hw]; exact Keeps.alloc _ _ _
    have HC : Hid (Blk w3 Q 33 #[.int .i64 (opNd A ix).lvl, .slice X1 (opNd A ix).high.length k1, .int .i64 (opNd A ix).right]) := by rw [hw, ← hQ]; exact Lib.hid (Blk.new _ _ _)
    clear hw
    replace K := Lib.hid (K.out.trans k2 (fun _ _ h => h))
    refine (FB _ (H.out.keeps K.out (fun _ _ _ h => h) (fun _ _ _ h => h))).mono ?_
    rintro e w4 ⟨d3, d4, d5, rfl, hh, k3⟩
    replace HB := Lib.hid ((HB.out.keeps k2 (fun h => h)).keeps k3 (fun h => h))
    replace HC := Lib.hid (HC.out.keeps k3 (fun h => h))
    have HE := Lib.hid hh
    have HS2 := Lib.hid (And.intro (And.intro k2.size k3.size) hQ)
    replace HH := Lib.hid (And.intro HH.out (k2.trans k3 (fun _ _ h => h)))
    replace K := Lib.hid (K.out.trans k3 (fun _ _ h => h))
    clear hh k2 k3 hQ
    obtain ⟨X3, k3, e3⟩ := Own.form HE.out.keys.choose_spec.1
    obtain ⟨X4, k4, e4⟩ := Own.form HE.out.vals.choose_spec.1
    obtain ⟨X5, k5, e5⟩ := Own.form HE.out.kids
    subst e3 e4 e5
    have f0 := ((Blk.new w4 35 #[.slice none 0 0, .slice none 0 0, .slice none 0 0])).frozen 0
    have z0 := ((Blk.new w4 35 #[.slice none 0 0, .slice none 0 0, .slice none 0 0])).cell 0
    have f1 := fun (v0 : Value) => (((Blk.new w4 35 #[.slice none 0 0, .slice none 0 0, .slice none 0 0])).set_ 0 v0).frozen 1
    have z1 := fun (v0 : Value) => (((Blk.new w4 35 #[.slice none 0 0, .slice none 0 0, .slice none 0 0])).set_ 0 v0).cell 1
    have f2 := fun (v0 v1 : Value) => ((((Blk.new w4 35 #[.slice none 0 0, .slice none 0 0, .slice none 0 0])).set_ 0 v0).set_ 1 v1).frozen 2
    have z2 := fun (v0 v1 : Value) => ((((Blk.new w4 35 #[.slice none 0 0, .slice none 0 0, .slice none 0 0])).set_ 0 v0).set_ 1 v1).cell 2
    go_upto_region 3 with (fail)
    clear f0 z0 f1 z1 f2 z2
    obtain ⟨R, hR⟩ : ∃ N, w4.heap.size = N := ⟨_, rfl⟩
    rw [hR]
    refine code_at (fun w5 hw => ?_)
    have k6 : Keeps Nob w4 w5 := by rw [hw]; exact Keeps.alloc _ _ _
    have HD : Hid (Blk w5 R 35 #[.slice X3 (opNd A ix).keys.length k3, .slice X4 (opNd A ix).vals.length k4, .slice X5 (opNd A ix).kids.length k5]) := by rw [hw, ← hR]; exact Lib.hid (Blk.new _ _ _)
    clear hw hR
    replace HB := Lib.hid (HB.out.keeps k6 (fun h => h))
    replace HC := Lib.hid (HC.out.keeps k6 (fun h => h))
    have HN : Hid (ONd w5 (Fresh w1 w5) (.int .i64 (opNd A ix).lvl) (.slice X1 (opNd A ix).high.length k1) (.int .i64 (opNd A ix).right) (.slice X3 (opNd A ix).keys.length k3) (.slice X4 (opNd A ix).vals.length k4) (.slice X5 (opNd A ix).kids.length k5) (opNd A ix)) := by
      have s1 := HS2.out.1.1
      have s2 := HS2.out.1.2
      have s3 := HP.out.2.2
      have s4 := k6.size
      exact Lib.hid ⟨(((HH.out.1.keeps HH.out.2 (fun _ _ _ h => h)).keeps k6 (fun _ _ _ h => h)).mono (fun b _ hb => ⟨hb.1, by have := hb.2; omega⟩)), ((HE.out.keeps k6 (fun _ _ _ h => h)).mono (fun b _ hb => ⟨by have := hb.1; omega, by have := hb.2; omega⟩))⟩
    replace K := Lib.hid (K.out.trans k6 (fun _ _ h => h))
    clear k6
    have f0 := (HB.out).frozen 0
    have z0 := (HB.out).cell 0
    have f1 := fun (v0 : Value) => ((HB.out).set_ 0 v0).frozen 1
    have z1 := fun (v0 : Value) => ((HB.out).set_ 0 v0).cell 1
    have f2 := fun (v0 v1 : Value) => (((HB.out).set_ 0 v0).set_ 1 v1).frozen 2
    have z2 := fun (v0 v1 : Value) => (((HB.out).set_ 0 v0).set_ 1 v1).cell 2
    have f3 := fun (v0 v1 v2 : Value) => ((((HB.out).set_ 0 v0).set_ 1 v1).set_ 2 v2).frozen 3
    have z3 := fun (v0 v1 v2 : Value) => ((((HB.out).set_ 0 v0).set_ 1 v1).set_ 2 v2).cell 3
    have f4 := fun (v0 v1 v2 v3 : Value) => (((((HB.out).set_ 0 v0).set_ 1 v1).set_ 2 v2).set_ 3 v3).frozen 4
    have z4 := fun (v0 v1 v2 v3 : Value) => (((((HB.out).set_ 0 v0).set_ 1 v1).set_ 2 v2).set_ 3 v3).cell 4
    have f5 := fun (v0 v1 v2 v3 v4 : Value) => ((((((HB.out).set_ 0 v0).set_ 1 v1).set_ 2 v2).set_ 3 v3).set_ 4 v4).frozen 5
    have z5 := fun (v0 v1 v2 v3 v4 : Value) => ((((((HB.out).set_ 0 v0).set_ 1 v1).set_ 2 v2).set_ 3 v3).set_ 4 v4).cell 5
    have r0 := (HC.out).cell 0
    have r1 := (HC.out).cell 1
    have r2 := (HC.out).cell 2
    have t0 := (HD.out).cell 0
    have t1 := (HD.out).cell 1
    have t2 := (HD.out).cell 2
    go_wp2
    clear f0 z0 f1 z1 f2 z2 f3 z3 f4 z4 f5 z5
    clear r0 t0 r1 t1 r2 t2
    refine post_at (fun w6 hw => ?_)
    have k7 : Keeps (fun x => x = P) w5 w6 := by rw [hw]; exact (((((Keeps.setCell _ (M := fun x => x = P) rfl _).setCell' (fun _ => rfl) _).setCell' (fun _ => rfl) _).setCell' (fun _ => rfl) _).setCell' (fun _ => rfl) _).setCell' (fun _ => rfl) _
    have hB : Blk w6 P 37 #[.int .i64 (opNd A ix).lvl, .slice X1 (opNd A ix).high.length k1, .int .i64 (opNd A ix).right, .slice X3 (opNd A ix).keys.length k3, .slice X4 (opNd A ix).vals.length k4, .slice X5 (opNd A ix).kids.length k5] := by rw [hw]; exact (((((HB.out.set_ 0 _).set_ 1 _).set_ 2 _).set_ 3 _).set_ 4 _).set_ 5 _
    clear hw
    have s0 := (hB).cell 0
    have s1 := (hB).cell 1
    have s2 := (hB).cell 2
    have s3 := (hB).cell 3
    have s4 := (hB).cell 4
    have s5 := (hB).cell 5
    refine bodyPost_ret (v := .tuple #[.agg #[.int .i64 (opNd A ix).lvl, .slice X1 (opNd A ix).high.length k1, .int .i64 (opNd A ix).right, .slice X3 (opNd A ix).keys.length k3, .slice X4 (opNd A ix).vals.length k4, .slice X5 (opNd A ix).kids.length k5], .bool false]) (by simp [results, Try.results80, go_sem, s0, s1, s2, s3, s4, s5]) rfl ⟨_, _, _, _, _, _, _, _, rfl, (HN.out.keeps k7 (fun x _ hx e => by have h1 := hx.1; have h2 := HP.out.1; have e2 : x = P := e; omega)).mono (fun x _ hx => ⟨by have h1 := hx.1; have h2 := HP.out.2.1; omega, by have h1 := hx.2; have h2 := k7.size; omega⟩), K.out.trans k7 (fun x hx e => by have e2 : x = P := e; have h := HP.out; omega)⟩
theorem readX (h : ArW w M D p slots ids A) (hsm : ∀ s ∈ A.sl, NdSm 0 s.nd) : Calls Try.prog 80 #[pV p, .int .i64 ix] w fun e w' => ∃ X1 k1 X3 k3 X4 k4 X5 k5, e = .returned (.tuple #[.agg #[.int .i64 (opNd A ix).lvl, .slice X1 (opNd A ix).high.length k1, .int .i64 (opNd A ix).right, .slice X3 (opNd A ix).keys.length k3, .slice X4 (opNd A ix).vals.length k4, .slice X5 (opNd A ix).kids.length k5], .bool (A.get ix).isSome]) ∧ IsNd w' (Fresh w w') (.int .i64 (opNd A ix).lvl) (.slice X1 (opNd A ix).high.length k1) (.int .i64 (opNd A ix).right) (.slice X3 (opNd A ix).keys.length k3) (.slice X4 (opNd A ix).vals.length k4) (.slice X5 (opNd A ix).kids.length k5) (opNd A ix) ∧ Keeps Nob w w' :=
  (readO h hsm).mono (fun e w' ⟨X1, k1, X3, k3, X4, k4, X5, k5, he, hn, hk⟩ => ⟨X1, k1, X3, k3, X4, k4, X5, k5, he, hn.r, hk⟩)
end
end Go.Proofs.Ytbhohohgojcapaa

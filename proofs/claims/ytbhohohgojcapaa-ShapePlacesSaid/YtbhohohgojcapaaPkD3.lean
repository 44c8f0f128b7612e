import Derived.Test.YtbhohohgojcapaaPkD2
import Derived.Recover
import Derived.BigQuiet
namespace Go.Proofs.Ytbhohohgojcapaa
open Go.RowKit

theorem wpS_seqZ {P : Program} {Q : Exit → Act → List Frame → World → Prop} {a : Act} {cs : List Frame} {w : World} {x y : Code} (h : ∀ Z : Exit → Act → List Frame → World → Prop, (∀ a cs w, y.wpS P Q a cs w → Z .normal a cs w) → x.wpS P Z a cs w) : (Code.seq x y).wpS P Q a cs w := wpS_seq (h _ (fun _ _ _ h => h))
set_option maxHeartbeats 4000000 in
theorem catchIdle (a b : Value) (w : World) : CallsD Try.prog 102 #[a, b] .returning w fun e u' w' => e = .returned (.tuple #[]) ∧ u' = .returning ∧ w' = w := by
  refine callsD_of_wpS Try.func102 rfl fun c₀ cs hu => ?_
  refine wpS_seqZ fun Z hZ => ?_
  apply wpS_region
  simp [wpOpsS, go_sem, recoverD, hu, Try.ntmps102]
  refine hZ _ _ _ ?_
  clear hZ
  refine wpS_of_wp ?_
  go_wp2
  cases c₀
  simp_all [bodyPostS, results, Try.results102]
set_option maxRecDepth 100000 in
set_option maxHeartbeats 4000000 in
theorem catchPanic {pa pb : Nat} {v : Value} {x y id err : Int} {older : List PanicEntry} {w : World} (ha : Blk w pa 142 #[v]) (hb : Blk w pb 144 #[.int .i64 x, .int .i64 y]) (hne : pa ≠ pb) :
    CallsD Try.prog 102 #[.pointer (some ⟨pa, 0, none⟩), .pointer (some ⟨pb, 0, none⟩)] (.panicking ({ v := wrongV id err, recovered := false } :: older)) w fun e u' w' => e = .returned (.tuple #[]) ∧ u' = .panicking ({ v := wrongV id err, recovered := true } :: older) ∧ Blk w' pa 142 #[.slice none 0 0] ∧ Blk w' pb 144 #[.int .i64 id, .int .i64 err] ∧ Keeps (fun x => x = pa ∨ x = pb) w w' := by
  have HA := Lib.hid ha
  have HB := Lib.hid hb
  have HNE := Lib.hid hne
  clear ha hb hne
  unfold wrongV
  refine callsD_of_wpS Try.func102 rfl fun c₀ cs hu => ?_
  change Code.wpS _ _ _ { tmps := #[.pointer (some ⟨pa, 0, none⟩), .pointer (some ⟨pb, 0, none⟩), undef, undef, undef, undef, undef, undef, undef, undef, undef, undef, undef, undef, undef, undef, undef], defers := [] } _ _
  refine wpS_seqZ fun Z hZ => ?_
  apply wpS_region
  simp [wpOpsS, go_sem, recoverD, hu]
  refine hZ _ _ _ ?_
  clear hZ
  refine wpS_of_wp ?_
  have hta : ∀ w : World, (Instr.typeAssert (.iface 144 (.agg #[.int .i64 id, .int .i64 err])) 20 144 true).run Try.prog w = .ok (.tuple #[.agg #[.int .i64 id, .int .i64 err], .bool true]) w := fun _ => by kernel_rfl
  go_wp2
  refine code_at (fun v0 hw => ?_)
  obtain ⟨N3, hN⟩ : ∃ N, w.heap.size = N := ⟨_, rfl⟩
  rw [hN]
  have hk : Keeps Nob w v0 := by rw [hw]; exact Keeps.alloc _ _ _
  have HC : Hid (Blk v0 N3 144 #[.int .i64 id, .int .i64 err]) := by rw [hw, ← hN]; exact Lib.hid (Blk.new _ _ _)
  have HL : Hid (pa < N3 ∧ pb < N3) := by rw [← hN]; exact Lib.hid ⟨HA.out.lt, HB.out.lt⟩
  replace HA := Lib.hid (HA.out.keeps hk (fun h => h))
  replace HB := Lib.hid (HB.out.keeps hk (fun h => h))
  have K : Hid (Keeps (fun x => x = pa ∨ x = pb) w v0) := Lib.hid ((Keeps.refl _ _).trans hk (fun _ _ h => h.elim))
  clear hw hN hk hta
  refine wp_region_canon [0, 1, 2] 2 (fun W => W.cell? ⟨N3, 0, none⟩ = some (.int .i64 id) ∧ W.cell? ⟨N3, 1, none⟩ = some (.int .i64 err)) (by kernel_rfl) (by kernel_rfl) rfl (by kernel_rfl) (fun _ _ d _ _ h => by cases d <;> exact h) ⟨HC.out.cell 0, HC.out.cell 1⟩ ?_
  refine canon_at (fun v1 hw => ?_)
  have hk : Keeps Nob v0 v1 := by rw [hw]; exact Keeps.drew _ _
  replace HA := Lib.hid (HA.out.keeps hk (fun h => h))
  replace HB := Lib.hid (HB.out.keeps hk (fun h => h))
  replace HC := Lib.hid (HC.out.keeps hk (fun h => h))
  replace K := Lib.hid (K.out.trans hk (fun _ _ h => h.elim))
  clear hw hk
  refine wpCanon_read (v := ?_) rfl (by kernel_rfl) (by rfl) ?_ ?_
  rotate_left
  · intro W hW
    try (obtain ⟨h1, h2⟩ : _ ∧ _ := hW)
    go_simp
    try rfl
  simp only [Act.put, List.setIfInBounds_toArray, List.set_cons_zero, List.set_cons_succ]
  refine wpCanon_act rfl (by kernel_rfl) ?_
  have q0 := HA.out.cell 0
  have f0 := HA.out.frozen 0
  go_wp2
  clear q0 f0
  refine canon_at' (fun v2 hw => ?_)
  have hk : Keeps (fun x => x = pa) v1 v2 := by rw [hw]; exact Keeps.setCell _ (M := fun x => x = pa) rfl _
  replace HA : Hid (Blk v2 pa 142 #[.slice none 0 0]) := by rw [hw]; exact Lib.hid (HA.out.set_ 0 _)
  replace HB := Lib.hid (HB.out.keeps hk (fun e => HNE.out e.symm))
  replace HC := Lib.hid (HC.out.keeps hk (fun e => by have h1 := HL.out; have h2 : N3 = pa := e; omega))
  replace K := Lib.hid (K.out.trans hk (fun x _ e => .inl e))
  clear hw hk
  refine ⟨.inr ⟨HC.out.cell 0, HC.out.cell 1⟩, ?_⟩
  refine wpCanon_act rfl (by kernel_rfl) ?_
  have q0 := HB.out.cell 0
  have f0 := HB.out.frozen 0
  have q1 := HB.out.cell 1
  have f1 := HB.out.frozen 1
  go_wp2
  clear q0 f0 q1 f1
  refine canon_at' (fun v3 hw => ?_)
  have hk : Keeps (fun x => x = pb) v2 v3 := by rw [hw]; exact (Keeps.setCell _ (M := fun x => x = pb) rfl _).setCell' (fun _ => rfl) _
  replace HA := Lib.hid (HA.out.keeps hk (fun e => HNE.out e))
  replace HB : Hid (Blk v3 pb 144 #[.int .i64 id, .int .i64 err]) := by rw [hw]; exact Lib.hid ((HB.out.set_ 0 _).set_ 1 _)
  replace HC := Lib.hid (HC.out.keeps hk (fun e => by have h1 := HL.out; have h2 : N3 = pb := e; omega))
  replace K := Lib.hid (K.out.trans hk (fun x _ e => .inr e))
  clear hw hk
  refine ⟨.inr ⟨HC.out.cell 0, HC.out.cell 1⟩, ?_⟩
  refine wpCanon_nil ?_
  go_wp2
  exact ⟨rfl, _, rfl, .tuple #[], by simp [results, Try.results102, go_sem], rfl, rfl, HA.out, HB.out, K.out⟩
end Go.Proofs.Ytbhohohgojcapaa

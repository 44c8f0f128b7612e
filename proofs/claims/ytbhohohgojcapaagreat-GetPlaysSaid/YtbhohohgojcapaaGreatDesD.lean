/- The document's machine of a descent: decide. -/
import Derived.Test.YtbhohohgojcapaaGreatDesM
import Derived.Test.YtbhohohgojcapaaGreatDesX
namespace Go.Proofs.YtbhohohgojcapaaGreat
open Go.RowKit

/-- What the number in the machine's slot 'next' is. -/
def nvR : Nx → Value
  | .root => iV 0
  | .latch => iV 1
  | .head => iV 2
  | .body => iV 3
  | .valid => iV 4
  | .done => iV 5
/-- The document's machine at block m, on the arena at q. -/
abbrev MR (w : World) (m q : Nat) (S : Nat → Prop) (M : Mc) : Prop := MW w 181 m q nvR S M

section
variable {w : World} {G S : Nat → Prop} {b p q m now : Nat} {A B : Ar} {M : Mc}

/-- A step's answer: the machine behind it, what it wrote. -/
def StR (w w' : World) (m q : Nat) (S : Nat → Prop) (M : Mc) : Prop := (∃ S', MR w' m q S' M ∧ ∀ x, S' x → S x ∨ Fresh w w' x) ∧ Keeps (fun x => x = m) w w'
theorem opWordR_u64 (h : J w G b p q A B) (i : Int) : U64 (opWord B i) := by
  unfold opWord
  split
  · unfold U64; decide
  · rename_i s hg
    obtain ⟨_, ⟨_, _, _, _, _, ⟨_, _, hY⟩, _⟩, _⟩ := h
    obtain ⟨_, _, h2, _⟩ := get_some hg
    obtain ⟨_, _, _, _, _, _, _, _, _, _, _, _, _, _, h8⟩ := hY.slot _ s h2
    exact h8
theorem opNdR_sm (h : J w G b p q A B) (i : Int) : NdSm 0 (opNd B i) := by
  unfold opNd
  split
  · exact sm_zero
  · rename_i s hg
    exact sm_get h.smB hg

set_option maxRecDepth 100000 in
set_option maxHeartbeats 1000000 in
theorem decide_again (hJ : J w G b p q A B) (hG : ¬ G m) (h : MR w m q S M) (hm : ¬ S m) (hlow : M.low) (c2 : ¬ now = M.word) : Calls Tryz.prog 101 #[pV m, .int .u64 now] w fun e w' => e = .returned (.tuple #[]) ∧ StR w w' m q S ({ M with again := M.again + 1, nx := .root }) := by
  obtain ⟨⟨kv, c0, c1, c2, c3, c4, c5, hb, hk, hn⟩, hu, hs⟩ := h
  obtain ⟨KA, kc, ek, _, _⟩ := hk.form
  obtain ⟨X1, k1, e1, _, _⟩ := hn.1.high.form
  obtain ⟨X3, k3, e3, _, _⟩ := hn.2.keys.form
  obtain ⟨X4, k4, e4, _, _⟩ := hn.2.vals.form
  obtain ⟨X5, k5, e5, _, _⟩ := hn.2.kids.form
  have e0 := hn.1.lvl
  have e2 := hn.1.right
  unfold iV at e0 e2
  subst ek e0 e1 e2 e3 e4 e5
  have HB := Lib.hid hb
  have HKY := Lib.hid hk
  have HH := Lib.hid hn.1
  have HD := Lib.hid hn.2
  have HU : Hid (U64 M.word) := hu
  have HS : Hid (NdSm 0 M.nd) := hs
  have HJ := Lib.hid hJ
  have HG : Hid (¬ G m) := hG
  have HM : Hid (¬ S m) := hm
  have HLT := Lib.hid hb.lt
  clear hJ hb hk hn hu hs hG hm
  have hmf : ∀ (fn : Fn) (first cap : Array Value) (w : World), (Instr.makeFunc fn first cap).run Tryz.prog w = .ok (.func fn first cap) w := fun _ _ _ _ => rfl
  have hsf : ∀ (a : Addr) (fn : Fn) (first cap : Array Value) (w : World), (store a (.func fn first cap)).run Tryz.prog w = stored Tryz.prog w a (.func fn first cap) .plain := fun a fn f c w => run_store Tryz.prog w a (.func fn f c) .plain rfl
  have hsn : ∀ (a : Addr) (w : World), (store a .nilFunc).run Tryz.prog w = stored Tryz.prog w a .nilFunc .plain := fun a w => run_store Tryz.prog w a .nilFunc .plain rfl
  clear hmf hsf hsn
  obtain ⟨ra, rb, rc, rd⟩ := hlow
  replace c2 := Lib.hid c2
  have n2 : ((now : Int) != (M.word : Int)) = true := by have := c2.out; simp; omega
  unfold pV
  go_enter Tryz.func101, Tryz.ntmps101
  go_wp2_with fail
  refine wp_region_canon [0, 1, 2, 3, 4, 5, 6, 7, 8, 9] 99 (fun W => W.cell? ⟨m, 1, none⟩ = some (.slice KA M.key.length kc) ∧ W.cell? ⟨m, 6, none⟩ = some (.int .i64 M.nd.lvl) ∧ W.cell? ⟨m, 7, none⟩ = some (.slice X1 M.nd.high.length k1) ∧ W.cell? ⟨m, 8, none⟩ = some (.int .i64 M.nd.right) ∧ W.cell? ⟨m, 9, none⟩ = some (.slice X3 M.nd.keys.length k3) ∧ W.cell? ⟨m, 10, none⟩ = some (.slice X4 M.nd.vals.length k4) ∧ W.cell? ⟨m, 11, none⟩ = some (.slice X5 M.nd.kids.length k5)) (by kernel_rfl) (by kernel_rfl) rfl (by kernel_rfl) (fun _ _ d _ _ h => by cases d <;> exact h) ?_ ?_
  · exact ⟨HB.out.cell 1, HB.out.cell 6, HB.out.cell 7, HB.out.cell 8, HB.out.cell 9, HB.out.cell 10, HB.out.cell 11⟩
  refine canon_at (fun w1 hw => ?_)
  have hk : Keeps Nob w w1 := by rw [hw]; exact Keeps.drew _ _
  clear hw
  replace HJ := Lib.hid (HJ.out.nob hk)
  replace HB := Lib.hid (HB.out.keeps hk id)
  replace HKY := Lib.hid (HKY.out.keeps hk (fun _ _ _ => id))
  replace HH := Lib.hid (HH.out.keeps hk (fun _ _ _ => id))
  replace HD := Lib.hid (HD.out.keeps hk (fun _ _ _ => id))
  replace hk : Keeps (fun x => x = m) w w1 := hk.mono (fun _ _ h => h.elim)
  have K := Lib.hid hk
  clear hk
  iterate 8
    refine wpCanon_read (v := ?_) rfl (by kernel_rfl) (by rfl) ?_ ?_
    rotate_left
    · intro W hW
      try (obtain ⟨h1, h2, h3, h4, h5, h6, h7⟩ : _ ∧ _ ∧ _ ∧ _ ∧ _ ∧ _ ∧ _ := hW)
      go_simp
      try rfl
    simp only [Act.put, List.setIfInBounds_toArray, List.set_cons_zero, List.set_cons_succ]
  refine wpCanon_act rfl (by kernel_rfl) ?_
  go_wp2_with (go_at_call 128; refine (beyondR HH.out.high HKY.out).mono ?_; rintro e wl ⟨rfl, hk⟩)
  have hj := HJ.out.nob hk
  replace HB := Lib.hid (HB.out.keeps hk id)
  replace HKY := Lib.hid (HKY.out.keeps hk (fun _ _ _ => id))
  replace HH := Lib.hid (HH.out.keeps hk (fun _ _ _ => id))
  replace HD := Lib.hid (HD.out.keeps hk (fun _ _ _ => id))
  replace HJ := Lib.hid hj
  replace hk : Keeps (fun x => x = m) w1 wl := hk.mono (fun _ _ h => h.elim)
  replace K := Lib.hid (K.out.trans hk (fun _ _ h => h))
  clear hk hj
  refine ⟨.inr ⟨HB.out.cell 1, HB.out.cell 6, HB.out.cell 7, HB.out.cell 8, HB.out.cell 9, HB.out.cell 10, HB.out.cell 11⟩, ?_⟩
  iterate 1
    refine wpCanon_read (v := ?_) rfl (by kernel_rfl) (by rfl) ?_ ?_
    rotate_left
    · intro W hW
      try (obtain ⟨h1, h2, h3, h4, h5, h6, h7⟩ : _ ∧ _ ∧ _ ∧ _ ∧ _ ∧ _ ∧ _ := hW)
      go_simp
      try rfl
    simp only [Act.put, List.setIfInBounds_toArray, List.set_cons_zero, List.set_cons_succ]
  refine wpCanon_nil ?_
  have q3 := HB.out.cell 3
  have g3 := HB.out.frozen 3
  have q5 := HB.out.cell 5
  have g5 := HB.out.frozen 5
  have q13 := HB.out.cell 13
  have g13 := HB.out.frozen 13
  unfold pV iV at q3 q5 q13
  go_wp2
  clear q3 g3 q5 g5 q13 g13
  refine post_at (fun w2 hw => ?_)
  have hk : Keeps (fun x => x = m) wl w2 := by rw [hw]; exact (Keeps.setCell _ (M := fun b => b = m) rfl _).setCell' (fun _ => rfl) _
  replace HB : Hid (Blk w2 m 181 #[pV q, .slice KA M.key.length kc, iV M.level, .int .i64 0, iV M.id, .int .u64 M.word, .int .i64 M.nd.lvl, .slice X1 M.nd.high.length k1, .int .i64 M.nd.right, .slice X3 M.nd.keys.length k3, .slice X4 M.nd.vals.length k4, .slice X5 M.nd.kids.length k5, .bool M.there, .int .i64 (M.again + 1), iV M.right]) := by rw [hw]; exact ((HB.out.set_ 13 _).set_ 3 _)
  clear hw
  replace HKY := Lib.hid (HKY.out.keeps hk (fun x _ hx e => HM.out (e ▸ hx)))
  replace HH := Lib.hid (HH.out.keeps hk (fun x _ hx e => HM.out (e ▸ hx)))
  replace HD := Lib.hid (HD.out.keeps hk (fun x _ hx e => HM.out (e ▸ hx)))
  replace HJ := Lib.hid (HJ.out.keeps hk (fun x _ hx e => HG.out (e ▸ hx)))
  replace K := Lib.hid (K.out.trans hk (fun _ _ h => h))
  clear hk
  go_end0
  refine ⟨rfl, ⟨S, ⟨⟨_, _, _, _, _, _, _, HB.out, HKY.out, ⟨HH.out, HD.out⟩⟩, HU.out, HS.out⟩, fun x h => .inl h⟩, K.out⟩
set_option maxRecDepth 100000 in
set_option maxHeartbeats 1000000 in
theorem decide_over (hJ : J w G b p q A B) (hG : ¬ G m) (h : MR w m q S M) (hm : ¬ S m) (hlow : M.low) (c2 : now = M.word) (c3 : M.nd.lvl < M.level) : Calls Tryz.prog 101 #[pV m, .int .u64 now] w fun e w' => e = .returned (.tuple #[]) ∧ StR w w' m q S ({ M with nx := .done }) := by
  obtain ⟨⟨kv, c0, c1, c2, c3, c4, c5, hb, hk, hn⟩, hu, hs⟩ := h
  obtain ⟨KA, kc, ek, _, _⟩ := hk.form
  obtain ⟨X1, k1, e1, _, _⟩ := hn.1.high.form
  obtain ⟨X3, k3, e3, _, _⟩ := hn.2.keys.form
  obtain ⟨X4, k4, e4, _, _⟩ := hn.2.vals.form
  obtain ⟨X5, k5, e5, _, _⟩ := hn.2.kids.form
  have e0 := hn.1.lvl
  have e2 := hn.1.right
  unfold iV at e0 e2
  subst ek e0 e1 e2 e3 e4 e5
  have HB := Lib.hid hb
  have HKY := Lib.hid hk
  have HH := Lib.hid hn.1
  have HD := Lib.hid hn.2
  have HU : Hid (U64 M.word) := hu
  have HS : Hid (NdSm 0 M.nd) := hs
  have HJ := Lib.hid hJ
  have HG : Hid (¬ G m) := hG
  have HM : Hid (¬ S m) := hm
  have HLT := Lib.hid hb.lt
  clear hJ hb hk hn hu hs hG hm
  have hmf : ∀ (fn : Fn) (first cap : Array Value) (w : World), (Instr.makeFunc fn first cap).run Tryz.prog w = .ok (.func fn first cap) w := fun _ _ _ _ => rfl
  have hsf : ∀ (a : Addr) (fn : Fn) (first cap : Array Value) (w : World), (store a (.func fn first cap)).run Tryz.prog w = stored Tryz.prog w a (.func fn first cap) .plain := fun a fn f c w => run_store Tryz.prog w a (.func fn f c) .plain rfl
  have hsn : ∀ (a : Addr) (w : World), (store a .nilFunc).run Tryz.prog w = stored Tryz.prog w a .nilFunc .plain := fun a w => run_store Tryz.prog w a .nilFunc .plain rfl
  clear hmf hsf hsn
  obtain ⟨ra, rb, rc, rd⟩ := hlow
  replace c2 := Lib.hid c2
  replace c3 := Lib.hid c3
  have n2 : ((now : Int) != (M.word : Int)) = false := by have := c2.out; simp; omega
  have n3 : (decide (M.nd.lvl < M.level)) = true := by have := c3.out; simp; omega
  unfold pV
  go_enter Tryz.func101, Tryz.ntmps101
  go_wp2_with fail
  refine wp_region_canon [0, 1, 2, 3, 4, 5, 6, 7, 8, 9] 99 (fun W => W.cell? ⟨m, 1, none⟩ = some (.slice KA M.key.length kc) ∧ W.cell? ⟨m, 6, none⟩ = some (.int .i64 M.nd.lvl) ∧ W.cell? ⟨m, 7, none⟩ = some (.slice X1 M.nd.high.length k1) ∧ W.cell? ⟨m, 8, none⟩ = some (.int .i64 M.nd.right) ∧ W.cell? ⟨m, 9, none⟩ = some (.slice X3 M.nd.keys.length k3) ∧ W.cell? ⟨m, 10, none⟩ = some (.slice X4 M.nd.vals.length k4) ∧ W.cell? ⟨m, 11, none⟩ = some (.slice X5 M.nd.kids.length k5)) (by kernel_rfl) (by kernel_rfl) rfl (by kernel_rfl) (fun _ _ d _ _ h => by cases d <;> exact h) ?_ ?_
  · exact ⟨HB.out.cell 1, HB.out.cell 6, HB.out.cell 7, HB.out.cell 8, HB.out.cell 9, HB.out.cell 10, HB.out.cell 11⟩
  refine canon_at (fun w1 hw => ?_)
  have hk : Keeps Nob w w1 := by rw [hw]; exact Keeps.drew _ _
  clear hw
  replace HJ := Lib.hid (HJ.out.nob hk)
  replace HB := Lib.hid (HB.out.keeps hk id)
  replace HKY := Lib.hid (HKY.out.keeps hk (fun _ _ _ => id))
  replace HH := Lib.hid (HH.out.keeps hk (fun _ _ _ => id))
  replace HD := Lib.hid (HD.out.keeps hk (fun _ _ _ => id))
  replace hk : Keeps (fun x => x = m) w w1 := hk.mono (fun _ _ h => h.elim)
  have K := Lib.hid hk
  clear hk
  iterate 8
    refine wpCanon_read (v := ?_) rfl (by kernel_rfl) (by rfl) ?_ ?_
    rotate_left
    · intro W hW
      try (obtain ⟨h1, h2, h3, h4, h5, h6, h7⟩ : _ ∧ _ ∧ _ ∧ _ ∧ _ ∧ _ ∧ _ := hW)
      go_simp
      try rfl
    simp only [Act.put, List.setIfInBounds_toArray, List.set_cons_zero, List.set_cons_succ]
  refine wpCanon_act rfl (by kernel_rfl) ?_
  go_wp2_with (go_at_call 128; refine (beyondR HH.out.high HKY.out).mono ?_; rintro e wl ⟨rfl, hk⟩)
  have hj := HJ.out.nob hk
  replace HB := Lib.hid (HB.out.keeps hk id)
  replace HKY := Lib.hid (HKY.out.keeps hk (fun _ _ _ => id))
  replace HH := Lib.hid (HH.out.keeps hk (fun _ _ _ => id))
  replace HD := Lib.hid (HD.out.keeps hk (fun _ _ _ => id))
  replace HJ := Lib.hid hj
  replace hk : Keeps (fun x => x = m) w1 wl := hk.mono (fun _ _ h => h.elim)
  replace K := Lib.hid (K.out.trans hk (fun _ _ h => h))
  clear hk hj
  refine ⟨.inr ⟨HB.out.cell 1, HB.out.cell 6, HB.out.cell 7, HB.out.cell 8, HB.out.cell 9, HB.out.cell 10, HB.out.cell 11⟩, ?_⟩
  iterate 1
    refine wpCanon_read (v := ?_) rfl (by kernel_rfl) (by rfl) ?_ ?_
    rotate_left
    · intro W hW
      try (obtain ⟨h1, h2, h3, h4, h5, h6, h7⟩ : _ ∧ _ ∧ _ ∧ _ ∧ _ ∧ _ ∧ _ := hW)
      go_simp
      try rfl
    simp only [Act.put, List.setIfInBounds_toArray, List.set_cons_zero, List.set_cons_succ]
  refine wpCanon_nil ?_
  have q5 := HB.out.cell 5
  have g5 := HB.out.frozen 5
  unfold pV iV at q5
  go_wp2_with fail
  clear q5 g5
  refine wp_region_canon [0, 1, 2, 3, 4, 5, 6, 7, 8, 9, 10, 11] 99 (fun W => W.cell? ⟨m, 2, none⟩ = some (.int .i64 M.level) ∧ W.cell? ⟨m, 6, none⟩ = some (.int .i64 M.nd.lvl)) (by kernel_rfl) (by kernel_rfl) rfl (by kernel_rfl) (fun _ _ d _ _ h => by cases d <;> exact h) ?_ ?_
  · exact ⟨HB.out.cell 2, HB.out.cell 6⟩
  refine canon_at (fun w2 hw => ?_)
  have hk : Keeps Nob wl w2 := by rw [hw]; exact Keeps.drew _ _
  clear hw
  replace HJ := Lib.hid (HJ.out.nob hk)
  replace HB := Lib.hid (HB.out.keeps hk id)
  replace HKY := Lib.hid (HKY.out.keeps hk (fun _ _ _ => id))
  replace HH := Lib.hid (HH.out.keeps hk (fun _ _ _ => id))
  replace HD := Lib.hid (HD.out.keeps hk (fun _ _ _ => id))
  replace hk : Keeps (fun x => x = m) wl w2 := hk.mono (fun _ _ h => h.elim)
  replace K := Lib.hid (K.out.trans hk (fun _ _ h => h))
  clear hk
  iterate 12
    refine wpCanon_read (v := ?_) rfl (by kernel_rfl) (by rfl) ?_ ?_
    rotate_left
    · intro W hW
      try (obtain ⟨h1, h2⟩ : _ ∧ _ := hW)
      go_simp
      try rfl
    simp only [Act.put, List.setIfInBounds_toArray, List.set_cons_zero, List.set_cons_succ]
  refine wpCanon_nil ?_
  have q3 := HB.out.cell 3
  have g3 := HB.out.frozen 3
  unfold pV iV at q3
  go_wp2
  clear q3 g3
  refine post_at (fun w3 hw => ?_)
  have hk : Keeps (fun x => x = m) w2 w3 := by rw [hw]; exact Keeps.setCell _ (M := fun b => b = m) rfl _
  replace HB : Hid (Blk w3 m 181 #[pV q, .slice KA M.key.length kc, iV M.level, .int .i64 5, iV M.id, .int .u64 M.word, .int .i64 M.nd.lvl, .slice X1 M.nd.high.length k1, .int .i64 M.nd.right, .slice X3 M.nd.keys.length k3, .slice X4 M.nd.vals.length k4, .slice X5 M.nd.kids.length k5, .bool M.there, iV M.again, iV M.right]) := by rw [hw]; exact (HB.out.set_ 3 _)
  clear hw
  replace HKY := Lib.hid (HKY.out.keeps hk (fun x _ hx e => HM.out (e ▸ hx)))
  replace HH := Lib.hid (HH.out.keeps hk (fun x _ hx e => HM.out (e ▸ hx)))
  replace HD := Lib.hid (HD.out.keeps hk (fun x _ hx e => HM.out (e ▸ hx)))
  replace HJ := Lib.hid (HJ.out.keeps hk (fun x _ hx e => HG.out (e ▸ hx)))
  replace K := Lib.hid (K.out.trans hk (fun _ _ h => h))
  clear hk
  go_end0
  refine ⟨rfl, ⟨S, ⟨⟨_, _, _, _, _, _, _, HB.out, HKY.out, ⟨HH.out, HD.out⟩⟩, HU.out, HS.out⟩, fun x h => .inl h⟩, K.out⟩
set_option maxRecDepth 100000 in
set_option maxHeartbeats 1000000 in
theorem decide_beyond (hJ : J w G b p q A B) (hG : ¬ G m) (h : MR w m q S M) (hm : ¬ S m) (hlow : M.low) (c2 : now = M.word) (c3 : ¬ M.nd.lvl < M.level) (c4 : beyond M.nd.high M.key = true) : Calls Tryz.prog 101 #[pV m, .int .u64 now] w fun e w' => e = .returned (.tuple #[]) ∧ StR w w' m q S ({ M with right := M.right + 1, id := M.nd.right, nx := .latch }) := by
  obtain ⟨⟨kv, c0, c1, c2, c3, c4, c5, hb, hk, hn⟩, hu, hs⟩ := h
  obtain ⟨KA, kc, ek, _, _⟩ := hk.form
  obtain ⟨X1, k1, e1, _, _⟩ := hn.1.high.form
  obtain ⟨X3, k3, e3, _, _⟩ := hn.2.keys.form
  obtain ⟨X4, k4, e4, _, _⟩ := hn.2.vals.form
  obtain ⟨X5, k5, e5, _, _⟩ := hn.2.kids.form
  have e0 := hn.1.lvl
  have e2 := hn.1.right
  unfold iV at e0 e2
  subst ek e0 e1 e2 e3 e4 e5
  have HB := Lib.hid hb
  have HKY := Lib.hid hk
  have HH := Lib.hid hn.1
  have HD := Lib.hid hn.2
  have HU : Hid (U64 M.word) := hu
  have HS : Hid (NdSm 0 M.nd) := hs
  have HJ := Lib.hid hJ
  have HG : Hid (¬ G m) := hG
  have HM : Hid (¬ S m) := hm
  have HLT := Lib.hid hb.lt
  clear hJ hb hk hn hu hs hG hm
  have hmf : ∀ (fn : Fn) (first cap : Array Value) (w : World), (Instr.makeFunc fn first cap).run Tryz.prog w = .ok (.func fn first cap) w := fun _ _ _ _ => rfl
  have hsf : ∀ (a : Addr) (fn : Fn) (first cap : Array Value) (w : World), (store a (.func fn first cap)).run Tryz.prog w = stored Tryz.prog w a (.func fn first cap) .plain := fun a fn f c w => run_store Tryz.prog w a (.func fn f c) .plain rfl
  have hsn : ∀ (a : Addr) (w : World), (store a .nilFunc).run Tryz.prog w = stored Tryz.prog w a .nilFunc .plain := fun a w => run_store Tryz.prog w a .nilFunc .plain rfl
  clear hmf hsf hsn
  obtain ⟨ra, rb, rc, rd⟩ := hlow
  replace c2 := Lib.hid c2
  replace c3 := Lib.hid c3
  replace c4 := Lib.hid c4
  have n2 : ((now : Int) != (M.word : Int)) = false := by have := c2.out; simp; omega
  have n3 : (decide (M.nd.lvl < M.level)) = false := by have := c3.out; simp; omega
  have n4 : beyond M.nd.high M.key = true := by have := c4.out; simpa using this
  unfold pV
  go_enter Tryz.func101, Tryz.ntmps101
  go_wp2_with fail
  refine wp_region_canon [0, 1, 2, 3, 4, 5, 6, 7, 8, 9] 99 (fun W => W.cell? ⟨m, 1, none⟩ = some (.slice KA M.key.length kc) ∧ W.cell? ⟨m, 6, none⟩ = some (.int .i64 M.nd.lvl) ∧ W.cell? ⟨m, 7, none⟩ = some (.slice X1 M.nd.high.length k1) ∧ W.cell? ⟨m, 8, none⟩ = some (.int .i64 M.nd.right) ∧ W.cell? ⟨m, 9, none⟩ = some (.slice X3 M.nd.keys.length k3) ∧ W.cell? ⟨m, 10, none⟩ = some (.slice X4 M.nd.vals.length k4) ∧ W.cell? ⟨m, 11, none⟩ = some (.slice X5 M.nd.kids.length k5)) (by kernel_rfl) (by kernel_rfl) rfl (by kernel_rfl) (fun _ _ d _ _ h => by cases d <;> exact h) ?_ ?_
  · exact ⟨HB.out.cell 1, HB.out.cell 6, HB.out.cell 7, HB.out.cell 8, HB.out.cell 9, HB.out.cell 10, HB.out.cell 11⟩
  refine canon_at (fun w1 hw => ?_)
  have hk : Keeps Nob w w1 := by rw [hw]; exact Keeps.drew _ _
  clear hw
  replace HJ := Lib.hid (HJ.out.nob hk)
  replace HB := Lib.hid (HB.out.keeps hk id)
  replace HKY := Lib.hid (HKY.out.keeps hk (fun _ _ _ => id))
  replace HH := Lib.hid (HH.out.keeps hk (fun _ _ _ => id))
  replace HD := Lib.hid (HD.out.keeps hk (fun _ _ _ => id))
  replace hk : Keeps (fun x => x = m) w w1 := hk.mono (fun _ _ h => h.elim)
  have K := Lib.hid hk
  clear hk
  iterate 8
    refine wpCanon_read (v := ?_) rfl (by kernel_rfl) (by rfl) ?_ ?_
    rotate_left
    · intro W hW
      try (obtain ⟨h1, h2, h3, h4, h5, h6, h7⟩ : _ ∧ _ ∧ _ ∧ _ ∧ _ ∧ _ ∧ _ := hW)
      go_simp
      try rfl
    simp only [Act.put, List.setIfInBounds_toArray, List.set_cons_zero, List.set_cons_succ]
  refine wpCanon_act rfl (by kernel_rfl) ?_
  go_wp2_with (go_at_call 128; refine (beyondR HH.out.high HKY.out).mono ?_; rintro e wl ⟨rfl, hk⟩)
  have hj := HJ.out.nob hk
  replace HB := Lib.hid (HB.out.keeps hk id)
  replace HKY := Lib.hid (HKY.out.keeps hk (fun _ _ _ => id))
  replace HH := Lib.hid (HH.out.keeps hk (fun _ _ _ => id))
  replace HD := Lib.hid (HD.out.keeps hk (fun _ _ _ => id))
  replace HJ := Lib.hid hj
  replace hk : Keeps (fun x => x = m) w1 wl := hk.mono (fun _ _ h => h.elim)
  replace K := Lib.hid (K.out.trans hk (fun _ _ h => h))
  clear hk hj
  refine ⟨.inr ⟨HB.out.cell 1, HB.out.cell 6, HB.out.cell 7, HB.out.cell 8, HB.out.cell 9, HB.out.cell 10, HB.out.cell 11⟩, ?_⟩
  iterate 1
    refine wpCanon_read (v := ?_) rfl (by kernel_rfl) (by rfl) ?_ ?_
    rotate_left
    · intro W hW
      try (obtain ⟨h1, h2, h3, h4, h5, h6, h7⟩ : _ ∧ _ ∧ _ ∧ _ ∧ _ ∧ _ ∧ _ := hW)
      go_simp
      try rfl
    simp only [Act.put, List.setIfInBounds_toArray, List.set_cons_zero, List.set_cons_succ]
  refine wpCanon_nil ?_
  have q5 := HB.out.cell 5
  have g5 := HB.out.frozen 5
  unfold pV iV at q5
  go_wp2_with fail
  clear q5 g5
  refine wp_region_canon [0, 1, 2, 3, 4, 5, 6, 7, 8, 9, 10, 11] 99 (fun W => W.cell? ⟨m, 2, none⟩ = some (.int .i64 M.level) ∧ W.cell? ⟨m, 6, none⟩ = some (.int .i64 M.nd.lvl)) (by kernel_rfl) (by kernel_rfl) rfl (by kernel_rfl) (fun _ _ d _ _ h => by cases d <;> exact h) ?_ ?_
  · exact ⟨HB.out.cell 2, HB.out.cell 6⟩
  refine canon_at (fun w2 hw => ?_)
  have hk : Keeps Nob wl w2 := by rw [hw]; exact Keeps.drew _ _
  clear hw
  replace HJ := Lib.hid (HJ.out.nob hk)
  replace HB := Lib.hid (HB.out.keeps hk id)
  replace HKY := Lib.hid (HKY.out.keeps hk (fun _ _ _ => id))
  replace HH := Lib.hid (HH.out.keeps hk (fun _ _ _ => id))
  replace HD := Lib.hid (HD.out.keeps hk (fun _ _ _ => id))
  replace hk : Keeps (fun x => x = m) wl w2 := hk.mono (fun _ _ h => h.elim)
  replace K := Lib.hid (K.out.trans hk (fun _ _ h => h))
  clear hk
  iterate 12
    refine wpCanon_read (v := ?_) rfl (by kernel_rfl) (by rfl) ?_ ?_
    rotate_left
    · intro W hW
      try (obtain ⟨h1, h2⟩ : _ ∧ _ := hW)
      go_simp
      try rfl
    simp only [Act.put, List.setIfInBounds_toArray, List.set_cons_zero, List.set_cons_succ]
  refine wpCanon_nil ?_
  have q14 := HB.out.cell 14
  have g14 := HB.out.frozen 14
  have q8 := HB.out.cell 8
  have g8 := HB.out.frozen 8
  have q4 := HB.out.cell 4
  have g4 := HB.out.frozen 4
  have q3 := HB.out.cell 3
  have g3 := HB.out.frozen 3
  unfold pV iV at q14 q8 q4 q3
  go_wp2
  clear q14 g14 q8 g8 q4 g4 q3 g3
  refine post_at (fun w3 hw => ?_)
  have hk : Keeps (fun x => x = m) w2 w3 := by rw [hw]; exact ((Keeps.setCell _ (M := fun b => b = m) rfl _).setCell' (fun _ => rfl) _).setCell' (fun _ => rfl) _
  replace HB : Hid (Blk w3 m 181 #[pV q, .slice KA M.key.length kc, iV M.level, .int .i64 1, .int .i64 M.nd.right, .int .u64 M.word, .int .i64 M.nd.lvl, .slice X1 M.nd.high.length k1, .int .i64 M.nd.right, .slice X3 M.nd.keys.length k3, .slice X4 M.nd.vals.length k4, .slice X5 M.nd.kids.length k5, .bool M.there, iV M.again, .int .i64 (M.right + 1)]) := by rw [hw]; exact (((HB.out.set_ 14 _).set_ 4 _).set_ 3 _)
  clear hw
  replace HKY := Lib.hid (HKY.out.keeps hk (fun x _ hx e => HM.out (e ▸ hx)))
  replace HH := Lib.hid (HH.out.keeps hk (fun x _ hx e => HM.out (e ▸ hx)))
  replace HD := Lib.hid (HD.out.keeps hk (fun x _ hx e => HM.out (e ▸ hx)))
  replace HJ := Lib.hid (HJ.out.keeps hk (fun x _ hx e => HG.out (e ▸ hx)))
  replace K := Lib.hid (K.out.trans hk (fun _ _ h => h))
  clear hk
  go_end0
  refine ⟨rfl, ⟨S, ⟨⟨_, _, _, _, _, _, _, HB.out, HKY.out, ⟨HH.out, HD.out⟩⟩, HU.out, HS.out⟩, fun x h => .inl h⟩, K.out⟩
set_option maxRecDepth 100000 in
set_option maxHeartbeats 1000000 in
theorem decide_there (hJ : J w G b p q A B) (hG : ¬ G m) (h : MR w m q S M) (hm : ¬ S m) (hlow : M.low) (c2 : now = M.word) (c3 : ¬ M.nd.lvl < M.level) (c4 : ¬ beyond M.nd.high M.key = true) (c5 : M.nd.lvl = M.level) : Calls Tryz.prog 101 #[pV m, .int .u64 now] w fun e w' => e = .returned (.tuple #[]) ∧ StR w w' m q S ({ M with there := true, nx := .done }) := by
  obtain ⟨⟨kv, c0, c1, c2, c3, c4, c5, hb, hk, hn⟩, hu, hs⟩ := h
  obtain ⟨KA, kc, ek, _, _⟩ := hk.form
  obtain ⟨X1, k1, e1, _, _⟩ := hn.1.high.form
  obtain ⟨X3, k3, e3, _, _⟩ := hn.2.keys.form
  obtain ⟨X4, k4, e4, _, _⟩ := hn.2.vals.form
  obtain ⟨X5, k5, e5, _, _⟩ := hn.2.kids.form
  have e0 := hn.1.lvl
  have e2 := hn.1.right
  unfold iV at e0 e2
  subst ek e0 e1 e2 e3 e4 e5
  have HB := Lib.hid hb
  have HKY := Lib.hid hk
  have HH := Lib.hid hn.1
  have HD := Lib.hid hn.2
  have HU : Hid (U64 M.word) := hu
  have HS : Hid (NdSm 0 M.nd) := hs
  have HJ := Lib.hid hJ
  have HG : Hid (¬ G m) := hG
  have HM : Hid (¬ S m) := hm
  have HLT := Lib.hid hb.lt
  clear hJ hb hk hn hu hs hG hm
  have hmf : ∀ (fn : Fn) (first cap : Array Value) (w : World), (Instr.makeFunc fn first cap).run Tryz.prog w = .ok (.func fn first cap) w := fun _ _ _ _ => rfl
  have hsf : ∀ (a : Addr) (fn : Fn) (first cap : Array Value) (w : World), (store a (.func fn first cap)).run Tryz.prog w = stored Tryz.prog w a (.func fn first cap) .plain := fun a fn f c w => run_store Tryz.prog w a (.func fn f c) .plain rfl
  have hsn : ∀ (a : Addr) (w : World), (store a .nilFunc).run Tryz.prog w = stored Tryz.prog w a .nilFunc .plain := fun a w => run_store Tryz.prog w a .nilFunc .plain rfl
  clear hmf hsf hsn
  obtain ⟨ra, rb, rc, rd⟩ := hlow
  replace c2 := Lib.hid c2
  replace c3 := Lib.hid c3
  replace c4 := Lib.hid c4
  replace c5 := Lib.hid c5
  have n2 : ((now : Int) != (M.word : Int)) = false := by have := c2.out; simp; omega
  have n3 : (decide (M.nd.lvl < M.level)) = false := by have := c3.out; simp; omega
  have n4 : beyond M.nd.high M.key = false := by have := c4.out; simpa using this
  have n5 : (M.nd.lvl == M.level) = true := by have := c5.out; simpa using this
  unfold pV
  go_enter Tryz.func101, Tryz.ntmps101
  go_wp2_with fail
  refine wp_region_canon [0, 1, 2, 3, 4, 5, 6, 7, 8, 9] 99 (fun W => W.cell? ⟨m, 1, none⟩ = some (.slice KA M.key.length kc) ∧ W.cell? ⟨m, 6, none⟩ = some (.int .i64 M.nd.lvl) ∧ W.cell? ⟨m, 7, none⟩ = some (.slice X1 M.nd.high.length k1) ∧ W.cell? ⟨m, 8, none⟩ = some (.int .i64 M.nd.right) ∧ W.cell? ⟨m, 9, none⟩ = some (.slice X3 M.nd.keys.length k3) ∧ W.cell? ⟨m, 10, none⟩ = some (.slice X4 M.nd.vals.length k4) ∧ W.cell? ⟨m, 11, none⟩ = some (.slice X5 M.nd.kids.length k5)) (by kernel_rfl) (by kernel_rfl) rfl (by kernel_rfl) (fun _ _ d _ _ h => by cases d <;> exact h) ?_ ?_
  · exact ⟨HB.out.cell 1, HB.out.cell 6, HB.out.cell 7, HB.out.cell 8, HB.out.cell 9, HB.out.cell 10, HB.out.cell 11⟩
  refine canon_at (fun w1 hw => ?_)
  have hk : Keeps Nob w w1 := by rw [hw]; exact Keeps.drew _ _
  clear hw
  replace HJ := Lib.hid (HJ.out.nob hk)
  replace HB := Lib.hid (HB.out.keeps hk id)
  replace HKY := Lib.hid (HKY.out.keeps hk (fun _ _ _ => id))
  replace HH := Lib.hid (HH.out.keeps hk (fun _ _ _ => id))
  replace HD := Lib.hid (HD.out.keeps hk (fun _ _ _ => id))
  replace hk : Keeps (fun x => x = m) w w1 := hk.mono (fun _ _ h => h.elim)
  have K := Lib.hid hk
  clear hk
  iterate 8
    refine wpCanon_read (v := ?_) rfl (by kernel_rfl) (by rfl) ?_ ?_
    rotate_left
    · intro W hW
      try (obtain ⟨h1, h2, h3, h4, h5, h6, h7⟩ : _ ∧ _ ∧ _ ∧ _ ∧ _ ∧ _ ∧ _ := hW)
      go_simp
      try rfl
    simp only [Act.put, List.setIfInBounds_toArray, List.set_cons_zero, List.set_cons_succ]
  refine wpCanon_act rfl (by kernel_rfl) ?_
  go_wp2_with (go_at_call 128; refine (beyondR HH.out.high HKY.out).mono ?_; rintro e wl ⟨rfl, hk⟩)
  have hj := HJ.out.nob hk
  replace HB := Lib.hid (HB.out.keeps hk id)
  replace HKY := Lib.hid (HKY.out.keeps hk (fun _ _ _ => id))
  replace HH := Lib.hid (HH.out.keeps hk (fun _ _ _ => id))
  replace HD := Lib.hid (HD.out.keeps hk (fun _ _ _ => id))
  replace HJ := Lib.hid hj
  replace hk : Keeps (fun x => x = m) w1 wl := hk.mono (fun _ _ h => h.elim)
  replace K := Lib.hid (K.out.trans hk (fun _ _ h => h))
  clear hk hj
  refine ⟨.inr ⟨HB.out.cell 1, HB.out.cell 6, HB.out.cell 7, HB.out.cell 8, HB.out.cell 9, HB.out.cell 10, HB.out.cell 11⟩, ?_⟩
  iterate 1
    refine wpCanon_read (v := ?_) rfl (by kernel_rfl) (by rfl) ?_ ?_
    rotate_left
    · intro W hW
      try (obtain ⟨h1, h2, h3, h4, h5, h6, h7⟩ : _ ∧ _ ∧ _ ∧ _ ∧ _ ∧ _ ∧ _ := hW)
      go_simp
      try rfl
    simp only [Act.put, List.setIfInBounds_toArray, List.set_cons_zero, List.set_cons_succ]
  refine wpCanon_nil ?_
  have q5 := HB.out.cell 5
  have g5 := HB.out.frozen 5
  unfold pV iV at q5
  go_wp2_with fail
  clear q5 g5
  refine wp_region_canon [0, 1, 2, 3, 4, 5, 6, 7, 8, 9, 10, 11] 99 (fun W => W.cell? ⟨m, 2, none⟩ = some (.int .i64 M.level) ∧ W.cell? ⟨m, 6, none⟩ = some (.int .i64 M.nd.lvl)) (by kernel_rfl) (by kernel_rfl) rfl (by kernel_rfl) (fun _ _ d _ _ h => by cases d <;> exact h) ?_ ?_
  · exact ⟨HB.out.cell 2, HB.out.cell 6⟩
  refine canon_at (fun w2 hw => ?_)
  have hk : Keeps Nob wl w2 := by rw [hw]; exact Keeps.drew _ _
  clear hw
  replace HJ := Lib.hid (HJ.out.nob hk)
  replace HB := Lib.hid (HB.out.keeps hk id)
  replace HKY := Lib.hid (HKY.out.keeps hk (fun _ _ _ => id))
  replace HH := Lib.hid (HH.out.keeps hk (fun _ _ _ => id))
  replace HD := Lib.hid (HD.out.keeps hk (fun _ _ _ => id))
  replace hk : Keeps (fun x => x = m) wl w2 := hk.mono (fun _ _ h => h.elim)
  replace K := Lib.hid (K.out.trans hk (fun _ _ h => h))
  clear hk
  iterate 12
    refine wpCanon_read (v := ?_) rfl (by kernel_rfl) (by rfl) ?_ ?_
    rotate_left
    · intro W hW
      try (obtain ⟨h1, h2⟩ : _ ∧ _ := hW)
      go_simp
      try rfl
    simp only [Act.put, List.setIfInBounds_toArray, List.set_cons_zero, List.set_cons_succ]
  refine wpCanon_nil ?_
  go_wp2_with fail
  refine wp_region_canon [0, 1, 2, 3, 4, 5, 6, 7, 8, 9, 10, 11] 99 (fun W => W.cell? ⟨m, 2, none⟩ = some (.int .i64 M.level) ∧ W.cell? ⟨m, 6, none⟩ = some (.int .i64 M.nd.lvl)) (by kernel_rfl) (by kernel_rfl) rfl (by kernel_rfl) (fun _ _ d _ _ h => by cases d <;> exact h) ?_ ?_
  · exact ⟨HB.out.cell 2, HB.out.cell 6⟩
  refine canon_at (fun w3 hw => ?_)
  have hk : Keeps Nob w2 w3 := by rw [hw]; exact Keeps.drew _ _
  clear hw
  replace HJ := Lib.hid (HJ.out.nob hk)
  replace HB := Lib.hid (HB.out.keeps hk id)
  replace HKY := Lib.hid (HKY.out.keeps hk (fun _ _ _ => id))
  replace HH := Lib.hid (HH.out.keeps hk (fun _ _ _ => id))
  replace HD := Lib.hid (HD.out.keeps hk (fun _ _ _ => id))
  replace hk : Keeps (fun x => x = m) w2 w3 := hk.mono (fun _ _ h => h.elim)
  replace K := Lib.hid (K.out.trans hk (fun _ _ h => h))
  clear hk
  iterate 12
    refine wpCanon_read (v := ?_) rfl (by kernel_rfl) (by rfl) ?_ ?_
    rotate_left
    · intro W hW
      try (obtain ⟨h1, h2⟩ : _ ∧ _ := hW)
      go_simp
      try rfl
    simp only [Act.put, List.setIfInBounds_toArray, List.set_cons_zero, List.set_cons_succ]
  refine wpCanon_nil ?_
  have q12 := HB.out.cell 12
  have g12 := HB.out.frozen 12
  have q3 := HB.out.cell 3
  have g3 := HB.out.frozen 3
  unfold pV iV at q12 q3
  go_wp2
  clear q12 g12 q3 g3
  refine post_at (fun w4 hw => ?_)
  have hk : Keeps (fun x => x = m) w3 w4 := by rw [hw]; exact (Keeps.setCell _ (M := fun b => b = m) rfl _).setCell' (fun _ => rfl) _
  replace HB : Hid (Blk w4 m 181 #[pV q, .slice KA M.key.length kc, iV M.level, .int .i64 5, iV M.id, .int .u64 M.word, .int .i64 M.nd.lvl, .slice X1 M.nd.high.length k1, .int .i64 M.nd.right, .slice X3 M.nd.keys.length k3, .slice X4 M.nd.vals.length k4, .slice X5 M.nd.kids.length k5, .bool true, iV M.again, iV M.right]) := by rw [hw]; exact ((HB.out.set_ 12 _).set_ 3 _)
  clear hw
  replace HKY := Lib.hid (HKY.out.keeps hk (fun x _ hx e => HM.out (e ▸ hx)))
  replace HH := Lib.hid (HH.out.keeps hk (fun x _ hx e => HM.out (e ▸ hx)))
  replace HD := Lib.hid (HD.out.keeps hk (fun x _ hx e => HM.out (e ▸ hx)))
  replace HJ := Lib.hid (HJ.out.keeps hk (fun x _ hx e => HG.out (e ▸ hx)))
  replace K := Lib.hid (K.out.trans hk (fun _ _ h => h))
  clear hk
  go_end0
  refine ⟨rfl, ⟨S, ⟨⟨_, _, _, _, _, _, _, HB.out, HKY.out, ⟨HH.out, HD.out⟩⟩, HU.out, HS.out⟩, fun x h => .inl h⟩, K.out⟩
set_option maxRecDepth 100000 in
set_option maxHeartbeats 1000000 in
theorem decide_child (hJ : J w G b p q A B) (hG : ¬ G m) (h : MR w m q S M) (hm : ¬ S m) (hlow : M.low) (c2 : now = M.word) (c3 : ¬ M.nd.lvl < M.level) (c4 : ¬ beyond M.nd.high M.key = true) (c5 : ¬ M.nd.lvl = M.level) : Calls Tryz.prog 101 #[pV m, .int .u64 now] w fun e w' => e = .returned (.tuple #[]) ∧ StR w w' m q S ({ M with id := childOf M.nd.kids M.nd.keys M.key, nx := .latch }) := by
  obtain ⟨⟨kv, c0, c1, c2, c3, c4, c5, hb, hk, hn⟩, hu, hs⟩ := h
  obtain ⟨KA, kc, ek, _, _⟩ := hk.form
  obtain ⟨X1, k1, e1, _, _⟩ := hn.1.high.form
  obtain ⟨X3, k3, e3, _, _⟩ := hn.2.keys.form
  obtain ⟨X4, k4, e4, _, _⟩ := hn.2.vals.form
  obtain ⟨X5, k5, e5, _, _⟩ := hn.2.kids.form
  have e0 := hn.1.lvl
  have e2 := hn.1.right
  unfold iV at e0 e2
  subst ek e0 e1 e2 e3 e4 e5
  have HB := Lib.hid hb
  have HKY := Lib.hid hk
  have HH := Lib.hid hn.1
  have HD := Lib.hid hn.2
  have HU : Hid (U64 M.word) := hu
  have HS : Hid (NdSm 0 M.nd) := hs
  have HJ := Lib.hid hJ
  have HG : Hid (¬ G m) := hG
  have HM : Hid (¬ S m) := hm
  have HLT := Lib.hid hb.lt
  clear hJ hb hk hn hu hs hG hm
  have hmf : ∀ (fn : Fn) (first cap : Array Value) (w : World), (Instr.makeFunc fn first cap).run Tryz.prog w = .ok (.func fn first cap) w := fun _ _ _ _ => rfl
  have hsf : ∀ (a : Addr) (fn : Fn) (first cap : Array Value) (w : World), (store a (.func fn first cap)).run Tryz.prog w = stored Tryz.prog w a (.func fn first cap) .plain := fun a fn f c w => run_store Tryz.prog w a (.func fn f c) .plain rfl
  have hsn : ∀ (a : Addr) (w : World), (store a .nilFunc).run Tryz.prog w = stored Tryz.prog w a .nilFunc .plain := fun a w => run_store Tryz.prog w a .nilFunc .plain rfl
  clear hmf hsf hsn
  obtain ⟨ra, rb, rc, rd⟩ := hlow
  replace c2 := Lib.hid c2
  replace c3 := Lib.hid c3
  replace c4 := Lib.hid c4
  replace c5 := Lib.hid c5
  have n2 : ((now : Int) != (M.word : Int)) = false := by have := c2.out; simp; omega
  have n3 : (decide (M.nd.lvl < M.level)) = false := by have := c3.out; simp; omega
  have n4 : beyond M.nd.high M.key = false := by have := c4.out; simpa using this
  have n5 : (M.nd.lvl == M.level) = false := by have := c5.out; simpa using this
  unfold pV
  go_enter Tryz.func101, Tryz.ntmps101
  go_wp2_with fail
  refine wp_region_canon [0, 1, 2, 3, 4, 5, 6, 7, 8, 9] 99 (fun W => W.cell? ⟨m, 1, none⟩ = some (.slice KA M.key.length kc) ∧ W.cell? ⟨m, 6, none⟩ = some (.int .i64 M.nd.lvl) ∧ W.cell? ⟨m, 7, none⟩ = some (.slice X1 M.nd.high.length k1) ∧ W.cell? ⟨m, 8, none⟩ = some (.int .i64 M.nd.right) ∧ W.cell? ⟨m, 9, none⟩ = some (.slice X3 M.nd.keys.length k3) ∧ W.cell? ⟨m, 10, none⟩ = some (.slice X4 M.nd.vals.length k4) ∧ W.cell? ⟨m, 11, none⟩ = some (.slice X5 M.nd.kids.length k5)) (by kernel_rfl) (by kernel_rfl) rfl (by kernel_rfl) (fun _ _ d _ _ h => by cases d <;> exact h) ?_ ?_
  · exact ⟨HB.out.cell 1, HB.out.cell 6, HB.out.cell 7, HB.out.cell 8, HB.out.cell 9, HB.out.cell 10, HB.out.cell 11⟩
  refine canon_at (fun w1 hw => ?_)
  have hk : Keeps Nob w w1 := by rw [hw]; exact Keeps.drew _ _
  clear hw
  replace HJ := Lib.hid (HJ.out.nob hk)
  replace HB := Lib.hid (HB.out.keeps hk id)
  replace HKY := Lib.hid (HKY.out.keeps hk (fun _ _ _ => id))
  replace HH := Lib.hid (HH.out.keeps hk (fun _ _ _ => id))
  replace HD := Lib.hid (HD.out.keeps hk (fun _ _ _ => id))
  replace hk : Keeps (fun x => x = m) w w1 := hk.mono (fun _ _ h => h.elim)
  have K := Lib.hid hk
  clear hk
  iterate 8
    refine wpCanon_read (v := ?_) rfl (by kernel_rfl) (by rfl) ?_ ?_
    rotate_left
    · intro W hW
      try (obtain ⟨h1, h2, h3, h4, h5, h6, h7⟩ : _ ∧ _ ∧ _ ∧ _ ∧ _ ∧ _ ∧ _ := hW)
      go_simp
      try rfl
    simp only [Act.put, List.setIfInBounds_toArray, List.set_cons_zero, List.set_cons_succ]
  refine wpCanon_act rfl (by kernel_rfl) ?_
  go_wp2_with (go_at_call 128; refine (beyondR HH.out.high HKY.out).mono ?_; rintro e wl ⟨rfl, hk⟩)
  have hj := HJ.out.nob hk
  replace HB := Lib.hid (HB.out.keeps hk id)
  replace HKY := Lib.hid (HKY.out.keeps hk (fun _ _ _ => id))
  replace HH := Lib.hid (HH.out.keeps hk (fun _ _ _ => id))
  replace HD := Lib.hid (HD.out.keeps hk (fun _ _ _ => id))
  replace HJ := Lib.hid hj
  replace hk : Keeps (fun x => x = m) w1 wl := hk.mono (fun _ _ h => h.elim)
  replace K := Lib.hid (K.out.trans hk (fun _ _ h => h))
  clear hk hj
  refine ⟨.inr ⟨HB.out.cell 1, HB.out.cell 6, HB.out.cell 7, HB.out.cell 8, HB.out.cell 9, HB.out.cell 10, HB.out.cell 11⟩, ?_⟩
  iterate 1
    refine wpCanon_read (v := ?_) rfl (by kernel_rfl) (by rfl) ?_ ?_
    rotate_left
    · intro W hW
      try (obtain ⟨h1, h2, h3, h4, h5, h6, h7⟩ : _ ∧ _ ∧ _ ∧ _ ∧ _ ∧ _ ∧ _ := hW)
      go_simp
      try rfl
    simp only [Act.put, List.setIfInBounds_toArray, List.set_cons_zero, List.set_cons_succ]
  refine wpCanon_nil ?_
  have q5 := HB.out.cell 5
  have g5 := HB.out.frozen 5
  unfold pV iV at q5
  go_wp2_with fail
  clear q5 g5
  refine wp_region_canon [0, 1, 2, 3, 4, 5, 6, 7, 8, 9, 10, 11] 99 (fun W => W.cell? ⟨m, 2, none⟩ = some (.int .i64 M.level) ∧ W.cell? ⟨m, 6, none⟩ = some (.int .i64 M.nd.lvl)) (by kernel_rfl) (by kernel_rfl) rfl (by kernel_rfl) (fun _ _ d _ _ h => by cases d <;> exact h) ?_ ?_
  · exact ⟨HB.out.cell 2, HB.out.cell 6⟩
  refine canon_at (fun w2 hw => ?_)
  have hk : Keeps Nob wl w2 := by rw [hw]; exact Keeps.drew _ _
  clear hw
  replace HJ := Lib.hid (HJ.out.nob hk)
  replace HB := Lib.hid (HB.out.keeps hk id)
  replace HKY := Lib.hid (HKY.out.keeps hk (fun _ _ _ => id))
  replace HH := Lib.hid (HH.out.keeps hk (fun _ _ _ => id))
  replace HD := Lib.hid (HD.out.keeps hk (fun _ _ _ => id))
  replace hk : Keeps (fun x => x = m) wl w2 := hk.mono (fun _ _ h => h.elim)
  replace K := Lib.hid (K.out.trans hk (fun _ _ h => h))
  clear hk
  iterate 12
    refine wpCanon_read (v := ?_) rfl (by kernel_rfl) (by rfl) ?_ ?_
    rotate_left
    · intro W hW
      try (obtain ⟨h1, h2⟩ : _ ∧ _ := hW)
      go_simp
      try rfl
    simp only [Act.put, List.setIfInBounds_toArray, List.set_cons_zero, List.set_cons_succ]
  refine wpCanon_nil ?_
  go_wp2_with fail
  refine wp_region_canon [0, 1, 2, 3, 4, 5, 6, 7, 8, 9, 10, 11] 99 (fun W => W.cell? ⟨m, 2, none⟩ = some (.int .i64 M.level) ∧ W.cell? ⟨m, 6, none⟩ = some (.int .i64 M.nd.lvl)) (by kernel_rfl) (by kernel_rfl) rfl (by kernel_rfl) (fun _ _ d _ _ h => by cases d <;> exact h) ?_ ?_
  · exact ⟨HB.out.cell 2, HB.out.cell 6⟩
  refine canon_at (fun w3 hw => ?_)
  have hk : Keeps Nob w2 w3 := by rw [hw]; exact Keeps.drew _ _
  clear hw
  replace HJ := Lib.hid (HJ.out.nob hk)
  replace HB := Lib.hid (HB.out.keeps hk id)
  replace HKY := Lib.hid (HKY.out.keeps hk (fun _ _ _ => id))
  replace HH := Lib.hid (HH.out.keeps hk (fun _ _ _ => id))
  replace HD := Lib.hid (HD.out.keeps hk (fun _ _ _ => id))
  replace hk : Keeps (fun x => x = m) w2 w3 := hk.mono (fun _ _ h => h.elim)
  replace K := Lib.hid (K.out.trans hk (fun _ _ h => h))
  clear hk
  iterate 12
    refine wpCanon_read (v := ?_) rfl (by kernel_rfl) (by rfl) ?_ ?_
    rotate_left
    · intro W hW
      try (obtain ⟨h1, h2⟩ : _ ∧ _ := hW)
      go_simp
      try rfl
    simp only [Act.put, List.setIfInBounds_toArray, List.set_cons_zero, List.set_cons_succ]
  refine wpCanon_nil ?_
  go_wp2_with fail
  refine wp_region_canon [0, 1, 2, 3, 4, 5, 6, 7, 8, 9, 10, 11, 12] 12 (fun W => W.cell? ⟨m, 1, none⟩ = some (.slice KA M.key.length kc) ∧ W.cell? ⟨m, 6, none⟩ = some (.int .i64 M.nd.lvl) ∧ W.cell? ⟨m, 7, none⟩ = some (.slice X1 M.nd.high.length k1) ∧ W.cell? ⟨m, 8, none⟩ = some (.int .i64 M.nd.right) ∧ W.cell? ⟨m, 9, none⟩ = some (.slice X3 M.nd.keys.length k3) ∧ W.cell? ⟨m, 10, none⟩ = some (.slice X4 M.nd.vals.length k4) ∧ W.cell? ⟨m, 11, none⟩ = some (.slice X5 M.nd.kids.length k5)) (by kernel_rfl) (by kernel_rfl) rfl (by kernel_rfl) (fun _ _ d _ _ h => by cases d <;> exact h) ?_ ?_
  · exact ⟨HB.out.cell 1, HB.out.cell 6, HB.out.cell 7, HB.out.cell 8, HB.out.cell 9, HB.out.cell 10, HB.out.cell 11⟩
  refine canon_at (fun w4 hw => ?_)
  have hk : Keeps Nob w3 w4 := by rw [hw]; exact Keeps.drew _ _
  clear hw
  replace HJ := Lib.hid (HJ.out.nob hk)
  replace HB := Lib.hid (HB.out.keeps hk id)
  replace HKY := Lib.hid (HKY.out.keeps hk (fun _ _ _ => id))
  replace HH := Lib.hid (HH.out.keeps hk (fun _ _ _ => id))
  replace HD := Lib.hid (HD.out.keeps hk (fun _ _ _ => id))
  replace hk : Keeps (fun x => x = m) w3 w4 := hk.mono (fun _ _ h => h.elim)
  replace K := Lib.hid (K.out.trans hk (fun _ _ h => h))
  clear hk
  iterate 9
    refine wpCanon_read (v := ?_) rfl (by kernel_rfl) (by rfl) ?_ ?_
    rotate_left
    · intro W hW
      try (obtain ⟨h1, h2, h3, h4, h5, h6, h7⟩ : _ ∧ _ ∧ _ ∧ _ ∧ _ ∧ _ ∧ _ := hW)
      go_simp
      try rfl
    simp only [Act.put, List.setIfInBounds_toArray, List.set_cons_zero, List.set_cons_succ]
  refine wpCanon_act rfl (by kernel_rfl) ?_
  go_wp2_with (go_at_call 129; refine (childR HD.out.keys HD.out.kids HKY.out).mono ?_; rintro e wj ⟨rfl, hk⟩)
  have hj := HJ.out.nob hk
  replace HB := Lib.hid (HB.out.keeps hk id)
  replace HKY := Lib.hid (HKY.out.keeps hk (fun _ _ _ => id))
  replace HH := Lib.hid (HH.out.keeps hk (fun _ _ _ => id))
  replace HD := Lib.hid (HD.out.keeps hk (fun _ _ _ => id))
  replace HJ := Lib.hid hj
  replace hk : Keeps (fun x => x = m) w4 wj := hk.mono (fun _ _ h => h.elim)
  replace K := Lib.hid (K.out.trans hk (fun _ _ h => h))
  clear hk hj
  refine ⟨.inr ⟨HB.out.cell 1, HB.out.cell 6, HB.out.cell 7, HB.out.cell 8, HB.out.cell 9, HB.out.cell 10, HB.out.cell 11⟩, ?_⟩
  iterate 2
    refine wpCanon_read (v := ?_) rfl (by kernel_rfl) (by rfl) ?_ ?_
    rotate_left
    · intro W hW
      try (obtain ⟨h1, h2, h3, h4, h5, h6, h7⟩ : _ ∧ _ ∧ _ ∧ _ ∧ _ ∧ _ ∧ _ := hW)
      go_simp
      try rfl
    simp only [Act.put, List.setIfInBounds_toArray, List.set_cons_zero, List.set_cons_succ]
  refine wpCanon_act rfl (by kernel_rfl) ?_
  have q4 := HB.out.cell 4
  have g4 := HB.out.frozen 4
  unfold pV iV at q4
  go_wp2
  clear q4 g4
  refine ⟨.inl (by kernel_rfl), ?_⟩
  refine canon_at (fun w5 hw => ?_)
  have hk : Keeps (fun x => x = m) wj w5 := by rw [hw]; exact Keeps.setCell _ (M := fun b => b = m) rfl _
  replace HB : Hid (Blk w5 m 181 #[pV q, .slice KA M.key.length kc, iV M.level, nvR M.nx, .int .i64 (childOf M.nd.kids M.nd.keys M.key), .int .u64 M.word, .int .i64 M.nd.lvl, .slice X1 M.nd.high.length k1, .int .i64 M.nd.right, .slice X3 M.nd.keys.length k3, .slice X4 M.nd.vals.length k4, .slice X5 M.nd.kids.length k5, .bool M.there, iV M.again, iV M.right]) := by rw [hw]; exact (HB.out.set_ 4 _)
  clear hw
  replace HKY := Lib.hid (HKY.out.keeps hk (fun x _ hx e => HM.out (e ▸ hx)))
  replace HH := Lib.hid (HH.out.keeps hk (fun x _ hx e => HM.out (e ▸ hx)))
  replace HD := Lib.hid (HD.out.keeps hk (fun x _ hx e => HM.out (e ▸ hx)))
  replace HJ := Lib.hid (HJ.out.keeps hk (fun x _ hx e => HG.out (e ▸ hx)))
  replace K := Lib.hid (K.out.trans hk (fun _ _ h => h))
  clear hk
  refine wpCanon_nil ?_
  have q3 := HB.out.cell 3
  have g3 := HB.out.frozen 3
  unfold pV iV at q3
  go_wp2
  clear q3 g3
  refine post_at (fun w6 hw => ?_)
  have hk : Keeps (fun x => x = m) w5 w6 := by rw [hw]; exact Keeps.setCell _ (M := fun b => b = m) rfl _
  replace HB : Hid (Blk w6 m 181 #[pV q, .slice KA M.key.length kc, iV M.level, .int .i64 1, .int .i64 (childOf M.nd.kids M.nd.keys M.key), .int .u64 M.word, .int .i64 M.nd.lvl, .slice X1 M.nd.high.length k1, .int .i64 M.nd.right, .slice X3 M.nd.keys.length k3, .slice X4 M.nd.vals.length k4, .slice X5 M.nd.kids.length k5, .bool M.there, iV M.again, iV M.right]) := by rw [hw]; exact (HB.out.set_ 3 _)
  clear hw
  replace HKY := Lib.hid (HKY.out.keeps hk (fun x _ hx e => HM.out (e ▸ hx)))
  replace HH := Lib.hid (HH.out.keeps hk (fun x _ hx e => HM.out (e ▸ hx)))
  replace HD := Lib.hid (HD.out.keeps hk (fun x _ hx e => HM.out (e ▸ hx)))
  replace HJ := Lib.hid (HJ.out.keeps hk (fun x _ hx e => HG.out (e ▸ hx)))
  replace K := Lib.hid (K.out.trans hk (fun _ _ h => h))
  clear hk
  go_end0
  refine ⟨rfl, ⟨S, ⟨⟨_, _, _, _, _, _, _, HB.out, HKY.out, ⟨HH.out, HD.out⟩⟩, HU.out, HS.out⟩, fun x h => .inl h⟩, K.out⟩
theorem decideR_ (hJ : J w G b p q A B) (hG : ¬ G m) (h : MR w m q S M) (hm : ¬ S m) (hlow : M.low) : Calls Tryz.prog 101 #[pV m, .int .u64 now] w fun e w' => e = .returned (.tuple #[]) ∧ StR w w' m q S (decideM now M) := by
  unfold decideM
  by_cases c2 : now = M.word
  · rw [if_neg (fun h => h c2)]
    by_cases c3 : M.nd.lvl < M.level
    · rw [if_pos c3]; exact decide_over hJ hG h hm hlow c2 c3
    · rw [if_neg c3]
      by_cases c4 : beyond M.nd.high M.key = true
      · rw [if_pos c4]; exact decide_beyond hJ hG h hm hlow c2 c3 c4
      · rw [if_neg c4]
        by_cases c5 : M.nd.lvl = M.level
        · rw [if_pos c5]; exact decide_there hJ hG h hm hlow c2 c3 c4 c5
        · rw [if_neg c5]; exact decide_child hJ hG h hm hlow c2 c3 c4 c5
  · rw [if_pos c2]; exact decide_again hJ hG h hm hlow c2
end
end Go.Proofs.YtbhohohgojcapaaGreat

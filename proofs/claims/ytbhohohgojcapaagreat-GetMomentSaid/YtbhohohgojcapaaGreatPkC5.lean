import Derived.Test.YtbhohohgojcapaaGreatPkC4
set_option maxHeartbeats 64000000
namespace Go.Proofs.YtbhohohgojcapaaGreat
open Go.RowKit
def Mc.outId (M : Mc) : Int := if M.there then M.id else 0
def Mc.outWord (M : Mc) : Nat := if M.there then M.word else 0
def Mc.outNd (M : Mc) : Nd := if M.there then M.nd else Nd.zero
section
variable {w : World} {G S : Nat -> Prop} {b p q m : Nat} {A B : Ar} {M : Mc} {v : Value} {key : List UInt8} {level : Int}
set_option maxRecDepth 100000 in
theorem newX (hv : Byts w S v key) (hz : Sm 0 1 key.length) : Calls Tryz.prog 44 #[pV p, v, iV level] w λ e w' => ∃ m, e = .returned (pV m) /\ Fresh w w' m /\ MX w' m p (λ x => Fresh w w' x /\ x ≠ m) (Mc.new key level) /\ Keeps Nob w w' := by
 have HC := Hd (cloneB hv hz)
 clear hv hz
 have hmf : ∀ (fn : Fn) (first cap : Array Value) (w : World), (Instr.makeFunc fn first cap).run Tryz.prog w = .ok (.func fn first cap) w := λ _ _ _ _ => rfl
 have hsf : ∀ (a : Addr) (fn : Fn) (first cap : Array Value) (w : World), (store a (.func fn first cap)).run Tryz.prog w = stored Tryz.prog w a (.func fn first cap) .plain := λ a fn f c w => run_store Tryz.prog w a (.func fn f c) .plain rfl
 unfold pV iV
 go_enter Tryz.func44, Tryz.ntmps44
 go_wp2_with (go_at_call 45; refine HC.out.mono ?_; rintro e w1 ⟨v1, rfl, hO, hk⟩; obtain ⟨B1, d1, hf⟩ := hO.form; subst hf; have HO := Hd hO; have HK := Hd hk; clear hO hk)
 refine post_at (λ w2 hw => ?_)
 go_ret
 have hb : Blk w2 w1.heap.size 178 #[pV p, .slice B1 key.length d1, iV level, .func (.func 97) #[pV w1.heap.size] #[], iV 0, .int .u64 0, iV 0, .slice none 0 0, iV 0, .slice none 0 0, .slice none 0 0, .slice none 0 0, .bool false, iV 0, iV 0] := by rw [hw]; exact Blk.new _ _ _
 have hk : Keeps Nob w1 w2 := by rw [hw]; exact Keeps.alloc Nob _ _
 have s1 := HK.out.size
 have s2 := hk.size
 have s3 := hb.lt
 refine ⟨w1.heap.size, rfl, ⟨s1, s3⟩, ⟨⟨_, _, _, _, _, _, _, hb, ?_, IsNd.zero _ _⟩, by show U64 0; unfold U64; decide, sm_zero⟩, HK.out.trans hk (λ _ _ h => h)⟩
 exact (HO.out.r.keeps hk (λ _ _ _ => id)).mono (λ x _ hx => ⟨⟨hx.1, Nat.lt_of_lt_of_le hx.2 s2⟩, λ e => by have h1 := hx.2; omega⟩)
set_option maxRecDepth 100000 in
theorem atX0 (h : MX w m p S M) (ht : M.there = false) : Calls Tryz.prog 48 #[pV m] w λ e w' => ∃ d0 d1 d2 d3 d4 d5, e = .returned (.tuple #[iV (0), .int .u64 0, .agg #[d0, d1, d2, d3, d4, d5]]) /\ ONd w' (Fresh w w') d0 d1 d2 d3 d4 d5 (Nd.zero) /\ Keeps Nob w w' := by
 obtain ⟨⟨kv, c0, c1, c2, c3, c4, c5, hb, hk, hn⟩, hu, hs⟩ := h
 obtain ⟨KA, kc, ek, _, _⟩ := hk.form
 obtain ⟨X1, k1, e1, _, _⟩ := hn.1.high.form
 obtain ⟨X3, k3, e3, _, _⟩ := hn.2.keys.form
 obtain ⟨X4, k4, e4, _, _⟩ := hn.2.vals.form
 obtain ⟨X5, k5, e5, _, _⟩ := hn.2.kids.form
 have e0 := hn.1.lvl
 have e2 := hn.1.right
 unfold iV at e0 e2
 subst ek e0 e1 e2 e3 e4 e5
 have HB := Hd hb
 have HN := Hd hn
 have HS : Hid (NdSm 0 M.nd) := hs
 have HLT := Hd hb.lt
 clear hb hk hn hu hs
 unfold pV
 have q12 := HB.out.cell 12
 have l12 := HLT.out
 rw [ht] at q12
 clear ht
 unfold pV iV at q12
 go_enter Tryz.func48, Tryz.ntmps48
 go_wp2
 refine post_at (λ w2 hw => ?_)
 have hb : Blk w2 w.heap.size 35 #[.int .i64 0, .slice none 0 0, .int .i64 0, .slice none 0 0, .slice none 0 0, .slice none 0 0] := by rw [hw]; exact Blk.new _ _ _
 have hk : Keeps Nob w w2 := by rw [hw]; exact Keeps.alloc Nob _ _
 clear hw q12
 have r0 := hb.cell 0
 have r1 := hb.cell 1
 have r2 := hb.cell 2
 have r3 := hb.cell 3
 have r4 := hb.cell 4
 have r5 := hb.cell 5
 exact bodyPost_ret (v := .tuple #[.int .i64 0, .int .u64 0, .agg #[.int .i64 0, .slice none 0 0, .int .i64 0, .slice none 0 0, .slice none 0 0, .slice none 0 0]]) (by simp [results, Tryz.results48, go_sem, r0, r1, r2, r3, r4, r5]) rfl ⟨_, _, _, _, _, _, rfl, ONd.zero _ _, hk⟩
set_option maxRecDepth 100000 in
theorem atX1 (h : MX w m p S M) (ht : M.there = true) : Calls Tryz.prog 48 #[pV m] w λ e w' => ∃ d0 d1 d2 d3 d4 d5, e = .returned (.tuple #[iV (M.id), .int .u64 M.word, .agg #[d0, d1, d2, d3, d4, d5]]) /\ ONd w' (Fresh w w') d0 d1 d2 d3 d4 d5 (M.nd) /\ Keeps Nob w w' := by
 obtain ⟨⟨kv, c0, c1, c2, c3, c4, c5, hb, hk, hn⟩, hu, hs⟩ := h
 obtain ⟨KA, kc, ek, _, _⟩ := hk.form
 obtain ⟨X1, k1, e1, _, _⟩ := hn.1.high.form
 obtain ⟨X3, k3, e3, _, _⟩ := hn.2.keys.form
 obtain ⟨X4, k4, e4, _, _⟩ := hn.2.vals.form
 obtain ⟨X5, k5, e5, _, _⟩ := hn.2.kids.form
 have e0 := hn.1.lvl
 have e2 := hn.1.right
 unfold iV at e0 e2
 subst ek e0 e1 e2 e3 e4 e5
 have HB := Hd hb
 have HN := Hd hn
 have HS : Hid (NdSm 0 M.nd) := hs
 have HLT := Hd hb.lt
 clear hb hk hn hu hs
 unfold pV
 have q12 := HB.out.cell 12
 have l12 := HLT.out
 rw [ht] at q12
 clear ht
 unfold pV iV at q12
 go_enter Tryz.func48, Tryz.ntmps48
 go_wp2_with fail
 clear q12 l12
 refine code_at (λ w1 hw => ?_)
 have hk : Keeps Nob w w1 := by rw [hw]; exact Keeps.alloc Nob _ _
 have BR : Hid (Blk w1 w.heap.size 35 #[.int .i64 0, .slice none 0 0, .int .i64 0, .slice none 0 0, .slice none 0 0, .slice none 0 0]) := by rw [hw]; exact Blk.new _ _ _
 clear hw
 replace HB := Hd (HB.out.keeps hk id)
 replace HN := Hd (HN.out.keeps hk (λ _ _ _ => id))
 have K := Hd hk
 clear hk
 refine rC_ [0, 1, 2, 3, 4, 5, 6, 7, 8, 9, 10, 11, 12, 13, 14, 15] 15 (λ W => W.cell? ⟨m, 4, none⟩ = some (.int .i64 M.id) /\ W.cell? ⟨m, 5, none⟩ = some (.int .u64 M.word) /\ W.cell? ⟨m, 6, none⟩ = some (.int .i64 M.nd.lvl) /\ W.cell? ⟨m, 7, none⟩ = some (.slice X1 M.nd.high.length k1) /\ W.cell? ⟨m, 8, none⟩ = some (.int .i64 M.nd.right) /\ W.cell? ⟨m, 9, none⟩ = some (.slice X3 M.nd.keys.length k3) /\ W.cell? ⟨m, 10, none⟩ = some (.slice X4 M.nd.vals.length k4) /\ W.cell? ⟨m, 11, none⟩ = some (.slice X5 M.nd.kids.length k5)) ?_ ?_
 ·exact ⟨HB.out.cell 4, HB.out.cell 5, HB.out.cell 6, HB.out.cell 7, HB.out.cell 8, HB.out.cell 9, HB.out.cell 10, HB.out.cell 11⟩
 refine canon_at (λ w2 hw => ?_)
 have hk : Keeps Nob w1 w2 := by rw [hw]; exact Keeps.drew _ _
 clear hw
 replace HB := Hd (HB.out.keeps hk id)
 replace BR := Hd (BR.out.keeps hk id)
 replace HN := Hd (HN.out.keeps hk (λ _ _ _ => id))
 replace K := tq_ K hk
 clear hk
 iterate 12
  refine cR_ (v := ?_) rfl ?_ ?_
  rotate_left
  ·intro W hW
   try (obtain ⟨h1, h2, h3, h4, h5, h6, h7, h8⟩ : _ /\ _ /\ _ /\ _ /\ _ /\ _ /\ _ /\ _ := hW)
   go_simp
   try rfl
  simp only [Act.put, sa_, sb_, sc_]
 refine cA_ rfl ?_
 go_wp2_with (go_at_call 70; refine (cloneP HN.out HS.out).mono ?_; rintro e w3 ⟨d0, d1, d2, d3, d4, d5, rfl, hO, hk, _⟩)
 obtain ⟨D1, j1, f1⟩ := Own.form hO.1.high
 obtain ⟨D3, j3, f3⟩ := OTx.form hO.2.keys
 obtain ⟨D4, j4, f4⟩ := OTx.form hO.2.vals
 obtain ⟨D5, j5, f5⟩ := Own.form hO.2.kids
 have f0 := hO.1.lvl
 have f2 := hO.1.right
 unfold iV at f0 f2
 subst f0 f1 f2 f3 f4 f5
 have sz := K.out.size
 have lr := BR.out.lt
 replace HB := Hd (HB.out.keeps hk id)
 replace BR := Hd (BR.out.keeps hk id)
 replace K := tq_ K hk
 have HO : Hid (ONd w3 (λ x => Fresh w w3 x /\ x ≠ w.heap.size) (.int .i64 M.nd.lvl) (.slice D1 M.nd.high.length j1) (.int .i64 M.nd.right) (.slice D3 M.nd.keys.length j3) (.slice D4 M.nd.vals.length j4) (.slice D5 M.nd.kids.length j5) M.nd) := hO.mono (λ x _ hx => ⟨⟨Nat.le_trans sz hx.1, hx.2⟩, λ e => by have := hx.1; omega⟩)
 clear hO hk sz lr HN
 refine ⟨.inr ⟨HB.out.cell 4, HB.out.cell 5, HB.out.cell 6, HB.out.cell 7, HB.out.cell 8, HB.out.cell 9, HB.out.cell 10, HB.out.cell 11⟩, ?_⟩
 iterate 2
  refine cR_ (v := ?_) rfl ?_ ?_
  rotate_left
  ·intro W hW
   try (obtain ⟨h1, h2, h3, h4, h5, h6, h7, h8⟩ : _ /\ _ /\ _ /\ _ /\ _ /\ _ /\ _ /\ _ := hW)
   go_simp
   try rfl
  simp only [Act.put, sa_, sb_, sc_]
 refine cA_ rfl ?_
 have q0 := BR.out.cell 0
 have g0 := BR.out.frozen 0
 have q1 := BR.out.cell 1
 have g1 := BR.out.frozen 1
 have q2 := BR.out.cell 2
 have g2 := BR.out.frozen 2
 have q3 := BR.out.cell 3
 have g3 := BR.out.frozen 3
 have q4 := BR.out.cell 4
 have g4 := BR.out.frozen 4
 have q5 := BR.out.cell 5
 have g5 := BR.out.frozen 5
 go_wp2
 clear q0 g0 q1 g1 q2 g2 q3 g3 q4 g4 q5 g5
 refine ⟨.inl (by kernel_rfl), ?_⟩
 refine wpCanon_nil ?_
 go_wp2
 refine post_at (λ w4 hw => ?_)
 have hb : Blk w4 w.heap.size 35 #[.int .i64 M.nd.lvl, .slice D1 M.nd.high.length j1, .int .i64 M.nd.right, .slice D3 M.nd.keys.length j3, .slice D4 M.nd.vals.length j4, .slice D5 M.nd.kids.length j5] := by rw [hw]; exact (((((BR.out.set_ 0 _).set_ 1 _).set_ 2 _).set_ 3 _).set_ 4 _).set_ 5 _
 have hk : Keeps (λ x => x = w.heap.size) w3 w4 := by rw [hw]; exact (((((Keeps.setCell w3 (M := λ b => b = w.heap.size) rfl _).setCell' (λ _ => rfl) _).setCell' (λ _ => rfl) _).setCell' (λ _ => rfl) _).setCell' (λ _ => rfl) _).setCell' (λ _ => rfl) _
 clear hw
 have r0 := hb.cell 0
 have r1 := hb.cell 1
 have r2 := hb.cell 2
 have r3 := hb.cell 3
 have r4 := hb.cell 4
 have r5 := hb.cell 5
 have s3 := hk.size
 exact bodyPost_ret (v := .tuple #[.int .i64 M.id, .int .u64 M.word, .agg #[.int .i64 M.nd.lvl, .slice D1 M.nd.high.length j1, .int .i64 M.nd.right, .slice D3 M.nd.keys.length j3, .slice D4 M.nd.vals.length j4, .slice D5 M.nd.kids.length j5]]) (by simp [results, Tryz.results48, go_sem, r0, r1, r2, r3, r4, r5, iV]) rfl ⟨_, _, _, _, _, _, rfl, (HO.out.keeps hk (λ x _ hx e => hx.2 e)).mono (λ x _ hx => ⟨hx.1.1, Nat.lt_of_lt_of_le hx.1.2 s3⟩), K.out.trans hk (λ x hx e => by have h : x = _ := e; omega)⟩
theorem atX (h : MX w m p S M) : Calls Tryz.prog 48 #[pV m] w λ e w' => ∃ d0 d1 d2 d3 d4 d5, e = .returned (.tuple #[iV M.outId, .int .u64 M.outWord, .agg #[d0, d1, d2, d3, d4, d5]]) /\ ONd w' (Fresh w w') d0 d1 d2 d3 d4 d5 M.outNd /\ Keeps Nob w w' := by
 cases ht : M.there
 ·have := atX0 h ht
  simpa [Mc.outId, Mc.outWord, Mc.outNd, ht] using this
 ·have := atX1 h ht
  simpa [Mc.outId, Mc.outWord, Mc.outNd, ht] using this
end
end Go.Proofs.YtbhohohgojcapaaGreat

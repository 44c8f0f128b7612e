import Derived.Test.YtbhohohgojcapaaGreatPkD1
import Derived.WalkLawsBesides
import Derived.Deep.Cut
import Derived.Test.YtbhohohgojcapaaGreatPkD5
set_option maxHeartbeats 64000000
namespace Go.Proofs.YtbhohohgojcapaaGreat
open Go.RowKit
theorem build_dslot (x : Int) (lvl rt : Int) (A1 A3 A4 A5 : Option Addr) (n1 c1 n3 c3 n4 c4 n5 c5 : Nat) (w : World) : (Instr.build 88 #[(0, .int .u64 x), (1, .agg #[.int .i64 lvl, .slice A1 n1 c1, .int .i64 rt, .slice A3 n3 c3, .slice A4 n4 c4, .slice A5 n5 c5])]).run Tryz.prog w = .ok (.agg #[.int .u64 x, .int .i64 lvl, .slice A1 n1 c1, .int .i64 rt, .slice A3 n3 c3, .slice A4 n4 c4, .slice A5 n5 c5]) w := by
 kernel_rfl
theorem buildSl_dslot (a b c d e f g : Value) (w : World) : (Instr.buildSlice 89 1 #[(0, .agg #[a, b, c, d, e, f, g])]).run Tryz.prog w = .ok (.slice (some ⟨w.heap.size, 0, none⟩) 1 1) (w.alloc (.cells #[a, b, c, d, e, f, g] 88)) := by
 kernel_rfl
section
variable {ops : Array Oper} {Q : Exit -> Act -> World -> Prop} {o : Oper} {rest : List Oper} {a : Act} {w : World}
theorem wpList_eqD {P : Program} (hgd : o.guard = none) (v : Value) (w' : World) (hr : (execOp a.eval o).run P w = .ok (.value v) w') (hK : wpList P ops Q rest (a.put o.dst v) w') : wpList P ops Q (o :: rest) a w := by
 refine wpList_plain hgd λ K hK' => ?_
 unfold Oper.wp
 rw [hr]
 exact hK' _ _ hK
theorem wpList_dslotSl (hgd : o.guard = none) (x : Operand) (ho : o.op = .buildSlice 89 1 #[(0, x)]) {c0 c1 c2 c3 c4 c5 c6 : Value} (h0 : a.eval x = .agg #[c0, c1, c2, c3, c4, c5, c6])
  (hK : wpList Tryz.prog ops Q rest (a.put o.dst (.slice (some ⟨w.heap.size, 0, none⟩) 1 1)) (w.alloc (.cells #[c0, c1, c2, c3, c4, c5, c6] 88))) : wpList Tryz.prog ops Q (o :: rest) a w := by
 refine wpList_eqD hgd _ _ ?_ hK
 unfold execOp
 simp only [ho, List.map_toArray, List.map_cons, List.map_nil, h0, Sem.run_bind, buildSl_dslot, Result.andThen_ok, Sem.run_pure]
theorem run_dslot {e : Operand -> Value} (x y : Operand) (ho : o.op = .build 88 #[(0, x), (1, y)]) {i lvl rt : Int} {A1 A3 A4 A5 : Option Addr} {n1 c1 n3 c3 n4 c4 n5 c5 : Nat} (h0 : e x = .int .u64 i) (h1 : e y = .agg #[.int .i64 lvl, .slice A1 n1 c1, .int .i64 rt, .slice A3 n3 c3, .slice A4 n4 c4, .slice A5 n5 c5]) : (execOp e o).run Tryz.prog w = .ok (.value (.agg #[.int .u64 i, .int .i64 lvl, .slice A1 n1 c1, .int .i64 rt, .slice A3 n3 c3, .slice A4 n4 c4, .slice A5 n5 c5])) w := by
 unfold execOp
 simp only [ho, List.map_toArray, List.map_cons, List.map_nil, h0, h1, Sem.run_bind, build_dslot, Result.andThen_ok, Sem.run_pure]
end
section
variable {M D : Nat -> Prop} {w : World} {q : Nat} {L : Value} {xs : List Value} {A : Ar}
theorem docSnoc (h : DocW w M D q L xs A) (hlt : A.sl.length < A.nodes) {w0 w1 w2 : World} {v : Value} {nn : Nat} {s : Sl} {c0 c1 c2 c3 c4 c5 : Value} (hn : IsNd w D c0 c1 c2 c3 c4 c5 s.nd) (hu : U64 s.word) (hnn : w.heap.size <= nn) (hk0 : Keeps Nob w w0)
  (ho : Own w1 (λ b => L.ownBlock = some b \/ (nn <= b /\ b < w1.heap.size)) 88 7 v (A.sl.length + 1) (xs ++ [.int .u64 s.word, c0, c1, c2, c3, c4, c5]))
  (hk : Keeps (λ b => L.ownBlock = some b) w0 w1) (hw2 : w2 = w1.setCell ⟨q, 1, none⟩ v) :
  DocW w2 (λ b => M b \/ Fresh w w2 b) D q v (xs ++ [.int .u64 s.word, c0, c1, c2, c3, c4, c5]) { A with sl := A.sl ++ [s] } /\ Keeps M w w2 := by
 have hbM : ∀ b, L.ownBlock = some b -> M b := λ b hb => (h.row.blk hb).1
 have hk1 : Keeps (λ b => L.ownBlock = some b) w w1 := (hk0.mono (λ _ _ h => h.elim)).trans hk (λ _ _ h => h)
 have hnp := h.rowOff
 have hp1 := h.blk.keeps hk1 hnp
 have hs0 := hk0.size
 have hsz2 : w2.heap.size = w1.heap.size := by rw [hw2]; simp
 have hplt := h.blk.lt
 have hk2 : Keeps (λ b => L.ownBlock = some b \/ b = q) w w2 := by
  rw [hw2]; exact (hk1.mono (λ _ _ h => .inl h)).setCell' (λ _ => .inr rfl) _
 have hk12 : Keeps (λ b => b = q) w1 w2 := by rw [hw2]; exact Keeps.setCell w1 (M := λ b => b = q) rfl v
 have hxl := h.xlen
 have hoff : ∀ b, b < w.heap.size -> D b -> ¬ (L.ownBlock = some b \/ b = q) := λ b _ hd e => by
  rcases e with e | e
  ·exact h.apart b (hbM b e) hd
  ·subst e; exact h.apart _ h.mp hd
 refine ⟨⟨?_, ?_, λ i t hs => ?_, .inl h.mp, λ b hb hd => ?_, λ b hb => ?_, λ b hb => Nat.lt_of_lt_of_le (h.dlt b hb) hk2.size, ?_⟩, hk2.mono (λ b _ hb => by
  rcases hb with hb | rfl
  ·exact hbM b hb
  ·exact h.mp)⟩
 ·rw [hw2]; exact hp1.set_ 1 v
 ·have := ho.keeps hk12 (λ b _ hb e => by
   subst e
   rcases hb with hb | hb
   ·exact hnp hb
   ·omega)
  have := this.mono (T := λ b => M b \/ Fresh w w2 b) (λ b _ hb => by
   rcases hb with hb | hb
   ·exact .inl (hbM b hb)
   ·exact .inr ⟨by omega, by omega⟩)
  simpa using this
 ·by_cases hi : i < A.sl.length
  ·rw [List.getElem?_append_left hi] at hs
   exact ((h.slot i t hs).keeps hk2 hoff).other (λ j _ h2 => List.getElem?_append_left (by omega))
  ·rw [List.getElem?_append_right (by omega)] at hs
   cases hj : i - A.sl.length with
   | zero =>
    rw [hj] at hs; simp at hs; subst hs
    have e : i = A.sl.length := by omega
    subst e
    have hx : ∀ j : Nat, (xs ++ [.int .u64 s.word, c0, c1, c2, c3, c4, c5])[A.sl.length * 7 + j]? = [Value.int .u64 s.word, c0, c1, c2, c3, c4, c5][j]? := λ j => by
     rw [List.getElem?_append_right (by omega)]
     congr 1; omega
    exact ⟨c0, c1, c2, c3, c4, c5, by have := hx 0; simpa using this, by rw [hx 1]; rfl, by rw [hx 2]; rfl, by rw [hx 3]; rfl, by rw [hx 4]; rfl, by rw [hx 5]; rfl, by rw [hx 6]; rfl, hn.keeps hk2 hoff, hu⟩
   | succ r => rw [hj] at hs; simp at hs
 ·rcases hb with hb | hb
  ·exact h.apart b hb hd
  ·have := h.dlt b hd; have := hb.1; omega
 ·rcases hb with hb | hb
  ·exact Nat.lt_of_lt_of_le (h.mlt b hb) hk2.size
  ·exact hb.2
 ·have := h.bound
  simp; omega
def CopyAt (w0 w : World) (P : Nat) (Lv : Value) (A : Ar) (k : Nat) : Prop := ∃ M D xs, DocW w M D P Lv xs { A with sl := A.sl.take k } /\ (∀ x, M x -> w0.heap.size <= x) /\ (∀ x, D x -> w0.heap.size <= x) /\ Keeps Nob w0 w
set_option maxRecDepth 100000 in
theorem copyR (h0 : DocW w M D q L xs A) (hsm : ∀ s ∈ A.sl, NdSm 0 s.nd) : Calls Tryz.prog 63 #[pV q] w λ e w' => ∃ q', e = .returned (pV q') /\ ∃ Lv, CopyAt w w' q' Lv A A.sl.length := by
 have H0 := Hd h0
 have HSM := Hd hsm
 have hbd := h0.bound
 clear h0 hsm
 unfold pV
 go_enter Tryz.func63, Tryz.ntmps63
 go_upto_region 1 with (fail)
 have s0 : w.cell? ⟨q, 0, none⟩ = some (.int .i64 A.nodes) := H0.out.blk.cell 0
 have s2 : w.cell? ⟨q, 2, none⟩ = some (.int .i64 A.root) := H0.out.blk.cell 2
 refine rC_ [0, 1, 2, 3, 4, 5, 6, 7, 8, 9, 10] 11 (λ W => W.cell? ⟨q, 0, none⟩ = some (.int .i64 A.nodes) /\ W.cell? ⟨q, 2, none⟩ = some (.int .i64 A.root)) ⟨s0, s2⟩ ?_
 refine canon_at (λ v0 hw => ?_)
 have hk : Keeps Nob w v0 := by rw [hw]; exact Keeps.drew _ _
 have K := Hd hk
 have HQ := Hd (And.intro (hk.cell s0 id) (hk.cell s2 id))
 clear hw hk s0 s2
 have hpos : True := trivial
 iterate 9
  refine cR_ (v := ?_) rfl ?_ ?_
  rotate_left
  ·intro W hW
   try (obtain ⟨g1, g2⟩ : _ /\ _ := hW)
   go_simp
   try simp only [if_pos hpos, Int.toNat_natCast]
   try rfl
  simp only [Act.put, sa_, sb_, sc_]
 refine cA_ rfl ?_
 go_wp2
 refine canon_at' (λ w1 hw => ?_)
 obtain ⟨P3, hP⟩ : ∃ N, v0.heap.size = N := ⟨_, rfl⟩
 have hP3 : w.heap.size <= P3 := by rw [<- hP]; exact K.out.size
 rw [hP]
 have hk : Keeps Nob v0 w1 := by rw [hw]; exact Keeps.alloc _ _ _
 have hb : Blk w1 P3 91 #[.int .i64 A.nodes, .slice none 0 0, .int .i64 A.root] := by rw [hw, <- hP]; exact Blk.new _ _ _
 replace K := tq_ K hk
 refine ⟨.inr ⟨hk.cell HQ.out.1 id, hk.cell HQ.out.2 id⟩, ?_⟩
 have HCP : Hid (CopyAt w w1 P3 (.slice none 0 0) A 0) := by
  refine ⟨λ x => x = P3, Nob, [], ⟨hb, ?_, λ i s hs => ?_, rfl, λ _ _ h => h, λ b e => ?_, λ b h => h.elim, ?_⟩, λ x e => ?_, λ x h => h.elim, K.out⟩
  ·simpa using Own.nil w1 (λ x => x = P3) 88 7
  ·simp at hs
  ·have e2 : b = P3 := e; rw [e2]; exact hb.lt
  ·simp; omega
  ·have e2 : x = P3 := e; rw [e2]; exact hP3
 have HP3 : Hid (w.heap.size <= P3) := hP3
 clear hw hk hb hP hP3 K HQ hpos
 iterate 1
  refine cR_ (v := ?_) rfl ?_ ?_
  rotate_left
  ·intro W hW
   go_simp
   try rfl
  simp only [Act.put, sa_, sb_, sc_]
 refine wpCanon_nil ?_
 go_wp2
 go_loopw [4] (λ iv wr => ∃ k : Nat, k <= A.sl.length /\ iv = .int .i64 k /\ ∃ Lv, CopyAt w wr P3 Lv A k) (λ iv _ => A.sl.length - (intOf iv).toNat)
 case atStart => exact ⟨0, Nat.zero_le _, rfl, _, HCP.out⟩
 clear HCP
 obtain ⟨k, hk, rfl, Lv, M1, D1, ys, hD1, hM1, hDD1, hkr⟩ := hrel
 have HD := Hd hD1
 have HMN := Hd hM1
 have HDN := Hd hDD1
 have K := Hd hkr
 have HA := Hd (H0.out.keeps hkr (λ _ _ _ h => h) (λ _ _ _ h => h))
 have hal : A.sl.length <= 65536 := by omega
 obtain ⟨aL, cL0, eL⟩ := H0.out.row.form
 have hLq : wr.cell? ⟨q, 1, none⟩ = some (.slice aL A.sl.length cL0) := by have h := HA.out.blk.cell 1; rw [eL] at h; exact h
 clear hD1 hM1 hDD1 hkr
 rcases Nat.lt_or_ge k A.sl.length with hlt | hlt
 rotate_left
 ·obtain rfl : k = A.sl.length := by omega
  clear eL
  go_wp2
  go_ret
  exact ⟨_, rfl, _, M1, D1, ys, HD.out, HMN.out, HDN.out, K.out⟩
 clear eL hLq aL cL0
 obtain ⟨s, hs⟩ : ∃ s, A.sl[k]? = some s := ⟨_, List.getElem?_eq_getElem hlt⟩
 have hg : A.get ((k : Int) + 1) = some s := by unfold Ar.get; rw [if_pos (by omega), show ((k : Int) + 1 - 1).toNat = k by omega]; exact hs
 have HSM1 := Hd (HSM.out s (List.mem_of_getElem? hs))
 obtain ⟨i0, g, o, cL, e0, _, _, _, _, hL1, hmg, _, hcw, _, hu⟩ := HA.out.at_ hg
 obtain rfl : k = i0 := by omega
 obtain ⟨i, g', o', cL', e1, _, _, hL, X1, k1, X3, k3, X4, k4, X5, k5, n0, n1, n2, n3, n4, n5, hnd⟩ := DocW.mono_ HA.out hg
 obtain rfl : k = i := by omega
 rw [hL1] at hL
 injection hL with e2 _ e3
 injection e2 with e2
 injection e2 with e2 e4
 subst e2 e3 e4
 have HS := Hd hs
 have HU := Hd hu
 have HN := Hd hnd
 have sq : wr.cell? ⟨q, 1, none⟩ = some (.slice (some ⟨g, o, none⟩) A.sl.length cL) := by have h := HA.out.blk.cell 1; rw [hL1] at h; exact h
 obtain ⟨BA, bc, eB⟩ := HD.out.row.form
 have etk : (A.sl.take k).length = k := by rw [List.length_take]; omega
 simp only [etk] at eB
 subst eB
 have sb : wr.cell? ⟨P3, 1, none⟩ = some (.slice BA k bc) := HD.out.blk.cell 1
 go_upto_region 5 with (fail)
 refine rC_ [0, 1, 2, 3, 4, 5, 6, 7, 8, 9, 10, 11, 12, 13, 14, 15, 16, 17, 18, 19, 20, 21, 22, 23, 24, 25, 26, 27] 27 (λ W => W.cell? ⟨P3, 1, none⟩ = some (.slice BA k bc) /\ W.cell? ⟨q, 1, none⟩ = some (.slice (some ⟨g, o, none⟩) A.sl.length cL) /\ W.cell? ⟨g, o + k * 7, none⟩ = some (.int .u64 s.word) /\ W.cell? ⟨g, o + k * 7 + 1, none⟩ = some (.int .i64 s.nd.lvl) /\ W.cell? ⟨g, o + k * 7 + 2, none⟩ = some (.slice X1 s.nd.high.length k1) /\ W.cell? ⟨g, o + k * 7 + 3, none⟩ = some (.int .i64 s.nd.right) /\ W.cell? ⟨g, o + k * 7 + 4, none⟩ = some (.slice X3 s.nd.keys.length k3) /\ W.cell? ⟨g, o + k * 7 + 5, none⟩ = some (.slice X4 s.nd.vals.length k4) /\ W.cell? ⟨g, o + k * 7 + 6, none⟩ = some (.slice X5 s.nd.kids.length k5)) ⟨sb, sq, hcw, n0, n1, n2, n3, n4, n5⟩ ?_
 refine canon_at (λ v1 hw => ?_)
 have hk : Keeps Nob wr v1 := by rw [hw]; exact Keeps.drew _ _
 have HC : Hid (v1.cell? ⟨P3, 1, none⟩ = some (.slice BA k bc) /\ v1.cell? ⟨q, 1, none⟩ = some (.slice (some ⟨g, o, none⟩) A.sl.length cL) /\ v1.cell? ⟨g, o + k * 7, none⟩ = some (.int .u64 s.word) /\ v1.cell? ⟨g, o + k * 7 + 1, none⟩ = some (.int .i64 s.nd.lvl) /\ v1.cell? ⟨g, o + k * 7 + 2, none⟩ = some (.slice X1 s.nd.high.length k1) /\ v1.cell? ⟨g, o + k * 7 + 3, none⟩ = some (.int .i64 s.nd.right) /\ v1.cell? ⟨g, o + k * 7 + 4, none⟩ = some (.slice X3 s.nd.keys.length k3) /\ v1.cell? ⟨g, o + k * 7 + 5, none⟩ = some (.slice X4 s.nd.vals.length k4) /\ v1.cell? ⟨g, o + k * 7 + 6, none⟩ = some (.slice X5 s.nd.kids.length k5)) := Hd ⟨hk.cell sb id, hk.cell sq id, hk.cell hcw id, hk.cell n0 id, hk.cell n1 id, hk.cell n2 id, hk.cell n3 id, hk.cell n4 id, hk.cell n5 id⟩
 replace HD := Hd (HD.out.keeps hk (λ _ _ _ h => h) (λ _ _ _ h => h))
 replace HN := Hd (HN.out.keeps hk (λ _ _ _ h => h))
 replace K := tq_ K hk
 have HGQ : Hid (g < w.heap.size /\ q < w.heap.size) := Hd ⟨H0.out.mlt g hmg, H0.out.blk.lt⟩
 clear hw hk sb sq hcw n0 n1 n2 n3 n4 n5 hnd hu hs hg e0 e1 hL1 hmg HA
 have hpos : 0 <= (k : Int) /\ (k : Int) < (A.sl.length : Int) := by omega
 iterate 21
  refine cR_ (v := ?_) rfl ?_ ?_
  rotate_left
  ·intro W hW
   try (obtain ⟨g1, g2, g3, g4, g5, g6, g7, g8, g9⟩ : _ /\ _ /\ _ /\ _ /\ _ /\ _ /\ _ /\ _ /\ _ := hW)
   go_simp
   try simp only [if_pos hpos, Int.toNat_natCast]
   try rfl
  simp only [Act.put, sa_, sb_, sc_]
 refine cA_ rfl ?_
 go_wp2_with (go_at_call 88; refine (cloneR HN.out HSM1.out).mono ?_; rintro e v2 ⟨d0, d1, d2, d3, d4, d5, rfl, hn2, hk, _, _, _⟩)
 obtain ⟨Y1, m1, f1⟩ := hn2.1.high.form
 obtain ⟨Y3, m3, f3⟩ := hn2.2.keys.form
 obtain ⟨Y4, m4, f4⟩ := hn2.2.vals.form
 obtain ⟨Y5, m5, f5⟩ := hn2.2.kids.form
 have f0 := hn2.1.lvl
 have f2 := hn2.1.right
 unfold iV at f0 f2
 subst f0 f1 f2 f3 f4 f5
 replace HC : Hid (v2.cell? ⟨P3, 1, none⟩ = some (.slice BA k bc) /\ v2.cell? ⟨q, 1, none⟩ = some (.slice (some ⟨g, o, none⟩) A.sl.length cL) /\ v2.cell? ⟨g, o + k * 7, none⟩ = some (.int .u64 s.word) /\ v2.cell? ⟨g, o + k * 7 + 1, none⟩ = some (.int .i64 s.nd.lvl) /\ v2.cell? ⟨g, o + k * 7 + 2, none⟩ = some (.slice X1 s.nd.high.length k1) /\ v2.cell? ⟨g, o + k * 7 + 3, none⟩ = some (.int .i64 s.nd.right) /\ v2.cell? ⟨g, o + k * 7 + 4, none⟩ = some (.slice X3 s.nd.keys.length k3) /\ v2.cell? ⟨g, o + k * 7 + 5, none⟩ = some (.slice X4 s.nd.vals.length k4) /\ v2.cell? ⟨g, o + k * 7 + 6, none⟩ = some (.slice X5 s.nd.kids.length k5)) := Hd ⟨hk.cell HC.out.1 id, hk.cell HC.out.2.1 id, hk.cell HC.out.2.2.1 id, hk.cell HC.out.2.2.2.1 id, hk.cell HC.out.2.2.2.2.1 id, hk.cell HC.out.2.2.2.2.2.1 id, hk.cell HC.out.2.2.2.2.2.2.1 id, hk.cell HC.out.2.2.2.2.2.2.2.1 id, hk.cell HC.out.2.2.2.2.2.2.2.2 id⟩
 have HN2 : Hid (IsNd v2 (DF D1 v1 v2) (.int .i64 s.nd.lvl) (.slice Y1 s.nd.high.length m1) (.int .i64 s.nd.right) (.slice Y3 s.nd.keys.length m3) (.slice Y4 s.nd.vals.length m4) (.slice Y5 s.nd.kids.length m5) s.nd) := Hd (hn2.r.mono (λ x _ hx => .inr hx))
 replace HD := Hd (HD.out.grown hk)
 have HDN2 : Hid (∀ x, DF D1 v1 v2 x -> w.heap.size <= x) := λ x hx => by
  rcases hx with hx | hx
  ·exact HDN.out x hx
  ·exact Nat.le_trans K.out.size hx.1
 replace K := tq_ K hk
 clear hk hn2 HN
 refine ⟨.inr HC.out, ?_⟩
 refine wpCanon_read (v := .agg #[.int .u64 s.word, .int .i64 s.nd.lvl, .slice Y1 s.nd.high.length m1, .int .i64 s.nd.right, .slice Y3 s.nd.keys.length m3, .slice Y4 s.nd.vals.length m4, .slice Y5 s.nd.kids.length m5]) rfl (by kernel_rfl) (by rfl) (λ W _ => run_dslot (.tmp 36) (.tmp 45) rfl rfl rfl) ?_
 simp only [Act.put, sa_, sb_, sc_]
 refine cA_ rfl ?_
 refine wpList_dslotSl rfl (.tmp 46) rfl rfl ?_
 simp only [Act.put, sa_, sb_, sc_]
 go_wp2
 refine canon_at' (λ v3 hw => ?_)
 obtain ⟨N7, hN⟩ : ∃ N, v2.heap.size = N := ⟨_, rfl⟩
 rw [hN]
 have hk : Keeps Nob v2 v3 := by rw [hw]; exact Keeps.alloc _ _ _
 have hlit : SlG v3 (λ _ => True) 7 (.slice (some ⟨N7, 0, none⟩) 1 1) 1 [.int .u64 s.word, .int .i64 s.nd.lvl, .slice Y1 s.nd.high.length m1, .int .i64 s.nd.right, .slice Y3 s.nd.keys.length m3, .slice Y4 s.nd.vals.length m4, .slice Y5 s.nd.kids.length m5] := by
  rw [hw, <- hN]; exact (SlG.lit _ _ [.int .u64 s.word, .int .i64 s.nd.lvl, .slice Y1 s.nd.high.length m1, .int .i64 s.nd.right, .slice Y3 s.nd.keys.length m3, .slice Y4 s.nd.vals.length m4, .slice Y5 s.nd.kids.length m5] 7 1 _ (by simp) rfl (by decide)).mono (λ _ _ _ => trivial)
 have HLIT := Hd hlit
 have HK3 := Hd hk
 replace HC : Hid (v3.cell? ⟨P3, 1, none⟩ = some (.slice BA k bc) /\ v3.cell? ⟨q, 1, none⟩ = some (.slice (some ⟨g, o, none⟩) A.sl.length cL) /\ v3.cell? ⟨g, o + k * 7, none⟩ = some (.int .u64 s.word) /\ v3.cell? ⟨g, o + k * 7 + 1, none⟩ = some (.int .i64 s.nd.lvl) /\ v3.cell? ⟨g, o + k * 7 + 2, none⟩ = some (.slice X1 s.nd.high.length k1) /\ v3.cell? ⟨g, o + k * 7 + 3, none⟩ = some (.int .i64 s.nd.right) /\ v3.cell? ⟨g, o + k * 7 + 4, none⟩ = some (.slice X3 s.nd.keys.length k3) /\ v3.cell? ⟨g, o + k * 7 + 5, none⟩ = some (.slice X4 s.nd.vals.length k4) /\ v3.cell? ⟨g, o + k * 7 + 6, none⟩ = some (.slice X5 s.nd.kids.length k5)) := Hd ⟨hk.cell HC.out.1 id, hk.cell HC.out.2.1 id, hk.cell HC.out.2.2.1 id, hk.cell HC.out.2.2.2.1 id, hk.cell HC.out.2.2.2.2.1 id, hk.cell HC.out.2.2.2.2.2.1 id, hk.cell HC.out.2.2.2.2.2.2.1 id, hk.cell HC.out.2.2.2.2.2.2.2.1 id, hk.cell HC.out.2.2.2.2.2.2.2.2 id⟩
 clear hw hk hN hlit
 refine ⟨.inr HC.out, ?_⟩
 obtain ⟨j0, hi0, hz0, hz1, hz2⟩ := info_parts Tryz.inf_dslot
 refine cA_ rfl ?_
 go_wp2_with (at_builtin; refine wpList_app rfl (.tmp 28) (.tmp 47) 89 rfl Tryz.underlying89 hi0 hz0 hz1 hz2 rfl (by decide) (v := .slice BA k bc) (n := k) (m := 1) (S := M1) (T := λ _ => True) (xs := ys) (news := [.int .u64 s.word, .int .i64 s.nd.lvl, .slice Y1 s.nd.high.length m1, .int .i64 s.nd.right, .slice Y3 s.nd.keys.length m3, .slice Y4 s.nd.vals.length m4, .slice Y5 s.nd.kids.length m5]) rfl ?e1 (y := .slice (some ⟨N7, 0, none⟩) 1 1) rfl ?e2 ?e3 ?e4 ?e5 ?e6)
 case e1 => have h := HD.out.row.keeps HK3.out (λ _ _ _ h => h); simp only [etk] at h; exact h
 case e2 => exact HLIT.out
 case e3 => intro u hu; simp only [List.mem_cons, List.not_mem_nil, or_false] at hu; rcases hu with h | h | h | h | h | h | h <;> subst h <;> rfl
 case e4 => unfold maxLen; omega
 case e5 => omega
 case e6 =>
 intro v' v4 hown hk4 _
 obtain ⟨B1, b1, hf⟩ := hown.form
 subst hf
 have hoff : ∀ x, (Value.slice BA k bc).ownBlock = some x -> w.heap.size <= x := λ x hx => HMN.out x (HD.out.row.blk hx).1
 have hoffP : ¬ (Value.slice BA k bc).ownBlock = some P3 := HD.out.rowOff
 have hgq := HGQ.out
 replace HC : Hid (v4.cell? ⟨P3, 1, none⟩ = some (.slice BA k bc) /\ v4.cell? ⟨q, 1, none⟩ = some (.slice (some ⟨g, o, none⟩) A.sl.length cL) /\ v4.cell? ⟨g, o + k * 7, none⟩ = some (.int .u64 s.word) /\ v4.cell? ⟨g, o + k * 7 + 1, none⟩ = some (.int .i64 s.nd.lvl) /\ v4.cell? ⟨g, o + k * 7 + 2, none⟩ = some (.slice X1 s.nd.high.length k1) /\ v4.cell? ⟨g, o + k * 7 + 3, none⟩ = some (.int .i64 s.nd.right) /\ v4.cell? ⟨g, o + k * 7 + 4, none⟩ = some (.slice X3 s.nd.keys.length k3) /\ v4.cell? ⟨g, o + k * 7 + 5, none⟩ = some (.slice X4 s.nd.vals.length k4) /\ v4.cell? ⟨g, o + k * 7 + 6, none⟩ = some (.slice X5 s.nd.kids.length k5)) := Hd ⟨hk4.cell HC.out.1 (λ e => hoffP e), hk4.cell HC.out.2.1 (λ e => absurd (hoff _ e) (show ¬ w.heap.size <= q by omega)), hk4.cell HC.out.2.2.1 (λ e => absurd (hoff _ e) (show ¬ w.heap.size <= g by omega)), hk4.cell HC.out.2.2.2.1 (λ e => absurd (hoff _ e) (show ¬ w.heap.size <= g by omega)), hk4.cell HC.out.2.2.2.2.1 (λ e => absurd (hoff _ e) (show ¬ w.heap.size <= g by omega)), hk4.cell HC.out.2.2.2.2.2.1 (λ e => absurd (hoff _ e) (show ¬ w.heap.size <= g by omega)), hk4.cell HC.out.2.2.2.2.2.2.1 (λ e => absurd (hoff _ e) (show ¬ w.heap.size <= g by omega)), hk4.cell HC.out.2.2.2.2.2.2.2.1 (λ e => absurd (hoff _ e) (show ¬ w.heap.size <= g by omega)), hk4.cell HC.out.2.2.2.2.2.2.2.2 (λ e => absurd (hoff _ e) (show ¬ w.heap.size <= g by omega))⟩
 refine ⟨.inr HC.out, ?_⟩
 have hb4 : Blk v4 P3 91 #[.int .i64 A.nodes, .slice BA k bc, .int .i64 A.root] := (HD.out.blk.keeps HK3.out (λ h => h)).keeps hk4 hoffP
 have z1 := hb4.cell 1
 have y1 := hb4.frozen 1
 have HO := Hd hown
 have HK4 := Hd hk4
 clear hown hk4 hoff hoffP hgq hb4 HC hi0 hz0 hz1 hz2 hpos
 iterate 2
  refine cR_ (v := ?_) rfl ?_ ?_
  rotate_left
  ·intro W hW
   go_simp
   try rfl
  simp only [Act.put, sa_, sb_, sc_]
 refine cA_ rfl ?_
 go_wp2
 clear z1 y1
 refine canon_at' (λ v5 hw => ?_)
 refine ⟨.inl (by rfl), ?_⟩
 refine wpCanon_nil ?_
 have R := docSnoc HD.out (by show (A.sl.take k).length < A.nodes; omega) HN2.out HU.out HK3.out.size HK3.out (by simp only [etk]; exact HO.out) HK4.out hw
 have HR := Hd R
 have HK5 : Hid (Keeps Nob w v5) := Hd (K.out.trans R.2 (λ x hx hm => by have := HMN.out x hm; omega))
 clear hw R
 go_wp2
 go_roundw
 case rel =>
  have e1 : A.sl.take (k + 1) = A.sl.take k ++ [s] := by rw [List.take_add_one, HS.out]; rfl
  refine ⟨k + 1, hlt, by go_num, _, _, _, _, by rw [e1]; exact HR.out.1, λ x hx => ?_, HDN2.out, HK5.out⟩
  rcases hx with hx | hx
  ·exact HMN.out x hx
  ·exact Nat.le_trans K.out.size hx.1
 case measure => simp [intOf]; omega
end
end Go.Proofs.YtbhohohgojcapaaGreat

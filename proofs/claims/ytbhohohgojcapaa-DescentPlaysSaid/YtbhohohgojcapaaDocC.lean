/- What the methods Head and Body of the document's arena do. -/
import Derived.Test.YtbhohohgojcapaaDocB
import Derived.Test.YtbhohohgojcapaaArC
namespace Go.Proofs.Ytbhohohgojcapaa
open Go.RowKit

section
variable {M D : Nat → Prop} {w : World} {q : Nat} {L : Value} {xs : List Value} {A : Ar} {ix : Int} {s : Sl}

/-- What a walk asks of the node of a slot that is there. -/
theorem DocW.nd_ (h : DocW w M D q L xs A) (hg : A.get ix = some s) : ∃ i g o c : Nat, ∃ c0 c1 c2 c3 c4 c5, ix = (i : Int) + 1 ∧ A.sl[i]? = some s ∧ (ix - 1).toNat = i ∧ i < A.sl.length ∧ A.sl.length ≤ 65536 ∧ L = .slice (some ⟨g, o, none⟩) A.sl.length c ∧ M g ∧ (∃ cur, Blk w g 81 cur) ∧
    w.cell? ⟨g, o + i * 7 + 1, none⟩ = some c0 ∧ w.cell? ⟨g, o + i * 7 + 2, none⟩ = some c1 ∧ w.cell? ⟨g, o + i * 7 + 3, none⟩ = some c2 ∧ w.cell? ⟨g, o + i * 7 + 4, none⟩ = some c3 ∧ w.cell? ⟨g, o + i * 7 + 5, none⟩ = some c4 ∧ w.cell? ⟨g, o + i * 7 + 6, none⟩ = some c5 ∧ IsNd w D c0 c1 c2 c3 c4 c5 s.nd := by
  obtain ⟨i, h1, h2, h3⟩ := get_some hg
  have hlt : i < A.sl.length := (List.getElem?_eq_some_iff.1 h2).1
  obtain ⟨g, o, c, e, hm, ⟨cur, hb⟩, hc⟩ := h.form (by omega)
  obtain ⟨c0, c1, c2, c3, c4, c5, g0, g1, g2, g3, g4, g5, g6, g7, g8⟩ := h.slot i s h2
  have := h.bound
  exact ⟨i, g, o, c, c0, c1, c2, c3, c4, c5, h1, h2, h3, hlt, by omega, e, hm, ⟨cur, hb⟩, hc _ _ g1, hc _ _ g2, hc _ _ g3, hc _ _ g4, hc _ _ g5, hc _ _ g6, g7⟩

set_option maxRecDepth 100000 in
set_option maxHeartbeats 800000 in
theorem headR (h : DocW w M D q L xs A) (hsm : ∀ s ∈ A.sl, NdSm 0 s.nd) : Calls Try.prog 63 #[pV q, iV ix] w fun e w' => ∃ d0 d1 d2, e = .returned (.tuple #[.agg #[d0, d1, d2], iV (opErr A ix)]) ∧ OHd w' (Fresh w w') d0 d1 d2 (opNd A ix) ∧ Keeps Nob w w' := by
  cases hg : A.get ix with
  | none =>
    rw [opErr_none hg, opNd_none hg]
    have HA := Lib.hid h
    have HG := Lib.hid hg
    clear h hg hsm
    unfold pV iV
    go_enter Try.func63, Try.ntmps63
    go_wp2_with fail
    refine calls_at (fun wa hw => ?_)
    have hk : Keeps Nob w wa := by rw [hw]; exact Keeps.alloc _ _ _
    have hb : Blk wa w.heap.size 33 #[.int .i64 0, .slice none 0 0, .int .i64 0] := by rw [hw]; exact Blk.new _ _ _
    have H := Lib.hid (thereR (ix := ix) (HA.out.keeps hk (fun _ _ _ => id) (fun _ _ _ => id)))
    rw [HG.out] at H
    have HK := Lib.hid hk
    have HB := Lib.hid hb
    have q := fun i => hb.cell i
    have g := fun i => hb.frozen i
    have l := hb.lt
    clear hw hk hb
    unfold pV iV at H
    refine H.out.mono ?_
    rintro e w' ⟨rfl, rfl⟩
    go_wp2
    refine post_at (fun wb hw => ?_)
    have hk : Keeps (fun b => b = w.heap.size) wa wb := by rw [hw]; exact ((Keeps.setCell _ (M := fun b => b = w.heap.size) rfl _).setCell' (fun _ => rfl) _).setCell' (fun _ => rfl) _
    have hb : Blk wb w.heap.size 33 #[.int .i64 0, .slice none 0 0, .int .i64 0] := by rw [hw]; exact ((HB.out.set_ 0 _).set_ 1 _).set_ 2 _
    clear hw q g l
    have r0 := hb.cell 0
    have r1 := hb.cell 1
    have r2 := hb.cell 2
    refine bodyPost_ret (v := .tuple #[.agg #[.int .i64 0, .slice none 0 0, .int .i64 0], .int .i64 101]) (by simp [results, Try.results63, go_sem, r0, r1, r2]) rfl ⟨_, _, _, rfl, (ONd.zero _ _).1, HK.out.trans hk (fun b hb e => by have h2 : b = _ := e; omega)⟩
  | some s =>
    rw [opErr_some hg, opNd_some hg]
    have hS := hsm s (by obtain ⟨i, _, h2, _⟩ := get_some hg; exact List.mem_of_getElem? h2)
    have HS : Hid (NdSm 0 s.nd) := hS
    have HA := Lib.hid h
    have HG := Lib.hid hg
    clear h hg hsm hS
    unfold pV iV
    go_enter Try.func63, Try.ntmps63
    go_wp2_with fail
    refine calls_at (fun wa hw => ?_)
    have hk : Keeps Nob w wa := by rw [hw]; exact Keeps.alloc _ _ _
    have BR : Hid (Blk wa w.heap.size 33 #[.int .i64 0, .slice none 0 0, .int .i64 0]) := by rw [hw]; exact Blk.new _ _ _
    have ha := HA.out.keeps hk (fun _ _ _ => id) (fun _ _ _ => id)
    have H := Lib.hid (thereR (ix := ix) ha)
    rw [HG.out] at H
    obtain ⟨i, g, o, c, c0, c1, c2, c3, c4, c5, hid, hs, h3, hi, hl, rfl, hm, hgb, hc0, hc1, hc2, hc3, hc4, hc5, hnd⟩ := ha.nd_ HG.out
    have ca : wa.cell? ⟨q, 1, none⟩ = some (.slice (some ⟨g, o, none⟩) A.sl.length c) := ha.blk.cell 1
    have h1 : 1 ≤ ix := by omega
    have h2 : ix ≤ A.sl.length := by omega
    have h3' : ix.toNat - 1 = i := by omega
    obtain ⟨X1, k1, e1, _, _⟩ := hnd.1.high.form
    have e0 := hnd.1.lvl
    have e2 := hnd.1.right
    unfold iV at e0 e2
    subst e0 e1 e2
    have HN := Lib.hid hnd
    have K := Lib.hid hk
    have sza := hk.size
    have ltR := BR.out.lt
    clear hw hk hs hm hid hgb hnd ha HA HG
    unfold pV iV at H
    refine H.out.mono ?_
    rintro e w' ⟨rfl, rfl⟩
    go_wp2_with fail
    refine (cloneR (n := s.nd) (S := D) HN.out HS.out).mono ?_
    rintro e wb ⟨d0, d1, d2, d3, d4, d5, rfl, hO, hk, _⟩
    have f0 := hO.1.lvl
    obtain ⟨Y1, j1, f1⟩ := Own.form hO.1.high
    have f2 := hO.1.right
    unfold iV at f0 f2
    obtain ⟨Y3, j3, f3⟩ := OTx.form hO.2.keys
    obtain ⟨Y4, j4, f4⟩ := OTx.form hO.2.vals
    obtain ⟨Y5, j5, f5⟩ := Own.form hO.2.kids
    subst f0 f1 f2 f3 f4 f5
    replace BR := Lib.hid (BR.out.keeps hk id)
    replace K := Lib.hid (K.out.trans hk (fun _ _ h => h))
    have szb := hk.size
    have HO := Lib.hid hO
    clear hO hk
    have q := fun i => BR.out.cell i
    have g := fun i => BR.out.frozen i
    have l := BR.out.lt
    go_wp2
    refine post_at (fun wc hw => ?_)
    have hk : Keeps (fun b => b = w.heap.size) wb wc := by rw [hw]; exact ((((Keeps.setCell _ (M := fun b => b = w.heap.size) rfl _).setCell' (fun _ => rfl) _).setCell' (fun _ => rfl) _).alloc' _)
    have hb : Blk wc w.heap.size 33 #[.int .i64 s.nd.lvl, .slice Y1 s.nd.high.length j1, .int .i64 s.nd.right] := by rw [hw]; exact (((BR.out.set_ 0 _).set_ 1 _).set_ 2 _).alloc _
    clear hw q g l
    have r0 := hb.cell 0
    have r1 := hb.cell 1
    have r2 := hb.cell 2
    have szc := hk.size
    have ha : Apart 33 := ⟨by decide, by decide, by decide⟩
    refine bodyPost_ret (v := .tuple #[.agg #[.int .i64 s.nd.lvl, .slice Y1 s.nd.high.length j1, .int .i64 s.nd.right], .int .i64 0]) (by simp [results, Try.results63, go_sem, r0, r1, r2]) rfl ⟨_, _, _, rfl, ⟨rfl, ?_, rfl⟩, K.out.trans hk (fun b hb e => by have h2 : b = _ := e; omega)⟩
    · exact (HO.out.1.high.keepsB BR.out ha hk).mono (fun b _ hb => ⟨by have := hb.1; omega, by have := hb.2; omega⟩)

set_option maxRecDepth 100000 in
set_option maxHeartbeats 800000 in
theorem bodyR (h : DocW w M D q L xs A) (hsm : ∀ s ∈ A.sl, NdSm 0 s.nd) : Calls Try.prog 64 #[pV q, iV ix] w fun e w' => ∃ d0 d1 d2, e = .returned (.tuple #[.agg #[d0, d1, d2], iV (opErr A ix)]) ∧ OBd w' (Fresh w w') d0 d1 d2 (opNd A ix) ∧ Keeps Nob w w' := by
  cases hg : A.get ix with
  | none =>
    rw [opErr_none hg, opNd_none hg]
    have HA := Lib.hid h
    have HG := Lib.hid hg
    clear h hg hsm
    unfold pV iV
    go_enter Try.func64, Try.ntmps64
    go_wp2_with fail
    refine calls_at (fun wa hw => ?_)
    have hk : Keeps Nob w wa := by rw [hw]; exact Keeps.alloc _ _ _
    have hb : Blk wa w.heap.size 35 #[.slice none 0 0, .slice none 0 0, .slice none 0 0] := by rw [hw]; exact Blk.new _ _ _
    have H := Lib.hid (thereR (ix := ix) (HA.out.keeps hk (fun _ _ _ => id) (fun _ _ _ => id)))
    rw [HG.out] at H
    have HK := Lib.hid hk
    have HB := Lib.hid hb
    have q := fun i => hb.cell i
    have g := fun i => hb.frozen i
    have l := hb.lt
    clear hw hk hb
    unfold pV iV at H
    refine H.out.mono ?_
    rintro e w' ⟨rfl, rfl⟩
    go_wp2
    refine post_at (fun wb hw => ?_)
    have hk : Keeps (fun b => b = w.heap.size) wa wb := by rw [hw]; exact ((Keeps.setCell _ (M := fun b => b = w.heap.size) rfl _).setCell' (fun _ => rfl) _).setCell' (fun _ => rfl) _
    have hb : Blk wb w.heap.size 35 #[.slice none 0 0, .slice none 0 0, .slice none 0 0] := by rw [hw]; exact ((HB.out.set_ 0 _).set_ 1 _).set_ 2 _
    clear hw q g l
    have r0 := hb.cell 0
    have r1 := hb.cell 1
    have r2 := hb.cell 2
    refine bodyPost_ret (v := .tuple #[.agg #[.slice none 0 0, .slice none 0 0, .slice none 0 0], .int .i64 101]) (by simp [results, Try.results64, go_sem, r0, r1, r2]) rfl ⟨_, _, _, rfl, (ONd.zero _ _).2, HK.out.trans hk (fun b hb e => by have h2 : b = _ := e; omega)⟩
  | some s =>
    rw [opErr_some hg, opNd_some hg]
    have hS := hsm s (by obtain ⟨i, _, h2, _⟩ := get_some hg; exact List.mem_of_getElem? h2)
    have HS : Hid (NdSm 0 s.nd) := hS
    have HA := Lib.hid h
    have HG := Lib.hid hg
    clear h hg hsm hS
    unfold pV iV
    go_enter Try.func64, Try.ntmps64
    go_wp2_with fail
    refine calls_at (fun wa hw => ?_)
    have hk : Keeps Nob w wa := by rw [hw]; exact Keeps.alloc _ _ _
    have BR : Hid (Blk wa w.heap.size 35 #[.slice none 0 0, .slice none 0 0, .slice none 0 0]) := by rw [hw]; exact Blk.new _ _ _
    have ha := HA.out.keeps hk (fun _ _ _ => id) (fun _ _ _ => id)
    have H := Lib.hid (thereR (ix := ix) ha)
    rw [HG.out] at H
    obtain ⟨i, g, o, c, c0, c1, c2, c3, c4, c5, hid, hs, h3, hi, hl, rfl, hm, hgb, hc0, hc1, hc2, hc3, hc4, hc5, hnd⟩ := ha.nd_ HG.out
    have ca : wa.cell? ⟨q, 1, none⟩ = some (.slice (some ⟨g, o, none⟩) A.sl.length c) := ha.blk.cell 1
    have h1 : 1 ≤ ix := by omega
    have h2 : ix ≤ A.sl.length := by omega
    have h3' : ix.toNat - 1 = i := by omega
    obtain ⟨X1, k1, e1, _, _⟩ := hnd.1.high.form
    have e0 := hnd.1.lvl
    have e2 := hnd.1.right
    unfold iV at e0 e2
    obtain ⟨X3, k3, e3, _, _⟩ := hnd.2.keys.form
    obtain ⟨X4, k4, e4, _, _⟩ := hnd.2.vals.form
    obtain ⟨X5, k5, e5, _, _⟩ := hnd.2.kids.form
    subst e0 e1 e2 e3 e4 e5
    have HN := Lib.hid hnd
    have K := Lib.hid hk
    have sza := hk.size
    have ltR := BR.out.lt
    clear hw hk hs hm hid hgb hnd ha HA HG
    unfold pV iV at H
    refine H.out.mono ?_
    rintro e w' ⟨rfl, rfl⟩
    go_wp2_with fail
    refine (cloneR (n := s.nd) (S := D) HN.out HS.out).mono ?_
    rintro e wb ⟨d0, d1, d2, d3, d4, d5, rfl, hO, hk, _⟩
    have f0 := hO.1.lvl
    obtain ⟨Y1, j1, f1⟩ := Own.form hO.1.high
    have f2 := hO.1.right
    unfold iV at f0 f2
    obtain ⟨Y3, j3, f3⟩ := OTx.form hO.2.keys
    obtain ⟨Y4, j4, f4⟩ := OTx.form hO.2.vals
    obtain ⟨Y5, j5, f5⟩ := Own.form hO.2.kids
    subst f0 f1 f2 f3 f4 f5
    replace BR := Lib.hid (BR.out.keeps hk id)
    replace K := Lib.hid (K.out.trans hk (fun _ _ h => h))
    have szb := hk.size
    have HO := Lib.hid hO
    clear hO hk
    have q := fun i => BR.out.cell i
    have g := fun i => BR.out.frozen i
    have l := BR.out.lt
    go_wp2
    refine post_at (fun wc hw => ?_)
    have hk : Keeps (fun b => b = w.heap.size) wb wc := by rw [hw]; exact ((((Keeps.setCell _ (M := fun b => b = w.heap.size) rfl _).setCell' (fun _ => rfl) _).setCell' (fun _ => rfl) _).alloc' _)
    have hb : Blk wc w.heap.size 35 #[.slice Y3 s.nd.keys.length j3, .slice Y4 s.nd.vals.length j4, .slice Y5 s.nd.kids.length j5] := by rw [hw]; exact (((BR.out.set_ 0 _).set_ 1 _).set_ 2 _).alloc _
    clear hw q g l
    have r0 := hb.cell 0
    have r1 := hb.cell 1
    have r2 := hb.cell 2
    have szc := hk.size
    have ha : Apart 35 := ⟨by decide, by decide, by decide⟩
    refine bodyPost_ret (v := .tuple #[.agg #[.slice Y3 s.nd.keys.length j3, .slice Y4 s.nd.vals.length j4, .slice Y5 s.nd.kids.length j5], .int .i64 0]) (by simp [results, Try.results64, go_sem, r0, r1, r2]) rfl ⟨_, _, _, rfl, ⟨?_, ?_, ?_⟩, K.out.trans hk (fun b hb e => by have h2 : b = _ := e; omega)⟩
    · exact (HO.out.2.keys.keepsB BR.out ha hk).mono (fun b _ hb => ⟨by have := hb.1; omega, by have := hb.2; omega⟩)
    · exact (HO.out.2.vals.keepsB BR.out ha hk).mono (fun b _ hb => ⟨by have := hb.1; omega, by have := hb.2; omega⟩)
    · exact (HO.out.2.kids.keepsB BR.out ha hk).mono (fun b _ hb => ⟨by have := hb.1; omega, by have := hb.2; omega⟩)
end
end Go.Proofs.Ytbhohohgojcapaa

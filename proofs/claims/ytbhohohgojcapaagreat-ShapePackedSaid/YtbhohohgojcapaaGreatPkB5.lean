import Derived.Test.YtbhohohgojcapaaGreatPkB4
namespace Go.Proofs.YtbhohohgojcapaaGreat
open Go.ChangeShapes Go.WideShapes Go.ChangeAt Go.RowKit
set_option maxRecDepth 100000

section
variable {H : Type} {enc : TypeId × Value → H} {w : World} {base : Nat} {spare : Nat → Bool} {held : Bool} {fuel : Nat} {cs : List Value} {x : DataW H × List MemPlace}
theorem open_opK (h : DataW.trod enc Tryz.prog w base spare held fuel 95 cs = some x) : ∃ o : OpM, ∃ c0 c1 c2 c3 c4 c5, cs = [.int .i64 o.kd, .int .i64 o.a, .int .i64 o.b, .int .u64 o.w, .bool o.ch, c0, c1, c2, c3, c4, c5] ∧ IsNd w (fun b => b < w.heap.size) c0 c1 c2 c3 c4 c5 o.nd ∧ I64 o.kd ∧ I64 o.a ∧ I64 o.b ∧ U64 o.w ∧ (Sz 95 x.1 → NdSm 59000000000000 o.nd) ∧ (∀ k ∈ o.nd.kids, I64_ k) := by
  obtain ⟨xs, m, _, rfl, hl, hlen, hf⟩ := DataW.trod_struct Tryz.underlying95 h
  have h11 : Tryz.prog.cellsOf 95 = 11 := by kernel_rfl
  have k1 : Tryz.prog.cellsOf 3 = 1 := by kernel_rfl
  have k2 : Tryz.prog.cellsOf 80 = 1 := by kernel_rfl
  have k3 : Tryz.prog.cellsOf 4 = 1 := by kernel_rfl
  have k6 : Tryz.prog.cellsOf 35 = 6 := by kernel_rfl
  rw [h11] at hl
  match cs, hl with
  | [d0, d1, d2, d3, d4, c0, c1, c2, c3, c4, c5], _ =>
    have hs : xs.length = 6 := hlen
    have e0 : DataW.trod enc Tryz.prog w base spare held m 3 (([d0, d1, d2, d3, d4, c0, c1, c2, c3, c4, c5].drop 0).take (Tryz.prog.cellsOf 3)) = xs[0]? := hf 0 _ rfl
    have e1 : DataW.trod enc Tryz.prog w base spare held m 3 (([d0, d1, d2, d3, d4, c0, c1, c2, c3, c4, c5].drop 1).take (Tryz.prog.cellsOf 3)) = xs[1]? := hf 1 _ rfl
    have e2 : DataW.trod enc Tryz.prog w base spare held m 3 (([d0, d1, d2, d3, d4, c0, c1, c2, c3, c4, c5].drop 2).take (Tryz.prog.cellsOf 3)) = xs[2]? := hf 2 _ rfl
    have e3 : DataW.trod enc Tryz.prog w base spare held m 80 (([d0, d1, d2, d3, d4, c0, c1, c2, c3, c4, c5].drop 3).take (Tryz.prog.cellsOf 80)) = xs[3]? := hf 3 _ rfl
    have e4 : DataW.trod enc Tryz.prog w base spare held m 4 (([d0, d1, d2, d3, d4, c0, c1, c2, c3, c4, c5].drop 4).take (Tryz.prog.cellsOf 4)) = xs[4]? := hf 4 _ rfl
    have e5 : DataW.trod enc Tryz.prog w base spare held m 35 (([d0, d1, d2, d3, d4, c0, c1, c2, c3, c4, c5].drop 5).take (Tryz.prog.cellsOf 35)) = xs[5]? := hf 5 _ rfl
    rw [k1] at e0 e1 e2
    rw [k2] at e3
    rw [k3] at e4
    rw [k6] at e5
    obtain ⟨n0, rfl, w0⟩ := open_i1 (e0.trans (List.getElem?_eq_getElem (by omega)))
    obtain ⟨n1, rfl, w1⟩ := open_i1 (e1.trans (List.getElem?_eq_getElem (by omega)))
    obtain ⟨n2, rfl, w2⟩ := open_i1 (e2.trans (List.getElem?_eq_getElem (by omega)))
    obtain ⟨n3, rfl, w3⟩ := open_u1 (e3.trans (List.getElem?_eq_getElem (by omega)))
    obtain ⟨n4, rfl⟩ := open_b1 (e4.trans (List.getElem?_eq_getElem (by omega)))
    obtain ⟨a0, a1, a2, a3, a4, a5, n, he, hn, _, _, hkk, hsm⟩ := open_nd (e5.trans (List.getElem?_eq_getElem (by omega)))
    injection he with he0 he
    injection he with he1 he
    injection he with he2 he
    injection he with he3 he
    injection he with he4 he
    injection he with he5 he
    subst he0 he1 he2 he3 he4 he5
    refine ⟨⟨n0, n1, n2, n3, n4, n⟩, _, _, _, _, _, _, rfl, hn, i64_of w0, i64_of w1, i64_of w2, w3, fun hsz => hsm ?_, hkk⟩
    exact sz_struct hsz Tryz.underlying95 (j := 5) rfl (by rw [List.getElem?_map, List.getElem?_eq_getElem (by omega)]; rfl)

/-- A row of calls. -/
theorem open_opsK {v : Value} (h : DataW.trod enc Tryz.prog w base spare held fuel 71 [v] = some x) (hsz : Sz 71 x.1) : ∃ os, OpsAt w w.heap.size v os ∧ ∀ o ∈ os, ∀ k ∈ o.nd.kids, I64_ k := by
  have hc1 : Tryz.prog.cellsOf 95 = 11 := by kernel_rfl
  rcases DataW.trod_slice Tryz.underlying71 h with ⟨e, _⟩ | ⟨a, len, cap, elems, rest, n, _, e, hx, hb, hlc, hcm, hel, hcells, _, _⟩
  · injection e with e _
    subst e
    exact ⟨[], ⟨none, 0, rfl, Nat.le_refl _, by decide, by decide, fun h => absurd rfl h⟩, fun o ho => by simp at ho⟩
  · injection e with e _
    subst e
    rw [hx] at hsz
    obtain ⟨g1, g2⟩ := sz_slice hsz Tryz.underlying71
    have h4 : Tryz.prog.bytesOf 95 = 152 := by kernel_rfl
    rw [h4, reach_eq, List.length_map, hel] at g1
    obtain ⟨os, h2, h3⟩ := list_of (P := fun i o => ∃ cs : Array Value, (IsOp w (fun b => b < w.heap.size) cs o ∧ ∀ k ∈ o.nd.kids, I64_ k) ∧ ∀ (j : Nat) x, cs[j]? = some x → w.cell? (a.add (i * 11 + j)) = some x) len (fun i hi => by
      have := hcells i hi
      rw [hc1, List.getElem?_eq_getElem (by omega)] at this
      obtain ⟨us, hus, hd⟩ := Option.bind_eq_some_iff.1 this
      obtain ⟨_, hul, hue⟩ := World.cells?_some hus
      obtain ⟨o, c0, c1, c2, c3, c4, c5, rfl, hn, i1, i2, i3, i4, i5, i6⟩ := open_opK hd
      refine ⟨o, _, ⟨⟨⟨c0, c1, c2, c3, c4, c5, rfl, hn⟩, i1, i2, i3, i4, (i5 (g2 _ (List.mem_map.2 ⟨_, List.getElem_mem _, rfl⟩))).mono (by decide)⟩, i6⟩, fun j y hy => ?_⟩
      have hj : j < 11 := (Array.getElem?_eq_some_iff.1 hy).1
      have := hue j hj
      rw [add_add_] at this
      rw [this]
      simpa using hy)
    refine ⟨os, ⟨some a, cap, by rw [h2], by omega, hcm, by omega, fun hne => ⟨a, rfl, ?_, fun i o ho => by obtain ⟨cs, h4, h5⟩ := h3 i o ho; exact ⟨cs, h4.1, h5⟩⟩⟩, fun o ho => by obtain ⟨i, hi⟩ := List.getElem?_of_mem ho; obtain ⟨cs, h4, _⟩ := h3 i o hi; exact h4.2⟩
    obtain ⟨o, ho⟩ : ∃ o, os[0]? = some o := by cases os with | nil => exact absurd rfl hne | cons o l => exact ⟨o, rfl⟩
    obtain ⟨cs, ⟨⟨⟨c0, c1, c2, c3, c4, c5, rfl, _⟩, _⟩, _⟩, hc⟩ := h3 0 o ho
    have := World.block_lt_of_cell? _ _ (hc 0 _ rfl)
    rwa [blk_add] at this
theorem open_tree11 (h : DataW.trod enc Tryz.prog w base spare held fuel 73 cs = some x) (hsz : Sz 73 x.1) : ∃ (os : List OpM) (v : Value) (a0 a1 a2 a3 a4 : Int), cs = [v, .int .i64 a0, .int .i64 a1, .int .i64 a2, .int .i64 a3, .int .i64 a4] ∧ OpsAt w w.heap.size v os ∧ ∀ o ∈ os, ∀ k ∈ o.nd.kids, I64_ k := by
  obtain ⟨xs, m, _, rfl, hl, hlen, hf⟩ := DataW.trod_struct Tryz.underlying73 h
  have h8 : Tryz.prog.cellsOf 73 = 6 := by kernel_rfl
  have k1 : Tryz.prog.cellsOf 71 = 1 := by kernel_rfl
  have k2 : Tryz.prog.cellsOf 49 = 5 := by kernel_rfl
  rw [h8] at hl
  match cs, hl with
  | [d0, d1, d2, d3, d4, d5], _ =>
    have hs : xs.length = 2 := hlen
    have e0 : DataW.trod enc Tryz.prog w base spare held m 71 (([d0, d1, d2, d3, d4, d5].drop 0).take (Tryz.prog.cellsOf 71)) = xs[0]? := hf 0 _ rfl
    have e1 : DataW.trod enc Tryz.prog w base spare held m 49 (([d0, d1, d2, d3, d4, d5].drop 1).take (Tryz.prog.cellsOf 49)) = xs[1]? := hf 1 _ rfl
    rw [k1] at e0
    rw [k2] at e1
    have z0 := sz_struct hsz Tryz.underlying73 (j := 0) rfl (by rw [List.getElem?_map, List.getElem?_eq_getElem (by omega)]; rfl)
    obtain ⟨os, ho, hk⟩ := open_opsK (e0.trans (List.getElem?_eq_getElem (by omega))) z0
    obtain ⟨n0, n1, n2, n3, n4, hc, _⟩ := open_cfg (e1.trans (List.getElem?_eq_getElem (by omega)))
    injection hc with h1 hc
    injection hc with h2 hc
    injection hc with h3 hc
    injection hc with h4 hc
    injection hc with h5 hc
    subst h1 h2 h3 h4 h5
    exact ⟨os, _, n0, n1, n2, n3, n4, rfl, ho, hk⟩
end
end Go.Proofs.YtbhohohgojcapaaGreat

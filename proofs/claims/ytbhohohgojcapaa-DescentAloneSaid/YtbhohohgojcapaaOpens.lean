/- Arguments of law 10, opened: a call, a row of calls. A row of structures, opened. -/
import Derived.Test.YtbhohohgojcapaaOpen
import Derived.Test.YtbhohohgojcapaaRaws
namespace Go.Proofs.Ytbhohohgojcapaa
open Go.ChangeShapes Go.WideShapes Go.ChangeAt Go.RowKit
set_option maxRecDepth 100000

section
variable {H : Type} {enc : TypeId × Value → H} {w : World} {base : Nat} {spare : Nat → Bool} {held : Bool} {fuel : Nat} {cs : List Value} {x : DataW H × List MemPlace}

theorem open_u1 {v : Value} (h : DataW.trod enc Try.prog w base spare held fuel 31 [v] = some x) : ∃ n : Nat, v = .int .u64 n ∧ U64 n := by
  obtain ⟨n, e, _, hw⟩ := DataW.trod_int Try.underlying31 h
  injection e with e _
  obtain ⟨h1, h2⟩ := bounds_u64 hw
  obtain ⟨m, rfl⟩ : ∃ m : Nat, n = (m : Int) := ⟨n.toNat, by omega⟩
  exact ⟨m, e, by unfold U64; omega⟩
theorem open_b1 {v : Value} (h : DataW.trod enc Try.prog w base spare held fuel 4 [v] = some x) : ∃ b, v = .bool b := by
  obtain ⟨b, e, _⟩ := DataW.trod_bool Try.underlying4 h
  injection e with e _
  exact ⟨b, e⟩
theorem i64_of {n : Int} (h : I64_ n) : I64 n := bounds_i64 h

/-- A call. -/
theorem open_op (h : DataW.trod enc Try.prog w base spare held fuel 39 cs = some x) : ∃ o : OpM, ∃ c0 c1 c2 c3 c4 c5, cs = [.int .i64 o.kd, .int .i64 o.a, .int .i64 o.b, .int .u64 o.w, .bool o.ch, c0, c1, c2, c3, c4, c5] ∧ IsNd w (fun b => b < w.heap.size) c0 c1 c2 c3 c4 c5 o.nd ∧ I64 o.kd ∧ I64 o.a ∧ I64 o.b ∧ U64 o.w ∧ (Sz 39 x.1 → NdSm 59000000000000 o.nd) := by
  obtain ⟨xs, m, _, rfl, hl, hlen, hf⟩ := DataW.trod_struct Try.underlying39 h
  have h11 : Try.prog.cellsOf 39 = 11 := by kernel_rfl
  have k1 : Try.prog.cellsOf 3 = 1 := by kernel_rfl
  have k2 : Try.prog.cellsOf 31 = 1 := by kernel_rfl
  have k3 : Try.prog.cellsOf 4 = 1 := by kernel_rfl
  have k6 : Try.prog.cellsOf 37 = 6 := by kernel_rfl
  rw [h11] at hl
  match cs, hl with
  | [d0, d1, d2, d3, d4, c0, c1, c2, c3, c4, c5], _ =>
    have hs : xs.length = 6 := hlen
    have e0 : DataW.trod enc Try.prog w base spare held m 3 (([d0, d1, d2, d3, d4, c0, c1, c2, c3, c4, c5].drop 0).take (Try.prog.cellsOf 3)) = xs[0]? := hf 0 _ rfl
    have e1 : DataW.trod enc Try.prog w base spare held m 3 (([d0, d1, d2, d3, d4, c0, c1, c2, c3, c4, c5].drop 1).take (Try.prog.cellsOf 3)) = xs[1]? := hf 1 _ rfl
    have e2 : DataW.trod enc Try.prog w base spare held m 3 (([d0, d1, d2, d3, d4, c0, c1, c2, c3, c4, c5].drop 2).take (Try.prog.cellsOf 3)) = xs[2]? := hf 2 _ rfl
    have e3 : DataW.trod enc Try.prog w base spare held m 31 (([d0, d1, d2, d3, d4, c0, c1, c2, c3, c4, c5].drop 3).take (Try.prog.cellsOf 31)) = xs[3]? := hf 3 _ rfl
    have e4 : DataW.trod enc Try.prog w base spare held m 4 (([d0, d1, d2, d3, d4, c0, c1, c2, c3, c4, c5].drop 4).take (Try.prog.cellsOf 4)) = xs[4]? := hf 4 _ rfl
    have e5 : DataW.trod enc Try.prog w base spare held m 37 (([d0, d1, d2, d3, d4, c0, c1, c2, c3, c4, c5].drop 5).take (Try.prog.cellsOf 37)) = xs[5]? := hf 5 _ rfl
    rw [k1] at e0 e1 e2
    rw [k2] at e3
    rw [k3] at e4
    rw [k6] at e5
    obtain ⟨n0, rfl, w0⟩ := open_i1 (e0.trans (List.getElem?_eq_getElem (by omega)))
    obtain ⟨n1, rfl, w1⟩ := open_i1 (e1.trans (List.getElem?_eq_getElem (by omega)))
    obtain ⟨n2, rfl, w2⟩ := open_i1 (e2.trans (List.getElem?_eq_getElem (by omega)))
    obtain ⟨n3, rfl, w3⟩ := open_u1 (e3.trans (List.getElem?_eq_getElem (by omega)))
    obtain ⟨n4, rfl⟩ := open_b1 (e4.trans (List.getElem?_eq_getElem (by omega)))
    obtain ⟨a0, a1, a2, a3, a4, a5, n, he, hn, _, _, _, hsm⟩ := open_nd (e5.trans (List.getElem?_eq_getElem (by omega)))
    injection he with he0 he
    injection he with he1 he
    injection he with he2 he
    injection he with he3 he
    injection he with he4 he
    injection he with he5 he
    subst he0 he1 he2 he3 he4 he5
    refine ⟨⟨n0, n1, n2, n3, n4, n⟩, _, _, _, _, _, _, rfl, hn, i64_of w0, i64_of w1, i64_of w2, w3, fun hsz => hsm ?_⟩
    exact sz_struct hsz Try.underlying39 (j := 5) rfl (by rw [List.getElem?_map, List.getElem?_eq_getElem (by omega)]; rfl)

theorem list_of {P : Nat → OpM → Prop} : ∀ (n : Nat), (∀ i, i < n → ∃ x, P i x) → ∃ ls : List OpM, ls.length = n ∧ ∀ (i : Nat) x, ls[i]? = some x → P i x
  | 0, _ => ⟨[], rfl, fun i x h => by simp at h⟩
  | n + 1, h => by
    obtain ⟨ls, h2, h3⟩ := list_of n (fun i hi => h i (by omega))
    obtain ⟨x, hp⟩ := h n (by omega)
    refine ⟨ls ++ [x], by simp [h2], fun i y hy => ?_⟩
    by_cases hi : i < n
    · rw [List.getElem?_append_left (by omega)] at hy
      exact h3 i y hy
    · rw [List.getElem?_append_right (by omega)] at hy
      have e : i = n := by
        rcases hh : i - ls.length with _ | k
        · omega
        · rw [hh] at hy; simp at hy
      subst e
      rw [h2, Nat.sub_self] at hy
      cases hy
      exact hp

/-- A row of calls. -/
theorem open_ops {v : Value} (h : DataW.trod enc Try.prog w base spare held fuel 67 [v] = some x) (hsz : Sz 67 x.1) : ∃ os, OpsAt w w.heap.size v os := by
  have hc1 : Try.prog.cellsOf 39 = 11 := by kernel_rfl
  rcases DataW.trod_slice Try.underlying67 h with ⟨e, _⟩ | ⟨a, len, cap, elems, rest, n, _, e, hx, hb, hlc, hcm, hel, hcells, _, _⟩
  · injection e with e _
    subst e
    exact ⟨[], none, 0, rfl, Nat.le_refl _, by decide, by decide, fun h => absurd rfl h⟩
  · injection e with e _
    subst e
    rw [hx] at hsz
    obtain ⟨g1, g2⟩ := sz_slice hsz Try.underlying67
    have h4 : Try.prog.bytesOf 39 = 152 := by kernel_rfl
    rw [h4, reach_eq, List.length_map, hel] at g1
    obtain ⟨os, h2, h3⟩ := list_of (P := fun i o => ∃ cs : Array Value, IsOp w (fun b => b < w.heap.size) cs o ∧ ∀ (j : Nat) x, cs[j]? = some x → w.cell? (a.add (i * 11 + j)) = some x) len (fun i hi => by
      have := hcells i hi
      rw [hc1, List.getElem?_eq_getElem (by omega)] at this
      obtain ⟨us, hus, hd⟩ := Option.bind_eq_some_iff.1 this
      obtain ⟨_, hul, hue⟩ := World.cells?_some hus
      obtain ⟨o, c0, c1, c2, c3, c4, c5, rfl, hn, i1, i2, i3, i4, i5⟩ := open_op hd
      refine ⟨o, _, ⟨⟨c0, c1, c2, c3, c4, c5, rfl, hn⟩, i1, i2, i3, i4, (i5 (g2 _ (List.mem_map.2 ⟨_, List.getElem_mem _, rfl⟩))).mono (by decide)⟩, fun j y hy => ?_⟩
      have hj : j < 11 := (Array.getElem?_eq_some_iff.1 hy).1
      have := hue j hj
      rw [add_add_] at this
      rw [this]
      simpa using hy)
    refine ⟨os, some a, cap, by rw [h2], by omega, hcm, by omega, fun hne => ⟨a, rfl, ?_, h3⟩⟩
    obtain ⟨o, ho⟩ : ∃ o, os[0]? = some o := by cases os with | nil => exact absurd rfl hne | cons o l => exact ⟨o, rfl⟩
    obtain ⟨cs, ⟨⟨c0, c1, c2, c3, c4, c5, rfl, _⟩, _⟩, hc⟩ := h3 0 o ho
    have := World.block_lt_of_cell? _ _ (hc 0 _ rfl)
    rwa [blk_add] at this
end
end Go.Proofs.Ytbhohohgojcapaa

namespace Go.Proofs.Ytbhohohgojcapaa
open Go.ChangeShapes Go.WideShapes Go.ChangeAt Go.RowKit
set_option maxRecDepth 100000

section
variable {H : Type} {enc : TypeId × Value → H} {w : World} {base : Nat} {spare : Nat → Bool} {held : Bool} {fuel : Nat} {cs : List Value} {x : DataW H × List MemPlace}

end
end Go.Proofs.Ytbhohohgojcapaa

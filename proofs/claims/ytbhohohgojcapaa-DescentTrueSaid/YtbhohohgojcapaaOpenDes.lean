/- A call of law 12, a row of calls, opened. -/
import Derived.Test.YtbhohohgojcapaaOpens
namespace Go.Proofs.Ytbhohohgojcapaa
open Go.ChangeShapes Go.WideShapes Go.ChangeAt Go.RowKit
set_option maxRecDepth 100000

section
variable {H : Type} {enc : TypeId × Value → H} {w : World} {base : Nat} {spare : Nat → Bool} {held : Bool} {fuel : Nat} {cs : List Value} {x : DataW H × List MemPlace}

theorem open_o12 (h : DataW.trod enc Try.prog w base spare held fuel 41 cs = some x) (hsz : Sz 41 x.1) : ∃ o, IsO12 w w.heap.size cs.toArray o ∧ cs.length = 15 := by
  obtain ⟨xs, m, _, rfl, hl, hlen, hf⟩ := DataW.trod_struct Try.underlying41 h
  have hcl : Try.prog.cellsOf 41 = 15 := by kernel_rfl
  have k_int : Try.prog.cellsOf 3 = 1 := by kernel_rfl
  have k_op : Try.prog.cellsOf 39 = 11 := by kernel_rfl
  have k_txt : Try.prog.cellsOf 30 = 1 := by kernel_rfl
  rw [hcl] at hl
  match cs, hl with
  | [d0, d1, d2, d3, d4, d5, d6, d7, d8, d9, d10, d11, d12, d13, d14], _ =>
    have hs : xs.length = 5 := hlen
    have e0 : DataW.trod enc Try.prog w base spare held m 3 (([d0, d1, d2, d3, d4, d5, d6, d7, d8, d9, d10, d11, d12, d13, d14].drop 0).take (Try.prog.cellsOf 3)) = xs[0]? := hf 0 _ rfl
    rw [k_int] at e0
    replace e0 := e0.trans (List.getElem?_eq_getElem (by omega))
    have e1 : DataW.trod enc Try.prog w base spare held m 3 (([d0, d1, d2, d3, d4, d5, d6, d7, d8, d9, d10, d11, d12, d13, d14].drop 1).take (Try.prog.cellsOf 3)) = xs[1]? := hf 1 _ rfl
    rw [k_int] at e1
    replace e1 := e1.trans (List.getElem?_eq_getElem (by omega))
    have e2 : DataW.trod enc Try.prog w base spare held m 3 (([d0, d1, d2, d3, d4, d5, d6, d7, d8, d9, d10, d11, d12, d13, d14].drop 2).take (Try.prog.cellsOf 3)) = xs[2]? := hf 2 _ rfl
    rw [k_int] at e2
    replace e2 := e2.trans (List.getElem?_eq_getElem (by omega))
    have e3 : DataW.trod enc Try.prog w base spare held m 30 (([d0, d1, d2, d3, d4, d5, d6, d7, d8, d9, d10, d11, d12, d13, d14].drop 3).take (Try.prog.cellsOf 30)) = xs[3]? := hf 3 _ rfl
    rw [k_txt] at e3
    replace e3 := e3.trans (List.getElem?_eq_getElem (by omega))
    have e4 : DataW.trod enc Try.prog w base spare held m 39 (([d0, d1, d2, d3, d4, d5, d6, d7, d8, d9, d10, d11, d12, d13, d14].drop 4).take (Try.prog.cellsOf 39)) = xs[4]? := hf 4 _ rfl
    rw [k_op] at e4
    replace e4 := e4.trans (List.getElem?_eq_getElem (by omega))
    obtain ⟨n0, rfl, w0⟩ := open_i1 e0
    obtain ⟨n1, rfl, w1⟩ := open_i1 e1
    obtain ⟨n2, rfl, w2⟩ := open_i1 e2
    obtain ⟨n3, w3, s3⟩ := open_txt e3
    obtain ⟨n4, a0, a1, a2, a3, a4, a5, he, w4, u4, x4, y4, v4, s4⟩ := open_op e4
    injection he with he0 he
    injection he with he1 he
    injection he with he2 he
    injection he with he3 he
    injection he with he4 he
    injection he with he5 he
    injection he with he6 he
    injection he with he7 he
    injection he with he8 he
    injection he with he9 he
    injection he with he10 he
    subst he0 he1 he2 he3 he4 he5 he6 he7 he8 he9 he10
    refine ⟨⟨n0, n1, n2, n3, n4⟩, ⟨_, d9, d10, d11, d12, d13, d14, rfl, w3, ⟨⟨d9, d10, d11, d12, d13, d14, rfl, w4⟩, u4, x4, y4, v4, (s4 (sz_struct hsz Try.underlying41 (j := 4) rfl (by rw [List.getElem?_map, List.getElem?_eq_getElem (by omega)]; rfl))).mono (by decide)⟩, i64_of w0, i64_of w1, i64_of w2, ?_⟩, rfl⟩
    exact (s3 (sz_struct hsz Try.underlying41 (j := 3) rfl (by rw [List.getElem?_map, List.getElem?_eq_getElem (by omega)]; rfl))).mono (by decide)

theorem open_o12s {v : Value} (h : DataW.trod enc Try.prog w base spare held fuel 22 [v] = some x) (hsz : Sz 22 x.1) : ∃ os, O12At w w.heap.size v os :=
  open_row Try.underlying22 (by kernel_rfl) (by kernel_rfl) (by decide) (by decide) (fun _ _ _ h hz => open_o12 h hz) h hsz
end
end Go.Proofs.Ytbhohohgojcapaa

import Derived.Test.YtbhohohgojcapaaGreatPkB3
import Derived.Test.YtbhohohgojcapaaGreatPkC8
namespace Go.Proofs.YtbhohohgojcapaaGreat
open Go.ChangeShapes Go.WideShapes Go.ChangeAt Go.RowKit
set_option maxRecDepth 100000
section
variable {H : Type} {enc : TypeId × Value -> H} {w : World} {base : Nat} {spare : Nat -> Bool} {held : Bool} {fuel : Nat} {cs : List Value} {x : DataW H × List MemPlace}
theorem open_o13 (h : DataW.trod enc Tryz.prog w base spare held fuel 37 cs = some x) (hsz : Sz 37 x.1) : ∃ o, IsO13 w w.heap.size cs.toArray o /\ cs.length = 13 := by
 obtain ⟨xs, m, _, rfl, hl, hlen, hf⟩ := DataW.trod_struct Tryz.underlying37 h
 have hcl : Tryz.prog.cellsOf 37 = 13 := by kernel_rfl
 have k_bool : Tryz.prog.cellsOf 4 = 1 := by kernel_rfl
 have k_int : Tryz.prog.cellsOf 3 = 1 := by kernel_rfl
 have k_nd : Tryz.prog.cellsOf 35 = 6 := by kernel_rfl
 have k_txt : Tryz.prog.cellsOf 23 = 1 := by kernel_rfl
 rw [hcl] at hl
 match cs, hl with
 | [d0, d1, d2, d3, d4, d5, d6, d7, d8, d9, d10, d11, d12], _ =>
  have hs : xs.length = 8 := hlen
  have e0 : DataW.trod enc Tryz.prog w base spare held m 3 (([d0, d1, d2, d3, d4, d5, d6, d7, d8, d9, d10, d11, d12].drop 0).take (Tryz.prog.cellsOf 3)) = xs[0]? := hf 0 _ rfl
  rw [k_int] at e0
  replace e0 := e0.trans (List.getElem?_eq_getElem (by omega))
  have e1 : DataW.trod enc Tryz.prog w base spare held m 3 (([d0, d1, d2, d3, d4, d5, d6, d7, d8, d9, d10, d11, d12].drop 1).take (Tryz.prog.cellsOf 3)) = xs[1]? := hf 1 _ rfl
  rw [k_int] at e1
  replace e1 := e1.trans (List.getElem?_eq_getElem (by omega))
  have e2 : DataW.trod enc Tryz.prog w base spare held m 3 (([d0, d1, d2, d3, d4, d5, d6, d7, d8, d9, d10, d11, d12].drop 2).take (Tryz.prog.cellsOf 3)) = xs[2]? := hf 2 _ rfl
  rw [k_int] at e2
  replace e2 := e2.trans (List.getElem?_eq_getElem (by omega))
  have e3 : DataW.trod enc Tryz.prog w base spare held m 23 (([d0, d1, d2, d3, d4, d5, d6, d7, d8, d9, d10, d11, d12].drop 3).take (Tryz.prog.cellsOf 23)) = xs[3]? := hf 3 _ rfl
  rw [k_txt] at e3
  replace e3 := e3.trans (List.getElem?_eq_getElem (by omega))
  have e4 : DataW.trod enc Tryz.prog w base spare held m 23 (([d0, d1, d2, d3, d4, d5, d6, d7, d8, d9, d10, d11, d12].drop 4).take (Tryz.prog.cellsOf 23)) = xs[4]? := hf 4 _ rfl
  rw [k_txt] at e4
  replace e4 := e4.trans (List.getElem?_eq_getElem (by omega))
  have e5 : DataW.trod enc Tryz.prog w base spare held m 23 (([d0, d1, d2, d3, d4, d5, d6, d7, d8, d9, d10, d11, d12].drop 5).take (Tryz.prog.cellsOf 23)) = xs[5]? := hf 5 _ rfl
  rw [k_txt] at e5
  replace e5 := e5.trans (List.getElem?_eq_getElem (by omega))
  have e6 : DataW.trod enc Tryz.prog w base spare held m 4 (([d0, d1, d2, d3, d4, d5, d6, d7, d8, d9, d10, d11, d12].drop 6).take (Tryz.prog.cellsOf 4)) = xs[6]? := hf 6 _ rfl
  rw [k_bool] at e6
  replace e6 := e6.trans (List.getElem?_eq_getElem (by omega))
  have e7 : DataW.trod enc Tryz.prog w base spare held m 35 (([d0, d1, d2, d3, d4, d5, d6, d7, d8, d9, d10, d11, d12].drop 7).take (Tryz.prog.cellsOf 35)) = xs[7]? := hf 7 _ rfl
  rw [k_nd] at e7
  replace e7 := e7.trans (List.getElem?_eq_getElem (by omega))
  obtain ⟨n0, rfl, w0⟩ := open_i1 e0
  obtain ⟨n1, rfl, w1⟩ := open_i1 e1
  obtain ⟨n2, rfl, w2⟩ := open_i1 e2
  obtain ⟨n3, w3, s3⟩ := open_txt e3
  obtain ⟨n4, w4, s4⟩ := open_txt e4
  obtain ⟨n5, w5, s5⟩ := open_txt e5
  obtain ⟨n6, rfl⟩ := open_b1 e6
  obtain ⟨a0, a1, a2, a3, a4, a5, n7, he, w7, u7, x7, y7, s7⟩ := open_nd e7
  injection he with he0 he
  injection he with he1 he
  injection he with he2 he
  injection he with he3 he
  injection he with he4 he
  injection he with he5 he
  subst he0 he1 he2 he3 he4 he5
  refine ⟨⟨n0, n1, n2, n3, n4, n5, n6, n7⟩, ⟨_, _, _, _, _, _, _, _, _, rfl, ⟨w3, w4, w5, w7⟩, ⟨i64_of w0, i64_of w1, i64_of w2⟩, ?_, ?_, ?_, ?_⟩, rfl⟩
  ·exact s3 (sz_struct hsz Tryz.underlying37 (j := 3) rfl (by rw [List.getElem?_map, List.getElem?_eq_getElem (by omega)]; rfl))
  ·exact s4 (sz_struct hsz Tryz.underlying37 (j := 4) rfl (by rw [List.getElem?_map, List.getElem?_eq_getElem (by omega)]; rfl))
  ·exact s5 (sz_struct hsz Tryz.underlying37 (j := 5) rfl (by rw [List.getElem?_map, List.getElem?_eq_getElem (by omega)]; rfl))
  ·exact s7 (sz_struct hsz Tryz.underlying37 (j := 7) rfl (by rw [List.getElem?_map, List.getElem?_eq_getElem (by omega)]; rfl))
theorem open_o13s {v : Value} (h : DataW.trod enc Tryz.prog w base spare held fuel 22 [v] = some x) (hsz : Sz 22 x.1) : ∃ os, O13At w w.heap.size v os :=
 open_row Tryz.underlying22 (by kernel_rfl) (by kernel_rfl) (by decide) (by decide) (λ _ _ _ h hz => open_o13 h hz) h hsz
end
end Go.Proofs.YtbhohohgojcapaaGreat

import Derived.Test.YtbhohohgojcapaaRows
import Derived.Test.YtbhohohgojcapaaPkA0
import Derived.ProofKit
import Derived.OpenShut
import Derived.SizedLaws
namespace Go.Proofs.Ytbhohohgojcapaa
open Go.ChangeShapes Go.WideShapes Go.ChangeAt Go.RowKit
set_option maxRecDepth 100000

def I64_ (n : Int) : Prop := (Lit.int .i64 n).wf = true

section
variable {H : Type} {enc : TypeId × Value → H} {w : World} {base : Nat} {spare : Nat → Bool} {held : Bool} {fuel : Nat} {cs : List Value} {x : DataW H × List MemPlace}

theorem open_i1 {v : Value} (h : DataW.trod enc Try.prog w base spare held fuel 3 [v] = some x) : ∃ n, v = .int .i64 n ∧ I64_ n := by
  obtain ⟨n, e, _, hw⟩ := DataW.trod_int Try.underlying3 h
  injection e with e _
  exact ⟨n, e, hw⟩

theorem open_cfg (h : DataW.trod enc Try.prog w base spare held fuel 69 cs = some x) : ∃ n0 n1 n2 n3 n4, cs = [.int .i64 n0, .int .i64 n1, .int .i64 n2, .int .i64 n3, .int .i64 n4] ∧ I64_ n0 ∧ I64_ n1 ∧ I64_ n2 ∧ I64_ n3 ∧ I64_ n4 := by
  obtain ⟨xs, m, _, rfl, hl, hlen, hf⟩ := DataW.trod_struct Try.underlying69 h
  have h5 : Try.prog.cellsOf 69 = 5 := by kernel_rfl
  have h1 : Try.prog.cellsOf 3 = 1 := by kernel_rfl
  rw [h5] at hl
  match cs, hl with
  | [c0, c1, c2, c3, c4], _ =>
    have e0 : DataW.trod enc Try.prog w base spare held m 3 (([c0, c1, c2, c3, c4].drop 0).take (Try.prog.cellsOf 3)) = xs[0]? := hf 0 _ rfl
    rw [h1] at e0
    have e1 : DataW.trod enc Try.prog w base spare held m 3 (([c0, c1, c2, c3, c4].drop 1).take (Try.prog.cellsOf 3)) = xs[1]? := hf 1 _ rfl
    rw [h1] at e1
    have e2 : DataW.trod enc Try.prog w base spare held m 3 (([c0, c1, c2, c3, c4].drop 2).take (Try.prog.cellsOf 3)) = xs[2]? := hf 2 _ rfl
    rw [h1] at e2
    have e3 : DataW.trod enc Try.prog w base spare held m 3 (([c0, c1, c2, c3, c4].drop 3).take (Try.prog.cellsOf 3)) = xs[3]? := hf 3 _ rfl
    rw [h1] at e3
    have e4 : DataW.trod enc Try.prog w base spare held m 3 (([c0, c1, c2, c3, c4].drop 4).take (Try.prog.cellsOf 3)) = xs[4]? := hf 4 _ rfl
    rw [h1] at e4
    have hs : xs.length = 5 := hlen
    obtain ⟨n0, rfl, w0⟩ := open_i1 (e0.trans (List.getElem?_eq_getElem (by omega)))
    obtain ⟨n1, rfl, w1⟩ := open_i1 (e1.trans (List.getElem?_eq_getElem (by omega)))
    obtain ⟨n2, rfl, w2⟩ := open_i1 (e2.trans (List.getElem?_eq_getElem (by omega)))
    obtain ⟨n3, rfl, w3⟩ := open_i1 (e3.trans (List.getElem?_eq_getElem (by omega)))
    obtain ⟨n4, rfl, w4⟩ := open_i1 (e4.trans (List.getElem?_eq_getElem (by omega)))
    exact ⟨n0, n1, n2, n3, n4, rfl, w0, w1, w2, w3, w4⟩

end

end Go.Proofs.Ytbhohohgojcapaa

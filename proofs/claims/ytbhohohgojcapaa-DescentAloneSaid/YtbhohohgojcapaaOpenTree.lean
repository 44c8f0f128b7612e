/- The argument of DescentAlone, opened: a row of calls, a configuration, a key, a level. -/
import Derived.Test.YtbhohohgojcapaaOpens
namespace Go.Proofs.Ytbhohohgojcapaa
open Go.ChangeShapes Go.WideShapes Go.ChangeAt Go.RowKit
set_option maxRecDepth 100000

section
variable {H : Type} {enc : TypeId × Value → H} {w : World} {base : Nat} {spare : Nat → Bool} {held : Bool} {fuel : Nat} {cs : List Value} {x : DataW H × List MemPlace}
theorem open_tree (h : DataW.trod enc Try.prog w base spare held fuel 71 cs = some x) (hsz : Sz 71 x.1) : ∃ (os : List OpM) (v : Value) (a0 a1 a2 a3 a4 : Int) (kv : Value) (key : List UInt8) (lev : Int), cs = [v, .int .i64 a0, .int .i64 a1, .int .i64 a2, .int .i64 a3, .int .i64 a4, kv, .int .i64 lev] ∧ OpsAt w w.heap.size v os ∧ Byts w (fun b => b < w.heap.size) kv key ∧ Sm 0 1 key.length ∧ I64 lev := by
  obtain ⟨xs, m, _, rfl, hl, hlen, hf⟩ := DataW.trod_struct Try.underlying71 h
  have h8 : Try.prog.cellsOf 71 = 8 := by kernel_rfl
  have k1 : Try.prog.cellsOf 67 = 1 := by kernel_rfl
  have k2 : Try.prog.cellsOf 69 = 5 := by kernel_rfl
  have k3 : Try.prog.cellsOf 30 = 1 := by kernel_rfl
  have k4 : Try.prog.cellsOf 3 = 1 := by kernel_rfl
  rw [h8] at hl
  match cs, hl with
  | [d0, d1, d2, d3, d4, d5, d6, d7], _ =>
    have hs : xs.length = 4 := hlen
    have e0 : DataW.trod enc Try.prog w base spare held m 67 (([d0, d1, d2, d3, d4, d5, d6, d7].drop 0).take (Try.prog.cellsOf 67)) = xs[0]? := hf 0 _ rfl
    have e1 : DataW.trod enc Try.prog w base spare held m 69 (([d0, d1, d2, d3, d4, d5, d6, d7].drop 1).take (Try.prog.cellsOf 69)) = xs[1]? := hf 1 _ rfl
    have e2 : DataW.trod enc Try.prog w base spare held m 30 (([d0, d1, d2, d3, d4, d5, d6, d7].drop 6).take (Try.prog.cellsOf 30)) = xs[2]? := hf 2 _ rfl
    have e3 : DataW.trod enc Try.prog w base spare held m 3 (([d0, d1, d2, d3, d4, d5, d6, d7].drop 7).take (Try.prog.cellsOf 3)) = xs[3]? := hf 3 _ rfl
    rw [k1] at e0
    rw [k2] at e1
    rw [k3] at e2
    rw [k4] at e3
    have z0 := sz_struct hsz Try.underlying71 (j := 0) rfl (by rw [List.getElem?_map, List.getElem?_eq_getElem (by omega)]; rfl)
    have z2 := sz_struct hsz Try.underlying71 (j := 2) rfl (by rw [List.getElem?_map, List.getElem?_eq_getElem (by omega)]; rfl)
    obtain ⟨os, ho⟩ := open_ops (e0.trans (List.getElem?_eq_getElem (by omega))) z0
    obtain ⟨n0, n1, n2, n3, n4, hc, _⟩ := open_cfg (e1.trans (List.getElem?_eq_getElem (by omega)))
    obtain ⟨key, hk, hsm⟩ := open_txt (e2.trans (List.getElem?_eq_getElem (by omega)))
    obtain ⟨lev, rfl, hw⟩ := open_i1 (e3.trans (List.getElem?_eq_getElem (by omega)))
    injection hc with h1 hc
    injection hc with h2 hc
    injection hc with h3 hc
    injection hc with h4 hc
    injection hc with h5 hc
    subst h1 h2 h3 h4 h5
    exact ⟨os, _, n0, n1, n2, n3, n4, _, key, lev, rfl, ho, hk, (hsm z2).mono (by decide), i64_of hw⟩
end
end Go.Proofs.Ytbhohohgojcapaa

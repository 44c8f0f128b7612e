/- The argument of NodeStays, opened. -/
import Derived.Test.YtdmmhblmgbhgfaaOpen
namespace Go.Proofs.Ytdmmhblmgbhgfaa
open Go.ChangeShapes Go.WideShapes Go.ChangeAt Go.RowKit
set_option maxRecDepth 100000

section
variable {H : Type} {enc : TypeId × Value → H} {w : World} {base : Nat} {spare : Nat → Bool} {held : Bool} {fuel : Nat} {cs : List Value} {x : DataW H × List MemPlace}
theorem open_stay (h : DataW.trod enc Try.prog w base spare held fuel 101 cs = some x) (hsz : Sz 101 x.1) : ∃ (c0 c1 c2 c3 c4 c5 ck cv : Value) (n : Nd) (a0 a1 a2 a3 a4 kid : Int) (key val : List UInt8), cs = [c0, c1, c2, c3, c4, c5, .int .i64 a0, .int .i64 a1, .int .i64 a2, .int .i64 a3, .int .i64 a4, ck, cv, .int .i64 kid] ∧ IsNd w (fun b => b < w.heap.size) c0 c1 c2 c3 c4 c5 n ∧ NdSm 64 n ∧ (∀ k ∈ n.kids, I64_ k) ∧ Byts w (fun b => b < w.heap.size) ck key ∧ Byts w (fun b => b < w.heap.size) cv val := by
  obtain ⟨xs, m, _, rfl, hl, hlen, hf⟩ := DataW.trod_struct Try.underlying101 h
  have h14 : Try.prog.cellsOf 101 = 14 := by kernel_rfl
  have k6 : Try.prog.cellsOf 51 = 6 := by kernel_rfl
  have k5 : Try.prog.cellsOf 82 = 5 := by kernel_rfl
  have k1 : Try.prog.cellsOf 44 = 1 := by kernel_rfl
  have k0 : Try.prog.cellsOf 3 = 1 := by kernel_rfl
  rw [h14] at hl
  match cs, hl with
  | [c0, c1, c2, c3, c4, c5, d0, d1, d2, d3, d4, ck, cv, cd], _ =>
    have hs : xs.length = 5 := hlen
    have e0 : DataW.trod enc Try.prog w base spare held m 51 (([c0, c1, c2, c3, c4, c5, d0, d1, d2, d3, d4, ck, cv, cd].drop 0).take (Try.prog.cellsOf 51)) = xs[0]? := hf 0 _ rfl
    have e1 : DataW.trod enc Try.prog w base spare held m 82 (([c0, c1, c2, c3, c4, c5, d0, d1, d2, d3, d4, ck, cv, cd].drop 6).take (Try.prog.cellsOf 82)) = xs[1]? := hf 1 _ rfl
    have e2 : DataW.trod enc Try.prog w base spare held m 44 (([c0, c1, c2, c3, c4, c5, d0, d1, d2, d3, d4, ck, cv, cd].drop 11).take (Try.prog.cellsOf 44)) = xs[2]? := hf 2 _ rfl
    have e3 : DataW.trod enc Try.prog w base spare held m 44 (([c0, c1, c2, c3, c4, c5, d0, d1, d2, d3, d4, ck, cv, cd].drop 12).take (Try.prog.cellsOf 44)) = xs[3]? := hf 3 _ rfl
    have e4 : DataW.trod enc Try.prog w base spare held m 3 (([c0, c1, c2, c3, c4, c5, d0, d1, d2, d3, d4, ck, cv, cd].drop 13).take (Try.prog.cellsOf 3)) = xs[4]? := hf 4 _ rfl
    rw [k6] at e0
    rw [k5] at e1
    rw [k1] at e2 e3
    rw [k0] at e4
    obtain ⟨b0, b1, b2, b3, b4, b5, n, he, hn, _, _, hk, hsm⟩ := open_nd (e0.trans (List.getElem?_eq_getElem (by omega)))
    obtain ⟨n0, n1, n2, n3, n4, he2, _⟩ := open_cfg (e1.trans (List.getElem?_eq_getElem (by omega)))
    obtain ⟨key, gk, _⟩ := open_txt (e2.trans (List.getElem?_eq_getElem (by omega)))
    obtain ⟨val, gv, _⟩ := open_txt (e3.trans (List.getElem?_eq_getElem (by omega)))
    obtain ⟨kid, rfl, _⟩ := open_i1 (e4.trans (List.getElem?_eq_getElem (by omega)))
    injection he with r0 he
    injection he with r1 he
    injection he with r2 he
    injection he with r3 he
    injection he with r4 he
    injection he with r5 he
    subst r0 r1 r2 r3 r4 r5
    injection he2 with r0 he2
    injection he2 with r1 he2
    injection he2 with r2 he2
    injection he2 with r3 he2
    injection he2 with r4 he2
    subst r0 r1 r2 r3 r4
    exact ⟨_, _, _, _, _, _, _, _, n, _, _, _, _, _, kid, key, val, rfl, hn, hsm (sz_struct hsz Try.underlying101 (j := 0) rfl (by rw [List.getElem?_map, List.getElem?_eq_getElem (by omega)]; rfl)), hk, gk, gv⟩
end
end Go.Proofs.Ytdmmhblmgbhgfaa

import Derived.Test.YtbhohohgojcapaaPkB4
import Derived.Test.YtbhohohgojcapaaPkA8
import Derived.Test.YtbhohohgojcapaaPkA0
import Derived.BigQuiet
namespace Go.Proofs.Ytbhohohgojcapaa
open Go.ChangeShapes Go.WideShapes Go.ChangeAt Go.RowKit
set_option maxRecDepth 100000

/-- Right and kids are numbers of the machine. -/
def Wd64 (n : Nd) : Prop := I64_ n.right ∧ ∀ k ∈ n.kids, I64_ k
section
variable {H : Type} {enc : TypeId × Value → H} {w : World} {base : Nat} {spare : Nat → Bool} {held : Bool} {fuel : Nat} {cs : List Value} {x : DataW H × List MemPlace}
theorem open_opW (h : DataW.trod enc Try.prog w base spare held fuel 39 cs = some x) : ∃ o : OpM, ∃ c0 c1 c2 c3 c4 c5, cs = [.int .i64 o.kd, .int .i64 o.a, .int .i64 o.b, .int .u64 o.w, .bool o.ch, c0, c1, c2, c3, c4, c5] ∧ IsNd w (fun b => b < w.heap.size) c0 c1 c2 c3 c4 c5 o.nd ∧ I64 o.kd ∧ I64 o.a ∧ I64 o.b ∧ U64 o.w ∧ (Sz 39 x.1 → NdSm 59000000000000 o.nd) ∧ Wd64 o.nd := by
  obtain ⟨xs, m, _, rfl, hl, hlen, hf⟩ := DataW.trod_struct Try.underlying39 h
  have h11 : Try.prog.cellsOf 39 = 11 := by kernel_rfl
  have k1 : Try.prog.cellsOf 3 = 1 := by kernel_rfl
  have k2 : Try.prog.cellsOf 31 = 1 := by kernel_rfl
  have k3 : Try.prog.cellsOf 4 = 1 := by kernel_rfl
  have k6 : Try.prog.cellsOf 37 = 6 := by kernel_rfl
  rw [h11] at hl
  match cs, hl with
  | [d0, d1, d2, d3, d4, c0, c1, c2, c3, c4, c5], _ =>
    have hs : xs.length = 6 := hlen
    have e0 : DataW.trod enc Try.prog w base spare held m 3 (([d0, d1, d2, d3, d4, c0, c1, c2, c3, c4, c5].drop 0).take (Try.prog.cellsOf 3)) = xs[0]? := hf 0 _ rfl
    have e1 : DataW.trod enc Try.prog w base spare held m 3 (([d0, d1, d2, d3, d4, c0, c1, c2, c3, c4, c5].drop 1).take (Try.prog.cellsOf 3)) = xs[1]? := hf 1 _ rfl
    have e2 : DataW.trod enc Try.prog w base spare held m 3 (([d0, d1, d2, d3, d4, c0, c1, c2, c3, c4, c5].drop 2).take (Try.prog.cellsOf 3)) = xs[2]? := hf 2 _ rfl
    have e3 : DataW.trod enc Try.prog w base spare held m 31 (([d0, d1, d2, d3, d4, c0, c1, c2, c3, c4, c5].drop 3).take (Try.prog.cellsOf 31)) = xs[3]? := hf 3 _ rfl
    have e4 : DataW.trod enc Try.prog w base spare held m 4 (([d0, d1, d2, d3, d4, c0, c1, c2, c3, c4, c5].drop 4).take (Try.prog.cellsOf 4)) = xs[4]? := hf 4 _ rfl
    have e5 : DataW.trod enc Try.prog w base spare held m 37 (([d0, d1, d2, d3, d4, c0, c1, c2, c3, c4, c5].drop 5).take (Try.prog.cellsOf 37)) = xs[5]? := hf 5 _ rfl
    rw [k1] at e0 e1 e2
    rw [k2] at e3
    rw [k3] at e4
    rw [k6] at e5
    obtain ⟨n0, rfl, w0⟩ := open_i1 (e0.trans (List.getElem?_eq_getElem (by omega)))
    obtain ⟨n1, rfl, w1⟩ := open_i1 (e1.trans (List.getElem?_eq_getElem (by omega)))
    obtain ⟨n2, rfl, w2⟩ := open_i1 (e2.trans (List.getElem?_eq_getElem (by omega)))
    obtain ⟨n3, rfl, w3⟩ := open_u1 (e3.trans (List.getElem?_eq_getElem (by omega)))
    obtain ⟨n4, rfl⟩ := open_b1 (e4.trans (List.getElem?_eq_getElem (by omega)))
    obtain ⟨a0, a1, a2, a3, a4, a5, n, he, hn, _, hrr, hkk, hsm⟩ := open_nd (e5.trans (List.getElem?_eq_getElem (by omega)))
    injection he with he0 he
    injection he with he1 he
    injection he with he2 he
    injection he with he3 he
    injection he with he4 he
    injection he with he5 he
    subst he0 he1 he2 he3 he4 he5
    refine ⟨⟨n0, n1, n2, n3, n4, n⟩, _, _, _, _, _, _, rfl, hn, i64_of w0, i64_of w1, i64_of w2, w3, fun hsz => hsm ?_, ⟨hrr, hkk⟩⟩
    exact sz_struct hsz Try.underlying39 (j := 5) rfl (by rw [List.getElem?_map, List.getElem?_eq_getElem (by omega)]; rfl)

/-- A row of calls. -/
theorem open_opsW {v : Value} (h : DataW.trod enc Try.prog w base spare held fuel 67 [v] = some x) (hsz : Sz 67 x.1) : ∃ os, OpsAt w w.heap.size v os ∧ ∀ o ∈ os, Wd64 o.nd := by
  have hc1 : Try.prog.cellsOf 39 = 11 := by kernel_rfl
  rcases DataW.trod_slice Try.underlying67 h with ⟨e, _⟩ | ⟨a, len, cap, elems, rest, n, _, e, hx, hb, hlc, hcm, hel, hcells, _, _⟩
  · injection e with e _
    subst e
    exact ⟨[], ⟨none, 0, rfl, Nat.le_refl _, by decide, by decide, fun h => absurd rfl h⟩, fun o ho => by simp at ho⟩
  · injection e with e _
    subst e
    rw [hx] at hsz
    obtain ⟨g1, g2⟩ := sz_slice hsz Try.underlying67
    have h4 : Try.prog.bytesOf 39 = 152 := by kernel_rfl
    rw [h4, reach_eq, List.length_map, hel] at g1
    obtain ⟨os, h2, h3⟩ := list_of (P := fun i o => ∃ cs : Array Value, (IsOp w (fun b => b < w.heap.size) cs o ∧ Wd64 o.nd) ∧ ∀ (j : Nat) x, cs[j]? = some x → w.cell? (a.add (i * 11 + j)) = some x) len (fun i hi => by
      have := hcells i hi
      rw [hc1, List.getElem?_eq_getElem (by omega)] at this
      obtain ⟨us, hus, hd⟩ := Option.bind_eq_some_iff.1 this
      obtain ⟨_, hul, hue⟩ := World.cells?_some hus
      obtain ⟨o, c0, c1, c2, c3, c4, c5, rfl, hn, i1, i2, i3, i4, i5, i6⟩ := open_opW hd
      refine ⟨o, _, ⟨⟨⟨c0, c1, c2, c3, c4, c5, rfl, hn⟩, i1, i2, i3, i4, (i5 (g2 _ (List.mem_map.2 ⟨_, List.getElem_mem _, rfl⟩))).mono (by decide)⟩, i6⟩, fun j y hy => ?_⟩
      have hj : j < 11 := (Array.getElem?_eq_some_iff.1 hy).1
      have := hue j hj
      rw [add_add_] at this
      rw [this]
      simpa using hy)
    refine ⟨os, ⟨some a, cap, by rw [h2], by omega, hcm, by omega, fun hne => ⟨a, rfl, ?_, fun i o ho => by obtain ⟨cs, h4, h5⟩ := h3 i o ho; exact ⟨cs, h4.1, h5⟩⟩⟩, fun o ho => by obtain ⟨i, hi⟩ := List.getElem?_of_mem ho; obtain ⟨cs, h4, _⟩ := h3 i o hi; exact h4.2⟩
    obtain ⟨o, ho⟩ : ∃ o, os[0]? = some o := by cases os with | nil => exact absurd rfl hne | cons o l => exact ⟨o, rfl⟩
    obtain ⟨cs, ⟨⟨⟨c0, c1, c2, c3, c4, c5, rfl, _⟩, _⟩, _⟩, hc⟩ := h3 0 o ho
    have := World.block_lt_of_cell? _ _ (hc 0 _ rfl)
    rwa [blk_add] at this
theorem open_tree11W (h : DataW.trod enc Try.prog w base spare held fuel 93 cs = some x) (hsz : Sz 93 x.1) : ∃ (os : List OpM) (v : Value) (a0 a1 a2 a3 a4 : Int), cs = [v, .int .i64 a0, .int .i64 a1, .int .i64 a2, .int .i64 a3, .int .i64 a4] ∧ OpsAt w w.heap.size v os ∧ ∀ o ∈ os, Wd64 o.nd := by
  obtain ⟨xs, m, _, rfl, hl, hlen, hf⟩ := DataW.trod_struct Try.underlying93 h
  have h8 : Try.prog.cellsOf 93 = 6 := by kernel_rfl
  have k1 : Try.prog.cellsOf 67 = 1 := by kernel_rfl
  have k2 : Try.prog.cellsOf 69 = 5 := by kernel_rfl
  rw [h8] at hl
  match cs, hl with
  | [d0, d1, d2, d3, d4, d5], _ =>
    have hs : xs.length = 2 := hlen
    have e0 : DataW.trod enc Try.prog w base spare held m 67 (([d0, d1, d2, d3, d4, d5].drop 0).take (Try.prog.cellsOf 67)) = xs[0]? := hf 0 _ rfl
    have e1 : DataW.trod enc Try.prog w base spare held m 69 (([d0, d1, d2, d3, d4, d5].drop 1).take (Try.prog.cellsOf 69)) = xs[1]? := hf 1 _ rfl
    rw [k1] at e0
    rw [k2] at e1
    have z0 := sz_struct hsz Try.underlying93 (j := 0) rfl (by rw [List.getElem?_map, List.getElem?_eq_getElem (by omega)]; rfl)
    obtain ⟨os, ho, hk⟩ := open_opsW (e0.trans (List.getElem?_eq_getElem (by omega))) z0
    obtain ⟨n0, n1, n2, n3, n4, hc, _⟩ := open_cfg (e1.trans (List.getElem?_eq_getElem (by omega)))
    injection hc with h1 hc
    injection hc with h2 hc
    injection hc with h3 hc
    injection hc with h4 hc
    injection hc with h5 hc
    subst h1 h2 h3 h4 h5
    exact ⟨os, _, n0, n1, n2, n3, n4, rfl, ho, hk⟩
end
end Go.Proofs.Ytbhohohgojcapaa

namespace Go.Proofs.Ytbhohohgojcapaa
open Go.RowKit

/-- Do the keys rise? -/
def Rise (l : List (List UInt8)) : Prop := ∀ (j : Nat) a b, l[j]? = some a → l[j + 1]? = some b → cmp a b < 0
def rises : List (List UInt8) → Bool
  | [] => true
  | [_] => true
  | a :: b :: l => decide (cmp a b < 0) && rises (b :: l)
theorem rises_iff : ∀ (l : List (List UInt8)), rises l = true ↔ Rise l
  | [] => ⟨fun _ j a b h => by simp at h, fun _ => rfl⟩
  | [_] => ⟨fun _ j a b _ h => by simp at h, fun _ => rfl⟩
  | a :: b :: l => by
    unfold rises
    rw [Bool.and_eq_true, decide_eq_true_eq, rises_iff (b :: l)]
    constructor
    · rintro ⟨h1, h2⟩ j x y hx hy
      cases j with
      | zero => simp at hx hy; subst hx hy; exact h1
      | succ j => exact h2 j x y (by simpa using hx) (by simpa using hy)
    · intro h
      exact ⟨h 0 a b rfl rfl, fun j x y hx hy => h (j + 1) x y (by simpa using hx) (by simpa using hy)⟩

section
variable {S T : Nat → Prop} {w : World} {a : Value} {ls : List (List UInt8)}

/-- Is a node right? -/
def right (n : Nd) : Bool := if n.lvl = 0 then rises n.keys && (decide (n.vals.length = n.keys.length) && decide (n.kids.length = 0)) else rises n.keys && (decide (0 < n.lvl) && (decide (n.vals.length = 0) && decide (n.kids.length = n.keys.length + 1)))
def leaf (n : Nd) : Bool := right n && decide (n.lvl = 0)
def inner (n : Nd) : Bool := right n && decide (0 < n.lvl)
variable {c0 c1 c2 c3 c4 c5 : Value} {n : Nd}

end
end Go.Proofs.Ytbhohohgojcapaa

namespace Go.Proofs.Ytbhohohgojcapaa
open Go.RowKit

def confOk (c0 c1 c2 c3 c4 : Int) : Bool := decide (1 ≤ c0 ∧ c0 ≤ 65536) && (decide (2 ≤ c1 ∧ c1 ≤ 64) && (decide (3 ≤ c2 ∧ c2 ≤ 64) && (decide (1 ≤ c3 ∧ c3 ≤ c1) && decide (1 ≤ c4 ∧ c4 ≤ 64))))
def confE (c0 c1 c2 c3 c4 : Int) : Int := if confOk c0 c1 c2 c3 c4 then 0 else 1

theorem betweenP (n lo hi : Int) (w : World) : Calls Try.prog 121 #[.int .i64 n, .int .i64 lo, .int .i64 hi] w fun e w' => e = .returned (.bool (decide (lo ≤ n ∧ n ≤ hi))) ∧ w' = w := by
  by_cases h1 : lo ≤ n
  · by_cases h2 : n ≤ hi
    · go_enter Try.func121, Try.ntmps121
      go_wp2
      go_ret
      exact ⟨by simp [h1, h2], rfl⟩
    · go_enter Try.func121, Try.ntmps121
      go_wp2
      go_ret
      exact ⟨by simp [h1, h2], rfl⟩
  · go_enter Try.func121, Try.ntmps121
    go_wp2
    go_ret
    exact ⟨by simp; intro _; omega, rfl⟩

set_option maxRecDepth 100000 in
set_option maxHeartbeats 1000000 in
theorem confP (c0 c1 c2 c3 c4 : Int) (w : World) : Calls Try.prog 104 #[.agg #[.int .i64 c0, .int .i64 c1, .int .i64 c2, .int .i64 c3, .int .i64 c4]] w fun e w' => e = .returned (.int .i64 (confE c0 c1 c2 c3 c4)) ∧ Keeps Nob w w' := by
  unfold confE confOk
  generalize h0 : decide (1 ≤ c0 ∧ c0 ≤ 65536) = b0
  generalize h1 : decide (2 ≤ c1 ∧ c1 ≤ 64) = b1
  generalize h2 : decide (3 ≤ c2 ∧ c2 ≤ 64) = b2
  generalize h3 : decide (1 ≤ c3 ∧ c3 ≤ c1) = b3
  generalize h4 : decide (1 ≤ c4 ∧ c4 ≤ 64) = b4
  have H0 := Lib.hid h0
  have H1 := Lib.hid h1
  have H2 := Lib.hid h2
  have H3 := Lib.hid h3
  have H4 := Lib.hid h4
  clear h0 h1 h2 h3 h4
  cases b0 <;> cases b1 <;> cases b2 <;> cases b3 <;> cases b4
  all_goals
    go_enter Try.func104, Try.ntmps104
    go_wp2_with (go_at_call 121; refine (betweenP _ _ _ _).mono ?_; rintro e w1 ⟨rfl, rfl⟩; (first | rw [H0.out] | rw [H1.out] | rw [H2.out] | rw [H3.out] | rw [H4.out]))
    go_ret
    exact ⟨rfl, Keeps.alloc _ _ _⟩

end Go.Proofs.Ytbhohohgojcapaa

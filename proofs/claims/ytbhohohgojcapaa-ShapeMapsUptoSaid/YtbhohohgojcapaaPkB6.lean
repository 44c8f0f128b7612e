import Derived.Test.YtbhohohgojcapaaPkB5
import Derived.Test.YtbhohohgojcapaaRows
namespace Go.Proofs.Ytbhohohgojcapaa
open Go.ChangeShapes Go.WideShapes Go.ChangeAt Go.RowKit
set_option maxRecDepth 100000

/-! ### bulk: what it bounds -/
theorem bk_one {H : Type} (d : DataW H) : 1 ≤ Rows.uptoBulk d := by
  cases d with
  | lit l => cases l <;> simp [Rows.uptoBulk]
  | nil => simp [Rows.uptoBulk]
  | ptr d => simp [Rows.uptoBulk]
  | slice elems spare => simp [Rows.uptoBulk]
  | agg parts => simp [Rows.uptoBulk]
  | iface t d => simp [Rows.uptoBulk]
  | map entries => simp [Rows.uptoBulk]
  | held h => simp [Rows.uptoBulk]
theorem bk_part {H : Type} {d : DataW H} : ∀ {l : List (DataW H)}, d ∈ l → Rows.uptoBulk d ≤ Rows.uptoBulkAll l
  | x :: r, h => by
    simp only [Rows.uptoBulkAll]
    rcases List.mem_cons.1 h with e | e
    · subst e; omega
    · have := bk_part e; omega
theorem bk_length {H : Type} : ∀ (l : List (DataW H)), l.length ≤ Rows.uptoBulkAll l
  | [] => by simp [Rows.uptoBulkAll]
  | x :: r => by have h1 := bk_one x; have h2 := bk_length r; simp only [Rows.uptoBulkAll, List.length_cons]; omega
theorem bk_agg {H : Type} {d : DataW H} {l : List (DataW H)} (h : d ∈ l) : Rows.uptoBulk d ≤ Rows.uptoBulk (.agg l) := by
  have := bk_part h
  simp only [Rows.uptoBulk]; omega
theorem bk_elem {H : Type} {d : DataW H} {l r : List (DataW H)} (h : d ∈ l) : Rows.uptoBulk d ≤ Rows.uptoBulk (.slice l r) := by
  have := bk_part h
  simp only [Rows.uptoBulk]; omega
theorem bk_slice {H : Type} (l r : List (DataW H)) : l.length ≤ Rows.uptoBulk (.slice l r) := by
  have := bk_length l
  simp only [Rows.uptoBulk]; omega
/-- Right and kids are numbers of the machine. -/
def Wd64_B (n : Nd) : Prop := I64_ n.right ∧ ∀ k ∈ n.kids, I64_ k
section
variable {H : Type} {enc : TypeId × Value → H} {w : World} {base : Nat} {spare : Nat → Bool} {held : Bool} {fuel : Nat} {cs : List Value} {x : DataW H × List MemPlace}
theorem bulk_txts {A : Option Addr} {n c : Nat} (h : DataW.trod enc Try.prog w base spare held fuel 28 [.slice A n c] = some x) : n ≤ Rows.uptoBulk x.1 := by
  rcases DataW.trod_slice Try.underlying28 h with ⟨e, _⟩ | ⟨a, len, cap, elems, rest, k, _, e, hx, hb, hlc, hcm, hel, hcells, _, _⟩
  · injection e with e _
    injection e with _ e _
    omega
  · injection e with e _
    injection e with _ e _
    subst e
    rw [hx]
    have := bk_slice (elems.map Prod.fst) (rest.map Prod.fst)
    rw [List.length_map, hel] at this
    exact this
theorem bulk_nd {c0 c1 c2 c4 c5 : Value} {A : Option Addr} {n c : Nat} (h : DataW.trod enc Try.prog w base spare held fuel 37 [c0, c1, c2, .slice A n c, c4, c5] = some x) : n ≤ Rows.uptoBulk x.1 := by
  obtain ⟨xs, m, _, rfl, hl, hlen, hf⟩ := DataW.trod_struct Try.underlying37 h
  have h3' : Try.prog.cellsOf 35 = 3 := by kernel_rfl
  have k3 : Try.prog.cellsOf 28 = 1 := by kernel_rfl
  have hs : xs.length = 2 := hlen
  have e1 : DataW.trod enc Try.prog w base spare held m 35 (([c0, c1, c2, .slice A n c, c4, c5].drop 3).take (Try.prog.cellsOf 35)) = xs[1]? := hf 1 _ rfl
  rw [h3'] at e1
  obtain ⟨zs, m2, _, ex1, _, hlen2, hf2⟩ := DataW.trod_struct Try.underlying35 (e1.trans (List.getElem?_eq_getElem (by omega)))
  have hz : zs.length = 3 := hlen2
  have b0 : DataW.trod enc Try.prog w base spare held m2 28 (([.slice A n c, c4, c5].drop 0).take (Try.prog.cellsOf 28)) = zs[0]? := hf2 0 _ rfl
  rw [k3] at b0
  have q1 := bulk_txts (b0.trans (List.getElem?_eq_getElem (by omega)))
  have q2 : Rows.uptoBulk zs[0].1 ≤ Rows.uptoBulk xs[1].1 := by
    rw [ex1]
    exact bk_agg (List.mem_map.2 ⟨_, List.getElem_mem _, rfl⟩)
  have q3 : Rows.uptoBulk xs[1].1 ≤ Rows.uptoBulk (DataW.agg (xs.map Prod.fst)) := bk_agg (List.mem_map.2 ⟨_, List.getElem_mem _, rfl⟩)
  exact Nat.le_trans q1 (Nat.le_trans q2 q3)
theorem open_opB (h : DataW.trod enc Try.prog w base spare held fuel 39 cs = some x) : ∃ o : OpM, ∃ c0 c1 c2 c3 c4 c5, cs = [.int .i64 o.kd, .int .i64 o.a, .int .i64 o.b, .int .u64 o.w, .bool o.ch, c0, c1, c2, c3, c4, c5] ∧ IsNd w (fun b => b < w.heap.size) c0 c1 c2 c3 c4 c5 o.nd ∧ I64 o.kd ∧ I64 o.a ∧ I64 o.b ∧ U64 o.w ∧ (Sz 39 x.1 → NdSm 59000000000000 o.nd) ∧ Wd64_B o.nd ∧ o.nd.keys.length ≤ Rows.uptoBulk x.1 := by
  obtain ⟨xs, m, _, rfl, hl, hlen, hf⟩ := DataW.trod_struct Try.underlying39 h
  have h11 : Try.prog.cellsOf 39 = 11 := by kernel_rfl
  have k1 : Try.prog.cellsOf 3 = 1 := by kernel_rfl
  have k2 : Try.prog.cellsOf 31 = 1 := by kernel_rfl
  have k3 : Try.prog.cellsOf 4 = 1 := by kernel_rfl
  have k6 : Try.prog.cellsOf 37 = 6 := by kernel_rfl
  rw [h11] at hl
  match cs, hl with
  | [d0, d1, d2, d3, d4, c0, c1, c2, c3, c4, c5], _ =>
    have hs : xs.length = 6 := hlen
    have e0 : DataW.trod enc Try.prog w base spare held m 3 (([d0, d1, d2, d3, d4, c0, c1, c2, c3, c4, c5].drop 0).take (Try.prog.cellsOf 3)) = xs[0]? := hf 0 _ rfl
    have e1 : DataW.trod enc Try.prog w base spare held m 3 (([d0, d1, d2, d3, d4, c0, c1, c2, c3, c4, c5].drop 1).take (Try.prog.cellsOf 3)) = xs[1]? := hf 1 _ rfl
    have e2 : DataW.trod enc Try.prog w base spare held m 3 (([d0, d1, d2, d3, d4, c0, c1, c2, c3, c4, c5].drop 2).take (Try.prog.cellsOf 3)) = xs[2]? := hf 2 _ rfl
    have e3 : DataW.trod enc Try.prog w base spare held m 31 (([d0, d1, d2, d3, d4, c0, c1, c2, c3, c4, c5].drop 3).take (Try.prog.cellsOf 31)) = xs[3]? := hf 3 _ rfl
    have e4 : DataW.trod enc Try.prog w base spare held m 4 (([d0, d1, d2, d3, d4, c0, c1, c2, c3, c4, c5].drop 4).take (Try.prog.cellsOf 4)) = xs[4]? := hf 4 _ rfl
    have e5 : DataW.trod enc Try.prog w base spare held m 37 (([d0, d1, d2, d3, d4, c0, c1, c2, c3, c4, c5].drop 5).take (Try.prog.cellsOf 37)) = xs[5]? := hf 5 _ rfl
    rw [k1] at e0 e1 e2
    rw [k2] at e3
    rw [k3] at e4
    rw [k6] at e5
    obtain ⟨n0, rfl, w0⟩ := open_i1 (e0.trans (List.getElem?_eq_getElem (by omega)))
    obtain ⟨n1, rfl, w1⟩ := open_i1 (e1.trans (List.getElem?_eq_getElem (by omega)))
    obtain ⟨n2, rfl, w2⟩ := open_i1 (e2.trans (List.getElem?_eq_getElem (by omega)))
    obtain ⟨n3, rfl, w3⟩ := open_u1 (e3.trans (List.getElem?_eq_getElem (by omega)))
    obtain ⟨n4, rfl⟩ := open_b1 (e4.trans (List.getElem?_eq_getElem (by omega)))
    obtain ⟨a0, a1, a2, a3, a4, a5, n, he, hn, _, hrr, hkk, hsm⟩ := open_nd (e5.trans (List.getElem?_eq_getElem (by omega)))
    injection he with he0 he
    injection he with he1 he
    injection he with he2 he
    injection he with he3 he
    injection he with he4 he
    injection he with he5 he
    subst he0 he1 he2 he3 he4 he5
    refine ⟨⟨n0, n1, n2, n3, n4, n⟩, _, _, _, _, _, _, rfl, hn, i64_of w0, i64_of w1, i64_of w2, w3, fun hsz => hsm ?_, ⟨hrr, hkk⟩, ?_⟩
    rotate_left
    · obtain ⟨A3, k3, ea, _, _⟩ := hn.2.keys.form
      rw [ea] at e5
      have q1 := bulk_nd (e5.trans (List.getElem?_eq_getElem (by omega)))
      have q2 : Rows.uptoBulk xs[5].1 ≤ Rows.uptoBulk (DataW.agg (xs.map Prod.fst)) := bk_agg (List.mem_map.2 ⟨_, List.getElem_mem _, rfl⟩)
      exact Nat.le_trans q1 q2
    exact sz_struct hsz Try.underlying39 (j := 5) rfl (by rw [List.getElem?_map, List.getElem?_eq_getElem (by omega)]; rfl)

/-- A row of calls. -/
theorem open_opsB {v : Value} (h : DataW.trod enc Try.prog w base spare held fuel 67 [v] = some x) (hsz : Sz 67 x.1) : ∃ os, OpsAt w w.heap.size v os ∧ ∀ o ∈ os, Wd64_B o.nd ∧ o.nd.keys.length ≤ Rows.uptoBulk x.1 := by
  have hc1 : Try.prog.cellsOf 39 = 11 := by kernel_rfl
  rcases DataW.trod_slice Try.underlying67 h with ⟨e, _⟩ | ⟨a, len, cap, elems, rest, n, _, e, hx, hb, hlc, hcm, hel, hcells, _, _⟩
  · injection e with e _
    subst e
    exact ⟨[], ⟨none, 0, rfl, Nat.le_refl _, by decide, by decide, fun h => absurd rfl h⟩, fun o ho => by simp at ho⟩
  · injection e with e _
    subst e
    rw [hx] at hsz
    obtain ⟨g1, g2⟩ := sz_slice hsz Try.underlying67
    have h4 : Try.prog.bytesOf 39 = 152 := by kernel_rfl
    rw [h4, reach_eq, List.length_map, hel] at g1
    obtain ⟨os, h2, h3⟩ := list_of (P := fun i o => ∃ cs : Array Value, (IsOp w (fun b => b < w.heap.size) cs o ∧ (Wd64_B o.nd ∧ o.nd.keys.length ≤ Rows.uptoBulk x.1)) ∧ ∀ (j : Nat) x, cs[j]? = some x → w.cell? (a.add (i * 11 + j)) = some x) len (fun i hi => by
      have := hcells i hi
      rw [hc1, List.getElem?_eq_getElem (by omega)] at this
      obtain ⟨us, hus, hd⟩ := Option.bind_eq_some_iff.1 this
      obtain ⟨_, hul, hue⟩ := World.cells?_some hus
      obtain ⟨o, c0, c1, c2, c3, c4, c5, rfl, hn, i1, i2, i3, i4, i5, i6⟩ := open_opB hd
      refine ⟨o, _, ⟨⟨⟨c0, c1, c2, c3, c4, c5, rfl, hn⟩, i1, i2, i3, i4, (i5 (g2 _ (List.mem_map.2 ⟨_, List.getElem_mem _, rfl⟩))).mono (by decide)⟩, ⟨i6.1, Nat.le_trans i6.2 (by rw [hx]; exact bk_elem (List.mem_map.2 ⟨_, List.getElem_mem _, rfl⟩))⟩⟩, fun j y hy => ?_⟩
      have hj : j < 11 := (Array.getElem?_eq_some_iff.1 hy).1
      have := hue j hj
      rw [add_add_] at this
      rw [this]
      simpa using hy)
    refine ⟨os, ⟨some a, cap, by rw [h2], by omega, hcm, by omega, fun hne => ⟨a, rfl, ?_, fun i o ho => by obtain ⟨cs, h4, h5⟩ := h3 i o ho; exact ⟨cs, h4.1, h5⟩⟩⟩, fun o ho => by obtain ⟨i, hi⟩ := List.getElem?_of_mem ho; obtain ⟨cs, h4, _⟩ := h3 i o hi; exact h4.2⟩
    obtain ⟨o, ho⟩ : ∃ o, os[0]? = some o := by cases os with | nil => exact absurd rfl hne | cons o l => exact ⟨o, rfl⟩
    obtain ⟨cs, ⟨⟨⟨c0, c1, c2, c3, c4, c5, rfl, _⟩, _⟩, _⟩, hc⟩ := h3 0 o ho
    have := World.block_lt_of_cell? _ _ (hc 0 _ rfl)
    rwa [blk_add] at this
theorem open_tree11B (h : DataW.trod enc Try.prog w base spare held fuel 93 cs = some x) (hsz : Sz 93 x.1) : ∃ (os : List OpM) (v : Value) (a0 a1 a2 a3 a4 : Int), cs = [v, .int .i64 a0, .int .i64 a1, .int .i64 a2, .int .i64 a3, .int .i64 a4] ∧ OpsAt w w.heap.size v os ∧ ∀ o ∈ os, Wd64_B o.nd ∧ o.nd.keys.length ≤ Rows.uptoBulk x.1 := by
  obtain ⟨xs, m, _, rfl, hl, hlen, hf⟩ := DataW.trod_struct Try.underlying93 h
  have h8 : Try.prog.cellsOf 93 = 6 := by kernel_rfl
  have k1 : Try.prog.cellsOf 67 = 1 := by kernel_rfl
  have k2 : Try.prog.cellsOf 69 = 5 := by kernel_rfl
  rw [h8] at hl
  match cs, hl with
  | [d0, d1, d2, d3, d4, d5], _ =>
    have hs : xs.length = 2 := hlen
    have e0 : DataW.trod enc Try.prog w base spare held m 67 (([d0, d1, d2, d3, d4, d5].drop 0).take (Try.prog.cellsOf 67)) = xs[0]? := hf 0 _ rfl
    have e1 : DataW.trod enc Try.prog w base spare held m 69 (([d0, d1, d2, d3, d4, d5].drop 1).take (Try.prog.cellsOf 69)) = xs[1]? := hf 1 _ rfl
    rw [k1] at e0
    rw [k2] at e1
    have z0 := sz_struct hsz Try.underlying93 (j := 0) rfl (by rw [List.getElem?_map, List.getElem?_eq_getElem (by omega)]; rfl)
    obtain ⟨os, ho, hk⟩ := open_opsB (e0.trans (List.getElem?_eq_getElem (by omega))) z0
    obtain ⟨n0, n1, n2, n3, n4, hc, _⟩ := open_cfg (e1.trans (List.getElem?_eq_getElem (by omega)))
    injection hc with h1 hc
    injection hc with h2 hc
    injection hc with h3 hc
    injection hc with h4 hc
    injection hc with h5 hc
    subst h1 h2 h3 h4 h5
    exact ⟨os, _, n0, n1, n2, n3, n4, rfl, ho, fun o h => ⟨(hk o h).1, Nat.le_trans (hk o h).2 (bk_agg (List.mem_map.2 ⟨_, List.getElem_mem _, rfl⟩))⟩⟩
end
end Go.Proofs.Ytbhohohgojcapaa

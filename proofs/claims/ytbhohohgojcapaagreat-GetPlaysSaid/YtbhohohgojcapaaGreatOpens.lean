/- Arguments of law 10, opened: a call, a row of calls. A row of structures, opened. -/
import Derived.Test.YtbhohohgojcapaaGreatOpen
import Derived.Test.YtbhohohgojcapaaGreatRaws
namespace Go.Proofs.YtbhohohgojcapaaGreat
open Go.ChangeShapes Go.WideShapes Go.ChangeAt Go.RowKit
set_option maxRecDepth 100000

section
variable {H : Type} {enc : TypeId × Value → H} {w : World} {base : Nat} {spare : Nat → Bool} {held : Bool} {fuel : Nat} {cs : List Value} {x : DataW H × List MemPlace}

theorem open_b1 {v : Value} (h : DataW.trod enc Tryz.prog w base spare held fuel 4 [v] = some x) : ∃ b, v = .bool b := by
  obtain ⟨b, e, _⟩ := DataW.trod_bool Tryz.underlying4 h
  injection e with e _
  exact ⟨b, e⟩
theorem i64_of {n : Int} (h : I64_ n) : I64 n := bounds_i64 h

end
end Go.Proofs.YtbhohohgojcapaaGreat

namespace Go.Proofs.YtbhohohgojcapaaGreat
open Go.ChangeShapes Go.WideShapes Go.ChangeAt Go.RowKit
set_option maxRecDepth 100000

section
variable {H : Type} {enc : TypeId × Value → H} {w : World} {base : Nat} {spare : Nat → Bool} {held : Bool} {fuel : Nat} {cs : List Value} {x : DataW H × List MemPlace}

theorem list_of_ {α : Type} {P : Nat → α → Prop} : ∀ (n : Nat), (∀ i, i < n → ∃ x, P i x) → ∃ ls : List α, ls.length = n ∧ ∀ (i : Nat) x, ls[i]? = some x → P i x
  | 0, _ => ⟨[], rfl, fun i x h => by simp at h⟩
  | n + 1, h => by
    obtain ⟨ls, h2, h3⟩ := list_of_ n (fun i hi => h i (by omega))
    obtain ⟨x, hp⟩ := h n (by omega)
    refine ⟨ls ++ [x], by simp [h2], fun i y hy => ?_⟩
    by_cases hi : i < n
    · rw [List.getElem?_append_left (by omega)] at hy
      exact h3 i y hy
    · rw [List.getElem?_append_right (by omega)] at hy
      have e : i = n := by
        rcases hh : i - ls.length with _ | k
        · omega
        · rw [hh] at hy; simp at hy
      subst e
      rw [h2, Nat.sub_self] at hy
      cases hy
      exact hp

/-- A row whose structures' type is e. -/
theorem open_row {α : Type} {R : World → Nat → Array Value → α → Prop} {v : Value} {s e : TypeId} {k m : Nat} (hu : Tryz.prog.underlying s = some (.slice e)) (hk : Tryz.prog.cellsOf e = k) (hm : Tryz.prog.bytesOf e = m) (hpos : 0 < k) (hmp : 0 < m)
    (hR : ∀ (cs : List Value) (x : DataW H × List MemPlace) fuel, DataW.trod enc Tryz.prog w base spare held fuel e cs = some x → Sz e x.1 → ∃ o, R w w.heap.size cs.toArray o ∧ cs.length = k)
    (h : DataW.trod enc Tryz.prog w base spare held fuel s [v] = some x) (hsz : Sz s x.1) : ∃ os, RowAt k m R w w.heap.size v os := by
  rcases DataW.trod_slice hu h with ⟨e, _⟩ | ⟨a, len, cap, elems, rest, n, _, e, hx, hb, hlc, hcm, hel, hcells, _, _⟩
  · injection e with e _
    subst e
    exact ⟨[], none, 0, rfl, Nat.le_refl _, by decide, by simp, fun h => absurd rfl h⟩
  · injection e with e _
    subst e
    rw [hx] at hsz
    obtain ⟨g1, g2⟩ := sz_slice hsz hu
    rw [hm, reach_eq, List.length_map, hel] at g1
    obtain ⟨os, h2, h3⟩ := list_of_ (P := fun i o => ∃ cs : Array Value, R w w.heap.size cs o ∧ cs.size = k ∧ ∀ (j : Nat) x, cs[j]? = some x → w.cell? (a.add (i * k + j)) = some x) len (fun i hi => by
      have := hcells i hi
      rw [hk, List.getElem?_eq_getElem (by omega)] at this
      obtain ⟨us, hus, hd⟩ := Option.bind_eq_some_iff.1 this
      obtain ⟨_, hul, hue⟩ := World.cells?_some hus
      obtain ⟨o, ho, hlen⟩ := hR _ _ _ hd (g2 _ (List.mem_map.2 ⟨_, List.getElem_mem _, rfl⟩))
      refine ⟨o, _, ho, by simpa using hlen, fun j y hy => ?_⟩
      have hj : j < k := by
        have := (Array.getElem?_eq_some_iff.1 hy).1
        simp only [List.size_toArray] at this
        omega
      have := hue j hj
      rw [add_add_] at this
      rw [this]
      simpa using hy)
    refine ⟨os, some a, cap, by rw [h2], by omega, hcm, by rw [h2]; omega, fun hne => ⟨a, rfl, ?_, fun i o ho => ?_⟩⟩
    · obtain ⟨o, ho⟩ : ∃ o, os[0]? = some o := by cases os with | nil => exact absurd rfl hne | cons o l => exact ⟨o, rfl⟩
      obtain ⟨cs, _, hsz2, hc⟩ := h3 0 o ho
      have := World.block_lt_of_cell? _ _ (hc 0 _ (Array.getElem?_eq_getElem (by omega)))
      rwa [blk_add] at this
    · obtain ⟨cs, h4, _, h5⟩ := h3 i o ho
      exact ⟨cs, h4, h5⟩
end
end Go.Proofs.YtbhohohgojcapaaGreat

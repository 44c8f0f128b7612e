/- The document's layer 11: has, wrong; what a chain reads as. -/
import Derived.Test.YtbhohohgojcapaaLevM
namespace Go.Proofs.Ytbhohohgojcapaa
open Go.RowKit

def rpV (r : Rp) : Array Value := #[.bool r.sound, .int .i64 r.node, .int .i64 r.err, .int .i64 r.levels, .int .i64 r.nodes, .int .i64 r.entries]
section
variable {w : World} {S : Nat → Prop} {v : Value} {l : List Int} {x : Int}
theorem take_no {k : Nat} {y : Int} (h : (l.take k).contains x = false) (hy : l[k]? = some y) (hne : y ≠ x) : (l.take (k + 1)).contains x = false := by
  rw [List.take_add_one, hy]
  simp at h ⊢
  exact ⟨h, fun e => hne e.symm⟩
set_option maxRecDepth 100000 in
set_option maxHeartbeats 1000000 in
theorem hasR (h : Ints w S v l) : Calls Try.prog 83 #[v, .int .i64 x] w fun e w' => e = .returned (.bool (l.contains x)) ∧ Keeps Nob w w' := by
  obtain ⟨A, c, rfl, hn, hm⟩ := h.form
  have hz : l.length ≤ 9223372036854775807 := Nat.le_trans hn hm
  have H := Lib.hid h
  clear h hn hm
  go_enter Try.func83, Try.ntmps83
  go_wp2
  go_loopw [5] (fun i wr => ∃ k : Nat, k ≤ l.length ∧ i = .int .i64 k ∧ (l.take k).contains x = false ∧ Keeps Nob w wr) (fun i _ => l.length - (intOf i).toNat)
  case atStart => exact ⟨0, Nat.zero_le _, rfl, by simp, Keeps.refl _ _⟩
  obtain ⟨k, hk, rfl, hno, hkr⟩ := hrel
  have HNO := Lib.hid hno
  have K := Lib.hid hkr
  clear hno hkr
  rcases Nat.lt_or_ge k l.length with hlt | hlt
  · obtain ⟨y, hy⟩ : ∃ y, l[k]? = some y := ⟨_, List.getElem?_eq_getElem hlt⟩
    obtain ⟨ad, ea, _, hc⟩ := SlR.cells H.out (i := k) (by rw [List.length_map]; exact hlt)
    have q0 : wr.cell? (ad.add k) = some (.int .i64 y) := K.out.cell (hc k _ (by rw [List.getElem?_map, hy]; rfl)) id
    subst ea
    have HY := Lib.hid hy
    clear hc hy
    by_cases e : y = x
    · subst e
      go_wp2
      go_ret
      refine ⟨?_, K.out⟩
      rw [show l.contains y = true by simpa using List.mem_of_getElem? HY.out]; rfl
    · have e2 : (y == x) = false := by simpa using e
      have HE := Lib.hid e
      clear e
      go_wp2
      go_roundw
      case rel => exact ⟨k + 1, by omega, by go_num, take_no HNO.out HY.out HE.out, K.out⟩
      case measure => simp [intOf]; omega
  obtain rfl : k = l.length := by omega
  go_wp2
  go_ret
  refine ⟨?_, K.out⟩
  have h := HNO.out
  rw [List.take_length] at h
  rw [h]; rfl
theorem wrongR (id e : Int) (w : World) : Calls Try.prog 75 #[.int .i64 id, .int .i64 e] w fun r w' => r = .returned (.agg #[.bool false, .int .i64 id, .int .i64 e, .int .i64 0, .int .i64 0, .int .i64 0]) ∧ Keeps Nob w w' := by
  go_enter Try.func75, Try.ntmps75
  go_wp2
  refine post_at (fun wb hw => ?_)
  have hk : Keeps Nob w wb := by rw [hw]; exact Keeps.alloc _ _ _
  have hb : Blk wb w.heap.size 74 #[.bool false, .int .i64 id, .int .i64 e, .int .i64 0, .int .i64 0, .int .i64 0] := by rw [hw]; exact Blk.new _ _ _
  clear hw
  have r0 := hb.cell 0
  have r1 := hb.cell 1
  have r2 := hb.cell 2
  have r3 := hb.cell 3
  have r4 := hb.cell 4
  have r5 := hb.cell 5
  refine bodyPost_ret (v := .agg #[.bool false, .int .i64 id, .int .i64 e, .int .i64 0, .int .i64 0, .int .i64 0]) (by simp [results, Try.results75, go_sem, r0, r1, r2, r3, r4, r5]) rfl ⟨rfl, hk⟩
end
end Go.Proofs.Ytbhohohgojcapaa

import Derived.Test.YtbhohohgojcapaaProg
import Derived.Test.YtbhohohgojcapaaPkA0
import Derived.Laws.LoneSync
import Derived.Deep.QuietTactic
import Derived.BigQuiet
namespace Go.Proofs.Ytbhohohgojcapaa
open Go.RowKit

section
variable {a : Addr} {x y : Int} {w : World}

theorem ext_loadU (hc : w.cell? a = some (.int .u64 x)) : (callFunc 98 #[.pointer (some a)]).run Try.prog w = .ok (.value (.int .u64 x)) w :=
  run_call_load (fn := Try.f98) (by kernel_rfl) (by kernel_rfl) (by kernel_rfl) (by kernel_rfl) .u64 (by kernel_rfl) hc
theorem ext_loadI (hc : w.cell? a = some (.int .i64 x)) : (callFunc 116 #[.pointer (some a)]).run Try.prog w = .ok (.value (.int .i64 x)) w :=
  run_call_load (fn := Try.f116) (by kernel_rfl) (by kernel_rfl) (by kernel_rfl) (by kernel_rfl) .i64 (by kernel_rfl) hc
theorem ext_storeI {u : Value} (hc : w.cell? a = some u) (hz : w.frozen? a = false) : (callFunc 108 #[.pointer (some a), .int .i64 y]).run Try.prog w = .ok (.value (.tuple #[])) (w.setCell a (.int .i64 y)) :=
  run_call_store (fn := Try.f108) (by kernel_rfl) (by kernel_rfl) (by kernel_rfl) (by kernel_rfl) (by kernel_rfl) hc hz

set_option maxHeartbeats 400000 in
theorem loadU (hc : w.cell? a = some (.int .u64 x)) : Calls Try.prog 59 #[.pointer (some a)] w fun e w' => e = .returned (.int .u64 x) ∧ w = w' := by
  have h := ext_loadU hc
  clear hc
  go_enter Try.func59, Try.ntmps59
  go_wp2
  go_ret
  exact ⟨rfl, rfl⟩
set_option maxHeartbeats 400000 in
theorem loadI (hc : w.cell? a = some (.int .i64 x)) : Calls Try.prog 100 #[.pointer (some a)] w fun e w' => e = .returned (.int .i64 x) ∧ w = w' := by
  have h := ext_loadI hc
  clear hc
  go_enter Try.func100, Try.ntmps100
  go_wp2
  go_ret
  exact ⟨rfl, rfl⟩
set_option maxHeartbeats 400000 in
theorem storeI {u : Value} (hc : w.cell? a = some u) (hz : w.frozen? a = false) : Calls Try.prog 86 #[.pointer (some a), .int .i64 y] w fun e w' => e = .returned (.tuple #[]) ∧ w.setCell a (.int .i64 y) = w' := by
  have h := ext_storeI (y := y) hc hz
  clear hc hz
  go_enter Try.func86, Try.ntmps86
  go_wp2
  go_end0
  exact ⟨rfl, rfl⟩
end
end Go.Proofs.Ytbhohohgojcapaa

namespace Go.Proofs.Ytbhohohgojcapaa
open Go.RowKit

section
variable {a : Addr} {x y o : Int} {w : World}

end
end Go.Proofs.Ytbhohohgojcapaa

namespace Go.Proofs.Ytbhohohgojcapaa
open Go.RowKit

section
variable {M D : Nat → Prop} {w : World} {p : Nat} {slots : Value} {ids : List Nat} {A : Ar}

set_option maxHeartbeats 400000 in
theorem at_in {id : Int} {i : Nat} {b : Nat} (h : ArW w M D p slots ids A) (hid : id = (i : Int) + 1) (hb : ids[i]? = some b) : Calls Try.prog 58 #[pV p, iV id] w fun e w' => e = .returned (pV b) ∧ w = w' := by
  have hlt : i < ids.length := (List.getElem?_eq_some_iff.1 hb).1
  obtain ⟨g, o, c, rfl, hm, hc⟩ := h.form (by omega)
  have cb := hc i b hb
  have c1 : w.cell? ⟨p, 1, none⟩ = some (.slice (some ⟨g, o, none⟩) ids.length c) := h.blk.cell 1
  have hl := h.len
  have hbd := h.bound
  have hsmall : ids.length ≤ 65536 := by omega
  clear hc h hb hl hbd
  have h1 : 1 ≤ id := by omega
  have h2 : id ≤ ids.length := by omega
  have h3 : (id - 1).toNat = i := by omega
  have h3' : id.toNat - 1 = i := by omega
  have H := Lib.hid hid; clear hid
  unfold pV iV at *
  go_enter Try.func58, Try.ntmps58
  go_wp2
  go_ret
  exact ⟨rfl, rfl⟩

set_option maxHeartbeats 400000 in
theorem at_out {id : Int} (h : ArW w M D p slots ids A) (hid : id < 1 ∨ (A.sl.length : Int) < id) : Calls Try.prog 58 #[pV p, iV id] w fun e w' => e = .returned (.pointer none) ∧ w = w' := by
  rw [← h.len] at hid
  obtain ⟨_, a, c, rfl, _, _, _⟩ := h.row
  have c1 : w.cell? ⟨p, 1, none⟩ = some (.slice a ids.length c) := h.blk.cell 1
  clear h
  unfold pV iV at *
  by_cases h1 : id < 1
  · clear hid
    go_enter Try.func58, Try.ntmps58
    go_wp2
    go_ret
    exact ⟨rfl, rfl⟩
  · have h2 : (ids.length : Int) < id := by omega
    have h3 : 1 ≤ id := by omega
    clear hid h1
    go_enter Try.func58, Try.ntmps58
    go_wp2
    go_ret
    exact ⟨rfl, rfl⟩

theorem ArW.slotCell {i : Nat} {b : Nat} {s : Sl} (h : ArW w M D p slots ids A) (hb : ids[i]? = some b) (hs : A.sl[i]? = some s) : w.cell? ⟨b, 0, none⟩ = some (.int .u64 s.word) := by
  obtain ⟨_, _, _, _, _, _, hblk, _⟩ := h.slot i b s hb hs
  exact hblk.cell 0

set_option maxHeartbeats 400000 in
theorem root_ (h : ArW w M D p slots ids A) : Calls Try.prog 72 #[pV p] w fun e w' => e = .returned (iV A.root) ∧ w = w' := by
  have c2 : w.cell? ⟨p, 2, none⟩ = some (.int .i64 A.root) := h.blk.cell 2
  clear h
  unfold pV iV at *
  go_enter Try.func72, Try.ntmps72
  go_wp2_with (go_at_call 100; refine (loadI c2).mono ?_; rintro e w' ⟨rfl, rfl⟩)
  go_ret
  exact ⟨rfl, rfl⟩

theorem new_world (w : World) (n : Nat) (h1 : 1 ≤ n) (h2 : n ≤ 65536) (w' : World)
    (hw : w' = ((w.alloc (.cells #[.int .u64 0, .int .i64 0, .slice none 0 0, .int .i64 0, .slice none 0 0, .slice none 0 0, .slice none 0 0] 128)).alloc (.cells #[.pointer (some ⟨w.heap.size, 0, none⟩)] 120)).alloc
      (.cells #[.int .i64 n, .slice (some ⟨w.heap.size + 1, 0, none⟩) 1 1, .int .i64 1] 163)) :
    ArX w' (fun b => w.heap.size ≤ b ∧ b < w'.heap.size) Nob (w.heap.size + 2) ⟨n, [⟨0, Nd.zero⟩], 1⟩ ∧ Keeps Nob w w' := by
  have b0 : Blk w' w.heap.size 128 #[.int .u64 0, .int .i64 0, .slice none 0 0, .int .i64 0, .slice none 0 0, .slice none 0 0, .slice none 0 0] := by
    rw [hw]; exact ((Blk.new w _ _).alloc _).alloc _
  have b1 : Blk w' (w.heap.size + 1) 120 #[.pointer (some ⟨w.heap.size, 0, none⟩)] := by
    rw [hw]; have := (Blk.new (w.alloc (.cells #[.int .u64 0, .int .i64 0, .slice none 0 0, .int .i64 0, .slice none 0 0, .slice none 0 0, .slice none 0 0] 128)) 120 #[.pointer (some ⟨w.heap.size, 0, none⟩)])
    rw [World.size_alloc] at this
    exact this.alloc _
  have b2 : Blk w' (w.heap.size + 2) 163 #[.int .i64 n, .slice (some ⟨w.heap.size + 1, 0, none⟩) 1 1, .int .i64 1] := by
    rw [hw]; have := (Blk.new ((w.alloc (.cells #[.int .u64 0, .int .i64 0, .slice none 0 0, .int .i64 0, .slice none 0 0, .slice none 0 0, .slice none 0 0] 128)).alloc (.cells #[.pointer (some ⟨w.heap.size, 0, none⟩)] 120)) 163 #[.int .i64 n, .slice (some ⟨w.heap.size + 1, 0, none⟩) 1 1, .int .i64 1])
    simpa using this
  have hk : Keeps Nob w w' := by rw [hw]; exact ((Keeps.alloc _ w _).alloc' _).alloc' _
  refine ⟨⟨_, [w.heap.size], ⟨b2, ⟨rfl, _, _, rfl, Nat.le_refl _, by decide, .inr ⟨_, 0, _, rfl, ⟨by omega, b1.lt⟩, b1, by simp, fun i x hx => ?_⟩⟩, by simp, rfl, fun i id s hi hs => ?_, ⟨by omega, b2.lt⟩, fun id hid => ?_, fun b _ => id, fun b hb => hb.2, fun b hb => hb.elim, by simp; omega⟩⟩, hk⟩
  · rw [Nat.zero_add]; simpa [pV] using hx
  · cases i with
    | zero =>
      simp at hi hs; subst hi hs
      exact ⟨_, _, _, _, _, _, b0, IsNd.zero _ _, by unfold U64; decide⟩
    | succ i => simp at hi
  · simp at hid; subst hid; exact ⟨Nat.le_refl _, b0.lt⟩

set_option maxHeartbeats 400000 in
theorem new_ok {n : Nat} (w : World) (h1 : 1 ≤ n) (h2 : n ≤ 65536) : Calls Try.prog 38 #[iV n] w fun e w' => e = .returned (.tuple #[pV (w.heap.size + 2), iV 0]) ∧
    ArX w' (fun b => w.heap.size ≤ b ∧ b < w'.heap.size) Nob (w.heap.size + 2) ⟨n, [⟨0, Nd.zero⟩], 1⟩ ∧ Keeps Nob w w' := by
  have hq := fun w' => new_world w n h1 h2 w'
  have HQ := Lib.hid hq
  clear hq
  have h1' : (1 : Int) ≤ n := by omega
  have h2' : (n : Int) ≤ 65536 := by omega
  clear h1 h2
  unfold iV pV at *
  go_enter Try.func38, Try.ntmps38
  go_wp2_with (go_at_call 86; refine (storeI (u := .int .i64 0) (by rw [World.cell?_alloc_at _ _ _ _ (by simp)]; rfl) (by rw [World.frozen?_alloc_at _ _ _ _ (by simp)])).mono ?_; rintro e w' ⟨rfl, rfl⟩)
  go_ret2
  exact ⟨rfl, HQ.out _ rfl⟩

theorem ArW.rowNe (h : ArW w M D p slots ids A) : ¬ slots.ownBlock = some p := fun e => by
  obtain ⟨hl, a, c, rfl, _, _, hr⟩ := h.row
  rcases hr with ⟨rfl, _⟩ | ⟨g, o, cur, rfl, _, hb, _⟩
  · simp [Value.ownBlock] at e
  · simp [Value.ownBlock] at e; subst e; exact Blk.ne_ hb h.blk (by decide) rfl

end
end Go.Proofs.Ytbhohohgojcapaa

namespace Go.Proofs.Ytbhohohgojcapaa
open Go.RowKit

/-- The numbers of the held ones among the slots, the first of which has number i. -/
def heldFrom (i : Nat) : List Sl → List Int
  | [] => []
  | s :: l => if s.word % 2 = 1 then ((i : Int)) :: heldFrom (i + 1) l else heldFrom (i + 1) l
theorem heldFrom_len (i : Nat) (l : List Sl) : (heldFrom i l).length ≤ l.length := by
  induction l generalizing i with
  | nil => simp [heldFrom]
  | cons s l ih => have := ih (i + 1); simp only [heldFrom]; split <;> simp <;> omega
theorem heldFrom_snoc (i : Nat) (l : List Sl) (s : Sl) : heldFrom i (l ++ [s]) = heldFrom i l ++ if s.word % 2 = 1 then [((i + l.length : Nat) : Int)] else [] := by
  induction l generalizing i with
  | nil => simp [heldFrom]
  | cons t l ih =>
    simp only [List.cons_append, heldFrom, ih, List.length_cons, show i + 1 + l.length = i + (l.length + 1) by omega]
    split <;> simp
theorem take_snoc' {α : Type} (l : List α) (k : Nat) (x : α) (h : l[k]? = some x) : l.take (k + 1) = l.take k ++ [x] := by
  rw [List.take_add_one, h]; rfl

theorem odd_bits (n : Nat) (h : U64 n) : bits BinOp.and IntKind.u64 (n : Int) 1 = ((n % 2 : Nat) : Int) := by
  unfold U64 at h
  rw [and_one_u64 _ (by omega) (by omega)]
  omega

section
variable {M D : Nat → Prop} {w : World} {p : Nat} {slots : Value} {ids : List Nat} {A : Ar}

set_option maxRecDepth 100000 in
set_option maxHeartbeats 800000 in
theorem held_ (h : ArW w M D p slots ids A) : Calls Try.prog 67 #[pV p] w fun e w' => ∃ v, e = .returned v ∧
    Own w' (From w.heap.size) 3 1 v (heldFrom 1 A.sl).length ((heldFrom 1 A.sl).map iV) ∧ Keeps Nob w w' := by
  have hl := h.len
  have hbd := h.bound
  have hsmall : ids.length ≤ 65536 := by omega
  have H := Lib.hid h
  obtain ⟨_, a, c, hsl, _, _, hrow⟩ := h.row
  subst hsl
  have c1 : w.cell? ⟨p, 1, none⟩ = some (.slice a ids.length c) := h.blk.cell 1
  have HL := Lib.hid hl
  clear h hl hbd hrow
  obtain ⟨i0, hi, hz0, hz1, hz2⟩ := info_parts Try.inf_int
  unfold pV at *
  go_enter Try.func67, Try.ntmps67
  go_wp2
  go_loopw [3, 11] (fun l i wr => ∃ k : Nat, k ≤ ids.length ∧ i = .int .i64 k ∧ Own wr (From w.heap.size) 3 1 l (heldFrom 1 (A.sl.take k)).length ((heldFrom 1 (A.sl.take k)).map iV) ∧ Keeps Nob w wr) (fun _ i _ => ids.length - (intOf i).toNat)
  case atStart => exact ⟨0, Nat.zero_le _, rfl, Own.nil _ _ _ _, Keeps.refl _ _⟩
  case round =>
    obtain ⟨k, hk, rfl, hown, hkp⟩ := hrel
    obtain ⟨A', c', hv⟩ := hown.form
    subst hv
    have hle := heldFrom_len 1 (A.sl.take k)
    have hle2 : (A.sl.take k).length ≤ k := List.length_take_le _ _
    have hsz := hkp.size
    by_cases hlt : k < ids.length
    · obtain ⟨b, hb⟩ : ∃ b, ids[k]? = some b := ⟨_, List.getElem?_eq_getElem hlt⟩
      obtain ⟨s, hs⟩ : ∃ s, A.sl[k]? = some s := ⟨_, List.getElem?_eq_getElem (by rw [← HL.out]; exact hlt)⟩
      obtain ⟨g, o, c2, hform, _, hcells⟩ := H.out.form (by omega)
      obtain ⟨rfl, rfl⟩ : a = some ⟨g, o, none⟩ ∧ c = c2 := by injection hform with h1 _ h3; exact ⟨h1, h3⟩
      have hc1 : wr.cell? ⟨g, o + k, none⟩ = some (.pointer (some ⟨b, 0, none⟩)) := hkp.cell (hcells k b hb) id
      have hc2 : wr.cell? ⟨b, 0, none⟩ = some (.int .u64 s.word) := hkp.cell (H.out.slotCell hb hs) id
      have HT := Lib.hid (take_snoc' A.sl k s hs)
      have HS := Lib.hid (heldFrom_snoc 1 (A.sl.take k) s)
      have HO := Lib.hid hown
      have HK := Lib.hid hkp
      have HB := Lib.hid hb
      have HU : Hid (U64 s.word) := (H.out.slot k b s hb hs).choose_spec.choose_spec.choose_spec.choose_spec.choose_spec.choose_spec.2.2
      clear hcells hform hown hkp hb hs
      have hodd := odd_bits s.word HU.out
      have HODD := Lib.hid hodd
      clear hodd
      go_wp2_with (first
        | (go_at_call 59; refine (loadU hc2).mono ?_; rintro e w' ⟨rfl, rfl⟩)
        | (at_builtin; refine wpList_app rfl (.tmp 22) (.tmp 25) 29 rfl Try.underlying29 hi hz0 hz1 hz2 rfl (by decide) (v := .slice A' (heldFrom 1 (List.take k A.sl)).length c') (n := (heldFrom 1 (List.take k A.sl)).length) (m := 1) (S := From w.heap.size) (T := fun _ => True) (xs := (heldFrom 1 (List.take k A.sl)).map iV) (news := [.int .i64 ((k : Int) + 1)]) rfl ?c1 (y := .slice (some ⟨wr.heap.size, 0, none⟩) 1 1) rfl ?c2 ?c3 ?c4 ?c5 ?c6))
      case c1 => exact HO.out.keeps (Keeps.alloc Nob _ _) (fun _ _ _ => id)
      case c2 => exact (SlG.lit1 _ _ _ _ rfl).mono (fun _ _ _ => trivial)
      case c3 => intro u hu; simp at hu; subst hu; rfl
      case c4 => unfold maxLen; omega
      case c5 => omega
      case c6 =>
        intro v' w1 ho hkk _
        have HOO := Lib.hid ho
        have HKK := Lib.hid hkk
        clear ho hkk
        go_wp2
        go_roundw
        case rel =>
          have ht : (bits BinOp.and IntKind.u64 (↑s.word) 1 == 1) = true := by assumption
          rw [HODD.out] at ht
          have hsw : s.word % 2 = 1 := by have := beq_iff_eq.1 ht; omega
          have hlk : (A.sl.take k).length = k := by rw [List.length_take, ← HL.out]; omega
          have heq : heldFrom 1 (A.sl.take (k + 1)) = heldFrom 1 (A.sl.take k) ++ [((k : Int) + 1)] := by
            rw [HT.out, HS.out, if_pos hsw, hlk]; congr 2; omega
          refine ⟨k + 1, by omega, by go_num, ?_, ?_⟩
          · rw [heq, List.length_append, List.map_append]
            refine HOO.out.mono (fun b _ hb => ?_)
            rcases hb with hb | hb
            · exact (HO.out.blk hb).1
            · have := HK.out.size; show w.heap.size ≤ b; have h2 := hb.1; omega
          · exact (HK.out.alloc' _).trans HKK.out (fun b hb e => absurd hb (Nat.not_lt.2 (HO.out.blk e).1))
        case measure => simp [intOf]; omega
      all_goals (try (
        go_roundw
        case rel =>
          have ht : (bits BinOp.and IntKind.u64 (↑s.word) 1 == 1) = false := by assumption
          rw [HODD.out] at ht
          have hsw : ¬ s.word % 2 = 1 := by have := beq_eq_false_iff_ne.1 ht; omega
          have heq : heldFrom 1 (A.sl.take (k + 1)) = heldFrom 1 (A.sl.take k) := by
            rw [HT.out, HS.out, if_neg hsw, List.append_nil]
          exact ⟨k + 1, by omega, by go_num, by rw [heq]; exact HO.out, HK.out⟩
        case measure => simp [intOf]; omega))
    · have hkk : k = ids.length := by omega
      have HO := Lib.hid hown
      have HK := Lib.hid hkp
      clear hown hkp
      go_wp2
      go_ret
      have heq : A.sl.take k = A.sl := List.take_of_length_le (by rw [← HL.out]; omega)
      have := HO.out
      rw [heq] at this
      exact ⟨_, rfl, by rw [heq]; exact this, HK.out⟩
end
end Go.Proofs.Ytbhohohgojcapaa

/- Comparing texts: bytes.Compare, and the document's own. -/
import Derived.Test.YtbhohohgojcapaaOwn
import Derived.Lib.BytesEntry
import Derived.BigQuiet
namespace Go.Proofs.Ytbhohohgojcapaa
open Go.RowKit

abbrev cmp := Lib.compareBytes
theorem cmp_cases : ∀ (a b : List UInt8), cmp a b = -1 ∨ cmp a b = 0 ∨ cmp a b = 1
  | [], [] => .inr (.inl rfl)
  | [], _ :: _ => .inl rfl
  | _ :: _, [] => .inr (.inr rfl)
  | a :: l, b :: m => by
    unfold cmp Lib.compareBytes
    split
    · exact .inl rfl
    · split
      · exact .inr (.inr rfl)
      · exact cmp_cases l m
theorem cmp_self : ∀ (a : List UInt8), cmp a a = 0
  | [] => rfl
  | a :: l => by unfold cmp Lib.compareBytes; rw [if_neg (UInt8.lt_irrefl a), if_neg (UInt8.lt_irrefl a)]; exact cmp_self l
theorem cmp_zero : ∀ (a b : List UInt8), cmp a b = 0 → a = b
  | [], [], _ => rfl
  | [], _ :: _, h => by cases h
  | _ :: _, [], h => by cases h
  | a :: l, b :: m, h => by
    unfold cmp Lib.compareBytes at h
    split at h
    · cases h
    · split at h
      · cases h
      · rename_i h1 h2
        have : a = b := UInt8.le_antisymm (UInt8.not_lt.1 h2) (UInt8.not_lt.1 h1)
        rw [this, cmp_zero l m h]
/-- Where the heads are alike up to place n. -/
theorem cmp_drop : ∀ (n : Nat) (a b : List UInt8), a.take n = b.take n → cmp a b = cmp (a.drop n) (b.drop n)
  | 0, a, b, _ => by rw [List.drop_zero, List.drop_zero]
  | n + 1, [], [], _ => by simp
  | n + 1, [], _ :: _, h => by simp at h
  | n + 1, _ :: _, [], h => by simp at h
  | n + 1, x :: a, y :: b, h => by
    simp only [List.take_succ_cons, List.cons.injEq] at h
    obtain ⟨rfl, h⟩ := h
    rw [List.drop_succ_cons, List.drop_succ_cons, ← cmp_drop n a b h]
    show Lib.compareBytes (x :: a) (x :: b) = _
    conv => lhs; unfold Lib.compareBytes
    rw [if_neg (UInt8.lt_irrefl x), if_neg (UInt8.lt_irrefl x)]
theorem cmp_at {n : Nat} {a b : List UInt8} {x y : UInt8} (h : a.take n = b.take n) (hx : a[n]? = some x) (hy : b[n]? = some y) (hne : x ≠ y) : cmp a b = if x < y then -1 else 1 := by
  rw [cmp_drop n a b h]
  obtain ⟨h1, h1'⟩ := List.getElem?_eq_some_iff.1 hx
  obtain ⟨h2, h2'⟩ := List.getElem?_eq_some_iff.1 hy
  rw [List.drop_eq_getElem_cons h1, List.drop_eq_getElem_cons h2, h1', h2']
  show Lib.compareBytes (x :: _) (y :: _) = _
  unfold Lib.compareBytes
  by_cases hlt : x < y
  · rw [if_pos hlt, if_pos hlt]
  · rw [if_neg hlt, if_neg hlt, if_pos (UInt8.lt_of_le_of_ne (UInt8.not_lt.1 hlt) (Ne.symm hne))]
theorem cmp_end {n : Nat} {a b : List UInt8} (h : a.take n = b.take n) (hn : n = a.length ∨ n = b.length) : cmp a b = if a.length < b.length then -1 else if b.length < a.length then 1 else 0 := by
  rw [cmp_drop n a b h]
  have hl : (a.take n).length = (b.take n).length := by rw [h]
  rw [List.length_take, List.length_take] at hl
  have ha : (a.drop n).length = a.length - n := List.length_drop
  have hb : (b.drop n).length = b.length - n := List.length_drop
  rcases h1 : a.drop n with _ | ⟨x, l⟩ <;> rcases h2 : b.drop n with _ | ⟨y, m⟩ <;> rw [h1] at ha <;> rw [h2] at hb <;> simp only [List.length_nil, List.length_cons] at ha hb
  · rw [if_neg (by omega), if_neg (by omega)]; rfl
  · rw [if_pos (by omega)]; rfl
  · rw [if_neg (by omega), if_pos (by omega)]; rfl
  · omega

section
variable {S T : Nat → Prop} {w : World} {a b : Value} {la lb : List UInt8}

theorem run_bytesOf {P : Program} (h : Byts w S a la) : (Extern.Bytes.bytesOf a).run P w = .ok ⟨la.toArray⟩ w := by
  obtain ⟨A, c, rfl, _, _⟩ := h.form
  rcases hA : A with _ | ad
  · subst hA
    have hn : la = [] := by
      rcases hl : la with _ | ⟨x, l⟩
      · rfl
      · obtain ⟨ad, e, _⟩ := h.cells (i := 0) (by rw [hl]; simp)
        cases e
    subst hn
    rfl
  · subst hA
    have hc : ∀ j (x : Int), (la.map (fun u => (u.toNat : Int)))[j]? = some x → w.cell? (ad.add j) = some (.int .u8 x) := fun j x hj => by
      rw [List.getElem?_map] at hj
      obtain ⟨u, hu, rfl⟩ := Option.map_eq_some_iff.1 hj
      obtain ⟨ad', e, _, hcc⟩ := h.cells (i := j) (List.getElem?_eq_some_iff.1 hu).1
      cases e
      exact hcc j u hu
    have := Lib.run_loadBytesX (P := P) w (la.map (fun u => (u.toNat : Int))) ad .empty hc
    rw [List.length_map] at this
    have he : Lib.bytesOf (la.map (fun u => (u.toNat : Int))) = la := by
      unfold Lib.bytesOf
      rw [List.map_map]
      conv => rhs; rw [← List.map_id la]
      apply List.map_congr_left
      intro u _
      simp [Function.comp]
    rw [he] at this
    have h2 : (⟨ByteArray.empty.data ++ la.toArray⟩ : ByteArray) = ⟨la.toArray⟩ := by
      apply ByteArray.ext
      show (#[] : Array UInt8) ++ la.toArray = la.toArray
      simp
    rw [h2] at this
    exact this

/-- bytes.Compare. -/
theorem cmpP (h1 : Byts w S a la) (h2 : Byts w T b lb) : Calls Try.prog 123 #[a, b] w fun e w' => e = .returned (.int .i64 (cmp la lb)) ∧ w' = w := by
  have hd : (callFunc 135 #[a, b]).run Try.prog w = .ok (.value (.int .i64 (cmp la lb))) w := by
    rw [run_callFunc_extern (fn := Try.f135) (e := Extern.BytealgCompare.compare) (by kernel_rfl) (by kernel_rfl) (by kernel_rfl) (by kernel_rfl) (by kernel_rfl)]
    change (Sem.run Try.prog (do pure (goInt (Extern.BytealgCompare.cmp (← Extern.Bytes.bytesOf a) (← Extern.Bytes.bytesOf b)))) w).andThen _ = _
    simp only [Sem.run_bind, run_bytesOf h1, run_bytesOf h2, Sem.run_pure, Result.andThen, Lib.cmp_eq]
    rfl
  clear h1 h2
  generalize hcv : cmp la lb = cv at hd ⊢
  go_enter Try.func123, Try.ntmps123
  go_wp2
  go_ret
  exact ⟨rfl, rfl⟩

theorem take_both {k : Nat} {la lb : List UInt8} {x : UInt8} (h : la.take k = lb.take k) (hx : la[k]? = some x) (hy : lb[k]? = some x) : la.take (k + 1) = lb.take (k + 1) := by
  rw [List.take_add_one, List.take_add_one, h, hx, hy]

set_option maxRecDepth 100000 in
set_option maxHeartbeats 1000000 in
/-- The document's Compare. -/
theorem cmpR (h1 : Byts w S a la) (h2 : Byts w T b lb) : Calls Try.prog 29 #[a, b] w fun e w' => e = .returned (.int .i64 (cmp la lb)) ∧ Keeps Nob w w' := by
  obtain ⟨A, c, rfl, hn1, hm1⟩ := h1.form
  obtain ⟨B, d, rfl, hn2, hm2⟩ := h2.form
  have hz1 : la.length ≤ 9223372036854775807 := Nat.le_trans hn1 hm1
  have hz2 : lb.length ≤ 9223372036854775807 := Nat.le_trans hn2 hm2
  have H1 := Lib.hid h1
  have H2 := Lib.hid h2
  clear h1 h2 hn1 hn2 hm1 hm2
  go_enter Try.func29, Try.ntmps29
  go_wp2
  go_loopw [5] (fun i wr => ∃ k : Nat, k ≤ la.length ∧ k ≤ lb.length ∧ i = .int .i64 k ∧ la.take k = lb.take k ∧ Keeps Nob w wr) (fun i _ => la.length - (intOf i).toNat)
  case atStart => exact ⟨0, Nat.zero_le _, Nat.zero_le _, rfl, rfl, Keeps.refl _ _⟩
  case round =>
    obtain ⟨k, hk1, hk2, rfl, htake, hK⟩ := hrel
    have HT := Lib.hid htake
    have HK := Lib.hid hK
    clear htake hK
    by_cases hlt : k < la.length
    · by_cases hlt2 : k < lb.length
      · obtain ⟨x, hx⟩ : ∃ x, la[k]? = some x := ⟨_, List.getElem?_eq_getElem hlt⟩
        obtain ⟨y, hy⟩ : ∃ y, lb[k]? = some y := ⟨_, List.getElem?_eq_getElem hlt2⟩
        obtain ⟨ad, rfl, _, hca⟩ := H1.out.cells hlt
        obtain ⟨bd, rfl, _, hcb⟩ := H2.out.cells hlt2
        have hx' : wr.cell? (ad.add k) = some (.int .u8 (x.toNat : Int)) := HK.out.cell (hca k x hx) id
        have hy' : wr.cell? (bd.add k) = some (.int .u8 (y.toNat : Int)) := HK.out.cell (hcb k y hy) id
        have HX := Lib.hid hx
        have HY := Lib.hid hy
        clear hca hcb hx hy
        have b0 : (0 : Int) ≤ (k : Int) := by omega
        have b1 : (k : Int) < (la.length : Int) := by omega
        have b2 : (k : Int) < (lb.length : Int) := by omega
        by_cases hxy : x.toNat < y.toNat
        · have t1 : decide ((x.toNat : Int) < (y.toNat : Int)) = true := by simpa using hxy
          go_wp2
          go_quiet (fail)
          go_wp2
          go_ret
          have hne : x ≠ y := fun e => by subst e; omega
          refine ⟨?_, HK.out.drewN' _⟩
          rw [cmp_at HT.out HX.out HY.out hne, if_pos (UInt8.lt_iff_toNat_lt.2 hxy)]; rfl
        · have t1 : decide ((x.toNat : Int) < (y.toNat : Int)) = false := by simpa using hxy
          have b3 : ¬ (x.toNat : Int) < (y.toNat : Int) := by omega
          by_cases hyx : y.toNat < x.toNat
          · have t2 : decide ((y.toNat : Int) < (x.toNat : Int)) = true := by simpa using hyx
            go_wp2
            go_quiet (fail)
            go_wp2
            have hx2 : (wr.drewN nq).cell? (ad.add k) = some (.int .u8 (x.toNat : Int)) := hx'
            have hy2 : (wr.drewN nq).cell? (bd.add k) = some (.int .u8 (y.toNat : Int)) := hy'
            generalize hq : wr.drewN nq = wq at hx2 hy2 ⊢
            have HQ := Lib.hid hq
            clear hq
            go_quiet (fail)
            go_wp2
            go_ret
            have hne : x ≠ y := fun e => by subst e; omega
            refine ⟨?_, ?_⟩
            · rw [cmp_at HT.out HX.out HY.out hne, if_neg (fun h => hxy (UInt8.lt_iff_toNat_lt.1 h))]; rfl
            · rw [← HQ.out]; exact (HK.out.drewN' _).drewN' _
          · have t2 : decide ((y.toNat : Int) < (x.toNat : Int)) = false := by simpa using hyx
            have b4 : ¬ (y.toNat : Int) < (x.toNat : Int) := by omega
            go_wp2
            go_quiet (fail)
            go_wp2
            have hx2 : (wr.drewN nq).cell? (ad.add k) = some (.int .u8 (x.toNat : Int)) := hx'
            have hy2 : (wr.drewN nq).cell? (bd.add k) = some (.int .u8 (y.toNat : Int)) := hy'
            generalize hq : wr.drewN nq = wq at hx2 hy2 ⊢
            have HQ := Lib.hid hq
            clear hq
            go_quiet (fail)
            go_wp2
            go_roundw
            case rel =>
              have hxy2 : x = y := UInt8.toNat_inj.1 (by omega)
              have := HX.out
              rw [hxy2] at this
              exact ⟨k + 1, by omega, by omega, by go_num, take_both HT.out this HY.out, by rw [← HQ.out]; exact (HK.out.drewN' _).drewN' _⟩
            case measure => simp [intOf]; omega
      · have hkb : k = lb.length := by omega
        have t1 : decide ((k : Int) < (lb.length : Int)) = false := by simp; omega
        have hce := cmp_end HT.out (.inr hkb)
        rw [if_neg (by omega), if_pos (by omega)] at hce
        subst hkb
        have HCE := Lib.hid hce
        clear hce
        go_wp2
        go_ret
        exact ⟨by rw [HCE.out]; rfl, HK.out⟩
    · have hka : k = la.length := by omega
      have hce := cmp_end HT.out (.inl hka)
      subst hka
      by_cases hll : la.length < lb.length
      · rw [if_pos hll] at hce
        have HCE := Lib.hid hce
        clear hce
        go_wp2
        go_ret
        exact ⟨by rw [HCE.out]; rfl, HK.out⟩
      · have hle : la.length = lb.length := by omega
        rw [if_neg (by omega), if_neg (by omega)] at hce
        have HCE := Lib.hid hce
        clear hce
        go_wp2
        go_ret
        exact ⟨by rw [HCE.out]; rfl, HK.out⟩
end

end Go.Proofs.Ytbhohohgojcapaa

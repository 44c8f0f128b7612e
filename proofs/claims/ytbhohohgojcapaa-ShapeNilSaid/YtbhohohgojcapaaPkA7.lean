import Derived.Test.YtbhohohgojcapaaPkA0
import Derived.Lib.BytesEntry
import Derived.BigQuiet
import Derived.Laws.IdiomStrings
import Derived.Laws.BytesArg
namespace Go.Proofs.Ytbhohohgojcapaa
open Go.RowKit

/-- n bytes, n numbers, n texts: whichever. -/
def ShB (w : World) (S : Nat → Prop) (v : Value) (n : Nat) : Prop := ∃ l : List UInt8, l.length = n ∧ OBy w S v l
def ShI (w : World) (S : Nat → Prop) (v : Value) (n : Nat) : Prop := ∃ l : List Int, l.length = n ∧ OIn w S v l
def ShT (w : World) (S : Nat → Prop) (v : Value) (n : Nat) : Prop := ∃ vs : List Value, vs.length = n ∧ Own w S 30 1 v n vs ∧ ∀ u ∈ vs, ∃ m, ShB w S u m

section
variable {S T M : Nat → Prop} {w w' : World} {v u : Value} {n g i : Nat} {cs : Array Value} {e : TypeId}

theorem mem_set_or {α : Type} {l : List α} {k : Nat} {a x : α} (h : x ∈ l.set k a) : x = a ∨ x ∈ l := by
  rcases List.mem_or_eq_of_mem_set h with h | h
  · exact .inr h
  · exact .inl h

/-- A write into whatever block: the row's cells stay of the kind P, if what is written is. -/
theorem Own.write {xs : List Value} {P : Value → Prop} (h : Own w S e 1 v n xs) (hx : ∀ x ∈ xs, P x) (hu : P u) : ∃ xs' : List Value, xs'.length = xs.length ∧ (∀ x ∈ xs', P x) ∧ Own (w.setCell ⟨g, i, none⟩ u) S e 1 v n xs' := by
  obtain ⟨hl, A, c, rfl, h1, h2, h⟩ := h
  rcases h with ⟨rfl, rfl⟩ | ⟨g0, o, cur, rfl, hs, hb, ho, hc⟩
  · exact ⟨xs, rfl, hx, hl, _, _, rfl, h1, h2, .inl ⟨rfl, rfl⟩⟩
  · by_cases hg : g0 = g
    · subst hg
      refine ⟨if o ≤ i then xs.set (i - o) u else xs, by split <;> simp, fun x hm => ?_, by split <;> simp [hl], _, _, rfl, h1, h2, .inr ⟨g0, o, _, rfl, hs, hb.set_ i u, by rw [Array.size_setIfInBounds]; exact ho, fun j x hj => ?_⟩⟩
      · split at hm
        · rcases mem_set_or hm with rfl | hm
          · exact hu
          · exact hx x hm
        · exact hx x hm
      · rw [Array.getElem?_setIfInBounds]
        by_cases hij : i = o + j
        · rw [if_pos (by omega), List.getElem?_set, if_pos (by omega)] at hj
          rw [if_pos hij]
          split at hj
          · rw [if_pos (by omega)]; exact hj
          · cases hj
        · rw [if_neg hij]
          split at hj
          · rw [List.getElem?_set, if_neg (by omega)] at hj; exact hc j x hj
          · exact hc j x hj
    · exact ⟨xs, rfl, hx, hl, _, _, rfl, h1, h2, .inr ⟨g0, o, cur, rfl, hs, hb.far hg u, ho, hc⟩⟩

theorem list_iV : ∀ (xs : List Value), (∀ x ∈ xs, ∃ b, x = iV b) → ∃ l : List Int, xs = l.map iV
  | [], _ => ⟨[], rfl⟩
  | x :: xs, h => by
    obtain ⟨b, rfl⟩ := h x (List.mem_cons_self ..)
    obtain ⟨l, rfl⟩ := list_iV xs (fun y hy => h y (List.mem_cons_of_mem _ hy))
    exact ⟨b :: l, rfl⟩

theorem ShB.nil (w : World) (S : Nat → Prop) : ShB w S (.slice none 0 0) 0 := ⟨[], rfl, OBy.nil _ _⟩
theorem ShB.keeps (h : ShB w S v n) (k : Keeps M w w') (hd : ∀ b, b < w.heap.size → S b → ¬ M b) : ShB w' S v n := by
  obtain ⟨l, e, h⟩ := h; exact ⟨l, e, h.keeps k hd⟩
theorem ShI.keeps (h : ShI w S v n) (k : Keeps M w w') (hd : ∀ b, b < w.heap.size → S b → ¬ M b) : ShI w' S v n := by
  obtain ⟨l, e, h⟩ := h; exact ⟨l, e, h.keeps k hd⟩
theorem ShT.keeps (h : ShT w S v n) (k : Keeps M w w') (hd : ∀ b, b < w.heap.size → S b → ¬ M b) : ShT w' S v n := by
  obtain ⟨l, e, h, h2⟩ := h; exact ⟨l, e, h.keeps k hd, fun u hu => by obtain ⟨m, hm⟩ := h2 u hu; exact ⟨m, hm.keeps k hd⟩⟩
theorem ShB.mono (h : ShB w S v n) (hd : ∀ b, b < w.heap.size → S b → T b) : ShB w T v n := by
  obtain ⟨l, e, h⟩ := h; exact ⟨l, e, h.mono hd⟩
theorem ShB.form (h : ShB w S v n) : ∃ A c, v = .slice A n c ∧ n ≤ c ∧ c ≤ maxLen := by
  obtain ⟨l, rfl, h⟩ := h; exact h.r.form
theorem ShI.form (h : ShI w S v n) : ∃ A c, v = .slice A n c ∧ n ≤ c ∧ c ≤ maxLen := by
  obtain ⟨l, rfl, h⟩ := h; exact h.r.form
theorem ShT.form (h : ShT w S v n) : ∃ A c, v = .slice A n c ∧ n ≤ c ∧ c ≤ maxLen := by
  obtain ⟨vs, rfl, h, _⟩ := h; exact h.r.form

theorem Own.get {A : Option Addr} {c : Nat} {xs : List Value} (h : Own w S e 1 (.slice A n c) n xs) (hi : i < n) : ∃ g o cs x, A = some ⟨g, o, none⟩ ∧ S g ∧ Blk w g e cs ∧ w.cell? ⟨g, o + i, none⟩ = some x ∧ x ∈ xs := by
  obtain ⟨h1, h2, h3⟩ := h.at_
  obtain ⟨hl, _⟩ := h
  rcases h3 with ⟨_, hc⟩ | ⟨g, o, cur, rfl, hs, hb, ho, hc⟩
  · omega
  · have hlt : i < xs.length := by omega
    exact ⟨g, o, cur, xs[i], rfl, hs, hb, by rw [hb.cell]; exact hc i _ (List.getElem?_eq_getElem hlt), List.getElem_mem hlt⟩
theorem ShB.get {A : Option Addr} {c : Nat} (h : ShB w S (.slice A n c) n) (hi : i < n) : ∃ g o cs b, A = some ⟨g, o, none⟩ ∧ S g ∧ Blk w g 5 cs ∧ w.cell? ⟨g, o + i, none⟩ = some (bV b) := by
  obtain ⟨l, rfl, h⟩ := h
  obtain ⟨g, o, cs, x, e, hs, hb, hc, hm⟩ := Own.get h hi
  obtain ⟨b, _, rfl⟩ := List.mem_map.1 hm
  exact ⟨g, o, cs, b, e, hs, hb, hc⟩
theorem ShI.get {A : Option Addr} {c : Nat} (h : ShI w S (.slice A n c) n) (hi : i < n) : ∃ g o cs b, A = some ⟨g, o, none⟩ ∧ S g ∧ Blk w g 3 cs ∧ w.cell? ⟨g, o + i, none⟩ = some (iV b) := by
  obtain ⟨l, rfl, h⟩ := h
  obtain ⟨g, o, cs, x, e, hs, hb, hc, hm⟩ := Own.get h hi
  obtain ⟨b, _, rfl⟩ := List.mem_map.1 hm
  exact ⟨g, o, cs, b, e, hs, hb, hc⟩
theorem ShT.get {A : Option Addr} {c : Nat} (h : ShT w S (.slice A n c) n) (hi : i < n) : ∃ g o cs A' m c', A = some ⟨g, o, none⟩ ∧ S g ∧ Blk w g 30 cs ∧ w.cell? ⟨g, o + i, none⟩ = some (.slice A' m c') ∧ ShB w S (.slice A' m c') m ∧ m ≤ maxLen := by
  obtain ⟨vs, rfl, h, h2⟩ := h
  obtain ⟨g, o, cs, x, e, hs, hb, hc, hm⟩ := Own.get h hi
  obtain ⟨m, hm⟩ := h2 x hm
  obtain ⟨A', c', rfl, hmc, hcm⟩ := hm.form
  exact ⟨g, o, cs, A', m, c', e, hs, hb, hc, hm, by omega⟩

theorem ShI.int (h : ShI w S v n) (b : Int) : ShI (w.setCell ⟨g, i, none⟩ (iV b)) S v n := by
  obtain ⟨l, rfl, h⟩ := h
  obtain ⟨xs', h1, h2, h3⟩ := Own.write (P := fun x => ∃ b, x = iV b) (g := g) (i := i) h (fun x hx => by obtain ⟨b, _, rfl⟩ := List.mem_map.1 hx; exact ⟨b, rfl⟩) ⟨b, rfl⟩
  obtain ⟨l', rfl⟩ := list_iV xs' h2
  rw [List.length_map, List.length_map] at h1
  exact ⟨l', h1, by unfold OIn; rw [h1]; exact h3⟩
theorem ShB.far (h : ShB w S v n) (hb : Blk w g e cs) (hne : e ≠ 5) (u : Value) : ShB (w.setCell ⟨g, i, none⟩ u) S v n := by
  obtain ⟨l, rfl, h⟩ := h
  exact ⟨l, rfl, Own.keepsB h hb (Ne.symm hne) (Keeps.setCell w (M := fun b => b = g) rfl u)⟩
theorem ShI.far (h : ShI w S v n) (hb : Blk w g e cs) (hne : e ≠ 3) (u : Value) : ShI (w.setCell ⟨g, i, none⟩ u) S v n := by
  obtain ⟨l, rfl, h⟩ := h
  exact ⟨l, rfl, Own.keepsB h hb (Ne.symm hne) (Keeps.setCell w (M := fun b => b = g) rfl u)⟩
theorem ShT.int (h : ShT w S v n) (hb : Blk w g 3 cs) (u : Value) : ShT (w.setCell ⟨g, i, none⟩ u) S v n := by
  obtain ⟨vs, hl, h, h2⟩ := h
  exact ⟨vs, hl, Own.keepsB h hb (by decide) (Keeps.setCell w (M := fun b => b = g) rfl _), fun x hx => by obtain ⟨m, hm⟩ := h2 x hx; exact ⟨m, hm.far hb (by decide) u⟩⟩
/-- A node's rows, of whatever content. -/
structure Spo (S : Nat → Prop) (w0 : World) (c1 c3 c4 c5 : Value) (n1 n3 n4 n5 : Nat) (w : World) : Prop where
  high : ShB w S c1 n1
  keys : ShT w S c3 n3
  vals : ShT w S c4 n4
  kids : ShI w S c5 n5
  kept : Keeps S w0 w
section
variable {w0 : World} {c1 c3 c4 c5 : Value} {n1 n3 n4 n5 : Nat}
theorem Spo.alloc (h : Spo S w0 c1 c3 c4 c5 n1 n3 n4 n5 w) (o : Obj) : Spo S w0 c1 c3 c4 c5 n1 n3 n4 n5 (w.alloc o) :=
  ⟨h.1.keeps (Keeps.alloc Nob _ _) (fun _ _ _ => id), h.2.keeps (Keeps.alloc Nob _ _) (fun _ _ _ => id), h.3.keeps (Keeps.alloc Nob _ _) (fun _ _ _ => id), h.4.keeps (Keeps.alloc Nob _ _) (fun _ _ _ => id), h.5.alloc' _⟩
theorem Spo.int (h : Spo S w0 c1 c3 c4 c5 n1 n3 n4 n5 w) (hs : S g) (hb : Blk w g 3 cs) (b : Int) : Spo S w0 c1 c3 c4 c5 n1 n3 n4 n5 (w.setCell ⟨g, i, none⟩ (iV b)) :=
  ⟨h.1.far hb (by decide) _, h.2.int hb _, h.3.int hb _, h.4.int b, h.5.setCell' (fun _ => hs) _⟩
end
end
end Go.Proofs.Ytbhohohgojcapaa

namespace Go.Proofs.Ytbhohohgojcapaa
open Go.RowKit

abbrev cmp := Lib.compareBytes
theorem cmp_cases : ∀ (a b : List UInt8), cmp a b = -1 ∨ cmp a b = 0 ∨ cmp a b = 1
  | [], [] => .inr (.inl rfl)
  | [], _ :: _ => .inl rfl
  | _ :: _, [] => .inr (.inr rfl)
  | a :: l, b :: m => by
    unfold cmp Lib.compareBytes
    split
    · exact .inl rfl
    · split
      · exact .inr (.inr rfl)
      · exact cmp_cases l m
section
variable {S T : Nat → Prop} {w : World} {a b : Value} {la lb : List UInt8}

theorem run_bytesOf {P : Program} (h : Byts w S a la) : (Extern.Bytes.bytesOf a).run P w = .ok ⟨la.toArray⟩ w := by
  obtain ⟨A, c, rfl, _, _⟩ := h.form
  rcases hA : A with _ | ad
  · subst hA
    have hn : la = [] := by
      rcases hl : la with _ | ⟨x, l⟩
      · rfl
      · obtain ⟨ad, e, _⟩ := h.cells (i := 0) (by rw [hl]; simp)
        cases e
    subst hn
    rfl
  · subst hA
    have hc : ∀ j (x : Int), (la.map (fun u => (u.toNat : Int)))[j]? = some x → w.cell? (ad.add j) = some (.int .u8 x) := fun j x hj => by
      rw [List.getElem?_map] at hj
      obtain ⟨u, hu, rfl⟩ := Option.map_eq_some_iff.1 hj
      obtain ⟨ad', e, _, hcc⟩ := h.cells (i := j) (List.getElem?_eq_some_iff.1 hu).1
      cases e
      exact hcc j u hu
    have := Lib.run_loadBytesX (P := P) w (la.map (fun u => (u.toNat : Int))) ad .empty hc
    rw [List.length_map] at this
    have he : Lib.bytesOf (la.map (fun u => (u.toNat : Int))) = la := by
      unfold Lib.bytesOf
      rw [List.map_map]
      conv => rhs; rw [← List.map_id la]
      apply List.map_congr_left
      intro u _
      simp [Function.comp]
    rw [he] at this
    have h2 : (⟨ByteArray.empty.data ++ la.toArray⟩ : ByteArray) = ⟨la.toArray⟩ := by
      apply ByteArray.ext
      show (#[] : Array UInt8) ++ la.toArray = la.toArray
      simp
    rw [h2] at this
    exact this

/-- bytes.Compare. -/
theorem cmpP (h1 : Byts w S a la) (h2 : Byts w T b lb) : Calls Try.prog 123 #[a, b] w fun e w' => e = .returned (.int .i64 (cmp la lb)) ∧ w' = w := by
  have hd : (callFunc 135 #[a, b]).run Try.prog w = .ok (.value (.int .i64 (cmp la lb))) w := by
    rw [run_callFunc_extern (fn := Try.f135) (e := Extern.BytealgCompare.compare) (by kernel_rfl) (by kernel_rfl) (by kernel_rfl) (by kernel_rfl) (by kernel_rfl)]
    change (Sem.run Try.prog (do pure (goInt (Extern.BytealgCompare.cmp (← Extern.Bytes.bytesOf a) (← Extern.Bytes.bytesOf b)))) w).andThen _ = _
    simp only [Sem.run_bind, run_bytesOf h1, run_bytesOf h2, Sem.run_pure, Result.andThen, Lib.cmp_eq]
    rfl
  clear h1 h2
  generalize hcv : cmp la lb = cv at hd ⊢
  go_enter Try.func123, Try.ntmps123
  go_wp2
  go_ret
  exact ⟨rfl, rfl⟩

end

end Go.Proofs.Ytbhohohgojcapaa

namespace Go.Proofs.Ytbhohohgojcapaa
open Go.RowKit

def beyond (high key : List UInt8) : Bool := decide (0 < high.length) && decide (0 ≤ cmp key high)
/-- How many keys are not above. -/
def upto (l : List (List UInt8)) (k : List UInt8) : Nat := l.countP (fun x => decide (cmp x k ≤ 0))
def childOf (kids : List Int) (keys : List (List UInt8)) (key : List UInt8) : Int := kids.getD (min (upto keys key) (kids.length - 1)) 0

section
variable {S T U : Nat → Prop} {w : World} {c0 c1 c2 c3 c4 c5 b : Value} {high key : List UInt8} {ls : List (List UInt8)} {kids : List Int}

set_option maxRecDepth 100000 in
set_option maxHeartbeats 1000000 in
theorem beyondP (h1 : Byts w S c1 high) (h2 : Byts w T b key) : Calls Try.prog 132 #[.agg #[c0, c1, c2, c3, c4, c5], b] w fun e w' => e = .returned (.bool (beyond high key)) ∧ Keeps Nob w w' := by
  obtain ⟨A, c, rfl, hn1, hm1⟩ := h1.form
  have HC : Hid (∀ o, Calls Try.prog 123 #[b, .slice A high.length c] (w.alloc o) fun e w' => e = .returned (.int .i64 (cmp key high)) ∧ w' = w.alloc o) := fun o => cmpP (h2.keeps (Keeps.alloc Nob w o) (fun _ _ _ => id)) (h1.keeps (Keeps.alloc Nob w o) (fun _ _ _ => id))
  unfold beyond
  clear h1 h2 hn1 hm1
  by_cases hz : 0 < high.length
  · rcases cmp_cases key high with hc | hc | hc
    all_goals
      have HCM := Lib.hid hc
      rw [hc]
      clear hc
      go_enter Try.func132, Try.ntmps132
      go_wp2_with (go_at_call 123; refine (HC.out _).mono ?_; rintro e w1 ⟨rfl, rfl⟩; rw [HCM.out])
      go_ret
      exact ⟨by simp [hz], Keeps.alloc _ _ _⟩
  · go_enter Try.func132, Try.ntmps132
    go_wp2
    go_ret
    exact ⟨by simp [hz], Keeps.alloc _ _ _⟩

end
end Go.Proofs.Ytbhohohgojcapaa

namespace Go.Proofs.Ytbhohohgojcapaa
open Go.RowKit

theorem run_str {w : World} {S : Nat → Prop} {v : Value} {l : List UInt8} (h : Byts w S v l) : (convert 30 9 v).run Try.prog w = .ok (.string ⟨l.toArray⟩) w := by
  obtain ⟨A, c, rfl, _, _⟩ := h.form
  rcases hA : A with _ | ad
  · subst hA
    have hn : l = [] := by
      rcases hl : l with _ | ⟨x, l'⟩
      · rfl
      · obtain ⟨ad, e, _⟩ := h.cells (i := 0) (by rw [hl]; simp)
        cases e
    subst hn
    exact run_convert_bytes_nil w 30 5 Try.underlying30 Try.underlying5 _ _ 9 Try.underlying9
  · subst hA
    refine run_convert_bytes_back w 30 9 5 ad c l Try.underlying30 Try.underlying5 Try.underlying9 (fun j hj => ?_)
    obtain ⟨ad', e, _, hc⟩ := h.cells hj
    cases e
    exact hc j _ (List.getElem?_eq_getElem hj)

section
variable {S T : Nat → Prop} {w : World} {a b : Value} {la lb : List (List UInt8)}

end

section
variable {S T : Nat → Prop} {w : World} {a0 a1 a2 a3 a4 a5 b0 b1 b2 b3 b4 b5 : Value} {n m : Nd}

end

end Go.Proofs.Ytbhohohgojcapaa

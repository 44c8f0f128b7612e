import Derived.Test.YtbhohohgojcapaaGreatPkA0
import Derived.Lib.BytesEntry
import Derived.BigQuiet
import Derived.Laws.IdiomStrings
import Derived.Laws.BytesArg
set_option maxHeartbeats 64000000
namespace Go.Proofs.YtbhohohgojcapaaGreat
open Go.RowKit
theorem bV_inc (b : UInt8) : Value.int .u8 (((b.toNat : Int) + 1) % 256) = bV (b + 1) := by
 unfold bV
 rw [UInt8.toNat_add]
 congr 1
def ShB (w : World) (S : Nat -> Prop) (v : Value) (n : Nat) : Prop := ∃ l : List UInt8, l.length = n /\ OBy w S v l
def ShI (w : World) (S : Nat -> Prop) (v : Value) (n : Nat) : Prop := ∃ l : List Int, l.length = n /\ OIn w S v l
def ShT (w : World) (S : Nat -> Prop) (v : Value) (n : Nat) : Prop := ∃ vs : List Value, vs.length = n /\ Own w S 23 1 v n vs /\ ∀ u ∈ vs, ∃ m, ShB w S u m
section
variable {S T M : Nat -> Prop} {w w' : World} {v u : Value} {n g i : Nat} {cs : Array Value} {e : TypeId}
theorem mem_set_or {α : Type} {l : List α} {k : Nat} {a x : α} (h : x ∈ l.set k a) : x = a \/ x ∈ l := by
 rcases List.mem_or_eq_of_mem_set h with h | h
 ·exact .inr h
 ·exact .inl h
theorem Own.write {xs : List Value} {P : Value -> Prop} (h : Own w S e 1 v n xs) (hx : ∀ x ∈ xs, P x) (hu : P u) : ∃ xs' : List Value, xs'.length = xs.length /\ (∀ x ∈ xs', P x) /\ Own (w.setCell ⟨g, i, none⟩ u) S e 1 v n xs' := by
 obtain ⟨hl, A, c, rfl, h1, h2, h⟩ := h
 rcases h with ⟨rfl, rfl⟩ | ⟨g0, o, cur, rfl, hs, hb, ho, hc⟩
 ·exact ⟨xs, rfl, hx, hl, _, _, rfl, h1, h2, .inl ⟨rfl, rfl⟩⟩
 ·by_cases hg : g0 = g
  ·subst hg
   refine ⟨if o <= i then xs.set (i - o) u else xs, by split <;> simp, λ x hm => ?_, by split <;> simp [hl], _, _, rfl, h1, h2, .inr ⟨g0, o, _, rfl, hs, hb.set_ i u, by rw [Array.size_setIfInBounds]; exact ho, λ j x hj => ?_⟩⟩
   ·split at hm
    ·rcases mem_set_or hm with rfl | hm
     ·exact hu
     ·exact hx x hm
    ·exact hx x hm
   ·rw [Array.getElem?_setIfInBounds]
    by_cases hij : i = o + j
    ·rw [if_pos (by omega), List.getElem?_set, if_pos (by omega)] at hj
     rw [if_pos hij]
     split at hj
     ·rw [if_pos (by omega)]; exact hj
     ·cases hj
    ·rw [if_neg hij]
     split at hj
     ·rw [List.getElem?_set, if_neg (by omega)] at hj; exact hc j x hj
     ·exact hc j x hj
  ·exact ⟨xs, rfl, hx, hl, _, _, rfl, h1, h2, .inr ⟨g0, o, cur, rfl, hs, hb.far hg u, ho, hc⟩⟩
theorem list_bV : ∀ (xs : List Value), (∀ x ∈ xs, ∃ b, x = bV b) -> ∃ l : List UInt8, xs = l.map bV
 | [], _ => ⟨[], rfl⟩
 | x :: xs, h => by
  obtain ⟨b, rfl⟩ := h x (List.mem_cons_self ..)
  obtain ⟨l, rfl⟩ := list_bV xs (λ y hy => h y (List.mem_cons_of_mem _ hy))
  exact ⟨b :: l, rfl⟩
theorem list_iV : ∀ (xs : List Value), (∀ x ∈ xs, ∃ b, x = iV b) -> ∃ l : List Int, xs = l.map iV
 | [], _ => ⟨[], rfl⟩
 | x :: xs, h => by
  obtain ⟨b, rfl⟩ := h x (List.mem_cons_self ..)
  obtain ⟨l, rfl⟩ := list_iV xs (λ y hy => h y (List.mem_cons_of_mem _ hy))
  exact ⟨b :: l, rfl⟩
theorem OBy.sh {l} (h : OBy w S v l) : ShB w S v l.length := ⟨l, rfl, h⟩
theorem OIn.sh {l} (h : OIn w S v l) : ShI w S v l.length := ⟨l, rfl, h⟩
theorem OTx.sh {l} (h : OTx w S v l) : ShT w S v l.length := by
 obtain ⟨vs, h1, h2, h3⟩ := h
 refine ⟨vs, h2, h1, λ u hu => ?_⟩
 obtain ⟨i, hi⟩ := List.getElem?_of_mem hu
 have : i < l.length := by rw [<- h2]; exact (List.getElem?_eq_some_iff.1 hi).1
 exact ⟨_, (h3 i u _ hi (List.getElem?_eq_getElem this)).sh⟩
theorem ShB.nil (w : World) (S : Nat -> Prop) : ShB w S (.slice none 0 0) 0 := ⟨[], rfl, OBy.nil _ _⟩
theorem ShB.form (h : ShB w S v n) : ∃ A c, v = .slice A n c /\ n <= c /\ c <= maxLen := by
 obtain ⟨l, rfl, h⟩ := h; exact h.r.form
theorem Own.get {A : Option Addr} {c : Nat} {xs : List Value} (h : Own w S e 1 (.slice A n c) n xs) (hi : i < n) : ∃ g o cs x, A = some ⟨g, o, none⟩ /\ S g /\ Blk w g e cs /\ w.cell? ⟨g, o + i, none⟩ = some x /\ x ∈ xs := by
 obtain ⟨h1, h2, h3⟩ := h.at_
 obtain ⟨hl, _⟩ := h
 rcases h3 with ⟨_, hc⟩ | ⟨g, o, cur, rfl, hs, hb, ho, hc⟩
 ·omega
 ·have hlt : i < xs.length := by omega
  exact ⟨g, o, cur, xs[i], rfl, hs, hb, by rw [hb.cell]; exact hc i _ (List.getElem?_eq_getElem hlt), List.getElem_mem hlt⟩
theorem ShB.get {A : Option Addr} {c : Nat} (h : ShB w S (.slice A n c) n) (hi : i < n) : ∃ g o cs b, A = some ⟨g, o, none⟩ /\ S g /\ Blk w g 5 cs /\ w.cell? ⟨g, o + i, none⟩ = some (bV b) := by
 obtain ⟨l, rfl, h⟩ := h
 obtain ⟨g, o, cs, x, e, hs, hb, hc, hm⟩ := Own.get h hi
 obtain ⟨b, _, rfl⟩ := List.mem_map.1 hm
 exact ⟨g, o, cs, b, e, hs, hb, hc⟩
theorem ShI.get {A : Option Addr} {c : Nat} (h : ShI w S (.slice A n c) n) (hi : i < n) : ∃ g o cs b, A = some ⟨g, o, none⟩ /\ S g /\ Blk w g 3 cs /\ w.cell? ⟨g, o + i, none⟩ = some (iV b) := by
 obtain ⟨l, rfl, h⟩ := h
 obtain ⟨g, o, cs, x, e, hs, hb, hc, hm⟩ := Own.get h hi
 obtain ⟨b, _, rfl⟩ := List.mem_map.1 hm
 exact ⟨g, o, cs, b, e, hs, hb, hc⟩
theorem ShT.get {A : Option Addr} {c : Nat} (h : ShT w S (.slice A n c) n) (hi : i < n) : ∃ g o cs A' m c', A = some ⟨g, o, none⟩ /\ S g /\ Blk w g 23 cs /\ w.cell? ⟨g, o + i, none⟩ = some (.slice A' m c') /\ ShB w S (.slice A' m c') m /\ m <= maxLen := by
 obtain ⟨vs, rfl, h, h2⟩ := h
 obtain ⟨g, o, cs, x, e, hs, hb, hc, hm⟩ := Own.get h hi
 obtain ⟨m, hm⟩ := h2 x hm
 obtain ⟨A', c', rfl, hmc, hcm⟩ := hm.form
 exact ⟨g, o, cs, A', m, c', e, hs, hb, hc, hm, by omega⟩
theorem ShB.byte (h : ShB w S v n) (b : UInt8) : ShB (w.setCell ⟨g, i, none⟩ (bV b)) S v n := by
 obtain ⟨l, rfl, h⟩ := h
 obtain ⟨xs', h1, h2, h3⟩ := Own.write (P := λ x => ∃ b, x = bV b) (g := g) (i := i) h (λ x hx => by obtain ⟨b, _, rfl⟩ := List.mem_map.1 hx; exact ⟨b, rfl⟩) ⟨b, rfl⟩
 obtain ⟨l', rfl⟩ := list_bV xs' h2
 rw [List.length_map, List.length_map] at h1
 exact ⟨l', h1, by unfold OBy; rw [h1]; exact h3⟩
theorem ShI.int (h : ShI w S v n) (b : Int) : ShI (w.setCell ⟨g, i, none⟩ (iV b)) S v n := by
 obtain ⟨l, rfl, h⟩ := h
 obtain ⟨xs', h1, h2, h3⟩ := Own.write (P := λ x => ∃ b, x = iV b) (g := g) (i := i) h (λ x hx => by obtain ⟨b, _, rfl⟩ := List.mem_map.1 hx; exact ⟨b, rfl⟩) ⟨b, rfl⟩
 obtain ⟨l', rfl⟩ := list_iV xs' h2
 rw [List.length_map, List.length_map] at h1
 exact ⟨l', h1, by unfold OIn; rw [h1]; exact h3⟩
theorem ShB.far (h : ShB w S v n) (hb : Blk w g e cs) (hne : e ≠ 5) (u : Value) : ShB (w.setCell ⟨g, i, none⟩ u) S v n := by
 obtain ⟨l, rfl, h⟩ := h
 exact ⟨l, rfl, Own.keepsB h hb (Ne.symm hne) (Keeps.setCell w (M := λ b => b = g) rfl u)⟩
theorem ShI.far (h : ShI w S v n) (hb : Blk w g e cs) (hne : e ≠ 3) (u : Value) : ShI (w.setCell ⟨g, i, none⟩ u) S v n := by
 obtain ⟨l, rfl, h⟩ := h
 exact ⟨l, rfl, Own.keepsB h hb (Ne.symm hne) (Keeps.setCell w (M := λ b => b = g) rfl u)⟩
theorem ShT.byte (h : ShT w S v n) (hb : Blk w g 5 cs) (b : UInt8) : ShT (w.setCell ⟨g, i, none⟩ (bV b)) S v n := by
 obtain ⟨vs, hl, h, h2⟩ := h
 exact ⟨vs, hl, Own.keepsB h hb (by decide) (Keeps.setCell w (M := λ b => b = g) rfl _), λ u hu => by obtain ⟨m, hm⟩ := h2 u hu; exact ⟨m, hm.byte b⟩⟩
theorem ShT.int (h : ShT w S v n) (hb : Blk w g 3 cs) (u : Value) : ShT (w.setCell ⟨g, i, none⟩ u) S v n := by
 obtain ⟨vs, hl, h, h2⟩ := h
 exact ⟨vs, hl, Own.keepsB h hb (by decide) (Keeps.setCell w (M := λ b => b = g) rfl _), λ x hx => by obtain ⟨m, hm⟩ := h2 x hx; exact ⟨m, hm.far hb (by decide) u⟩⟩
theorem ShT.nil_ (h : ShT w S v n) (hb : Blk w g 23 cs) : ShT (w.setCell ⟨g, i, none⟩ (.slice none 0 0)) S v n := by
 obtain ⟨vs, hl, h, h2⟩ := h
 obtain ⟨xs', h1, h3, h4⟩ := Own.write (P := λ x => ∃ m, ShB w S x m) (g := g) (i := i) (u := .slice none 0 0) h h2 ⟨0, ShB.nil _ _⟩
 exact ⟨xs', by omega, h4, λ x hx => by obtain ⟨m, hm⟩ := h3 x hx; exact ⟨m, hm.far hb (by decide) _⟩⟩
structure Spo (S : Nat -> Prop) (w0 : World) (c1 c3 c4 c5 : Value) (n1 n3 n4 n5 : Nat) (w : World) : Prop where
 high : ShB w S c1 n1
 keys : ShT w S c3 n3
 vals : ShT w S c4 n4
 kids : ShI w S c5 n5
 kept : Keeps S w0 w
section
variable {w0 : World} {c1 c3 c4 c5 : Value} {n1 n3 n4 n5 : Nat}
theorem Spo.of {c0 c2} {n : Nd} (h : ONd w S c0 c1 c2 c3 c4 c5 n) : Spo S w c1 c3 c4 c5 n.high.length n.keys.length n.vals.length n.kids.length w :=
 ⟨h.1.high.sh, h.2.keys.sh, h.2.vals.sh, h.2.kids.sh, Keeps.refl _ _⟩
theorem Spo.byte (h : Spo S w0 c1 c3 c4 c5 n1 n3 n4 n5 w) (hs : S g) (hb : Blk w g 5 cs) (b : UInt8) : Spo S w0 c1 c3 c4 c5 n1 n3 n4 n5 (w.setCell ⟨g, i, none⟩ (bV b)) :=
 ⟨h.1.byte b, h.2.byte hb b, h.3.byte hb b, h.4.far hb (by decide) _, h.5.setCell' (λ _ => hs) _⟩
theorem Spo.nil_ (h : Spo S w0 c1 c3 c4 c5 n1 n3 n4 n5 w) (hs : S g) (hb : Blk w g 23 cs) : Spo S w0 c1 c3 c4 c5 n1 n3 n4 n5 (w.setCell ⟨g, i, none⟩ (.slice none 0 0)) :=
 ⟨h.1.far hb (by decide) _, h.2.nil_ hb, h.3.nil_ hb, h.4.far hb (by decide) _, h.5.setCell' (λ _ => hs) _⟩
theorem Spo.int (h : Spo S w0 c1 c3 c4 c5 n1 n3 n4 n5 w) (hs : S g) (hb : Blk w g 3 cs) (b : Int) : Spo S w0 c1 c3 c4 c5 n1 n3 n4 n5 (w.setCell ⟨g, i, none⟩ (iV b)) :=
 ⟨h.1.far hb (by decide) _, h.2.int hb _, h.3.int hb _, h.4.int b, h.5.setCell' (λ _ => hs) _⟩
end
end
end Go.Proofs.YtbhohohgojcapaaGreat
namespace Go.Proofs.YtbhohohgojcapaaGreat
open Go.RowKit
abbrev cmp := Lib.compareBytes
theorem cmp_cases : ∀ (a b : List UInt8), cmp a b = -1 \/ cmp a b = 0 \/ cmp a b = 1
 | [], [] => .inr (.inl rfl)
 | [], _ :: _ => .inl rfl
 | _ :: _, [] => .inr (.inr rfl)
 | a :: l, b :: m => by
  unfold cmp Lib.compareBytes
  split
  ·exact .inl rfl
  ·split
   ·exact .inr (.inr rfl)
   ·exact cmp_cases l m
theorem cmp_self : ∀ (a : List UInt8), cmp a a = 0
 | [] => rfl
 | a :: l => by unfold cmp Lib.compareBytes; rw [if_neg (UInt8.lt_irrefl a), if_neg (UInt8.lt_irrefl a)]; exact cmp_self l
theorem cmp_zero : ∀ (a b : List UInt8), cmp a b = 0 -> a = b
 | [], [], _ => rfl
 | [], _ :: _, h => by cases h
 | _ :: _, [], h => by cases h
 | a :: l, b :: m, h => by
  unfold cmp Lib.compareBytes at h
  split at h
  ·cases h
  ·split at h
   ·cases h
   ·rename_i h1 h2
    have : a = b := UInt8.le_antisymm (UInt8.not_lt.1 h2) (UInt8.not_lt.1 h1)
    rw [this, cmp_zero l m h]
theorem cmp_drop : ∀ (n : Nat) (a b : List UInt8), a.take n = b.take n -> cmp a b = cmp (a.drop n) (b.drop n)
 | 0, a, b, _ => by rw [List.drop_zero, List.drop_zero]
 | n + 1, [], [], _ => by simp
 | n + 1, [], _ :: _, h => by simp at h
 | n + 1, _ :: _, [], h => by simp at h
 | n + 1, x :: a, y :: b, h => by
  simp only [List.take_succ_cons, List.cons.injEq] at h
  obtain ⟨rfl, h⟩ := h
  rw [List.drop_succ_cons, List.drop_succ_cons, <- cmp_drop n a b h]
  show Lib.compareBytes (x :: a) (x :: b) = _
  conv => lhs; unfold Lib.compareBytes
  rw [if_neg (UInt8.lt_irrefl x), if_neg (UInt8.lt_irrefl x)]
theorem cmp_at {n : Nat} {a b : List UInt8} {x y : UInt8} (h : a.take n = b.take n) (hx : a[n]? = some x) (hy : b[n]? = some y) (hne : x ≠ y) : cmp a b = if x < y then -1 else 1 := by
 rw [cmp_drop n a b h]
 obtain ⟨h1, h1'⟩ := List.getElem?_eq_some_iff.1 hx
 obtain ⟨h2, h2'⟩ := List.getElem?_eq_some_iff.1 hy
 rw [List.drop_eq_getElem_cons h1, List.drop_eq_getElem_cons h2, h1', h2']
 show Lib.compareBytes (x :: _) (y :: _) = _
 unfold Lib.compareBytes
 by_cases hlt : x < y
 ·rw [if_pos hlt, if_pos hlt]
 ·rw [if_neg hlt, if_neg hlt, if_pos (UInt8.lt_of_le_of_ne (UInt8.not_lt.1 hlt) (Ne.symm hne))]
theorem cmp_end {n : Nat} {a b : List UInt8} (h : a.take n = b.take n) (hn : n = a.length \/ n = b.length) : cmp a b = if a.length < b.length then -1 else if b.length < a.length then 1 else 0 := by
 rw [cmp_drop n a b h]
 have hl : (a.take n).length = (b.take n).length := by rw [h]
 rw [List.length_take, List.length_take] at hl
 have ha : (a.drop n).length = a.length - n := List.length_drop
 have hb : (b.drop n).length = b.length - n := List.length_drop
 rcases h1 : a.drop n with _ | ⟨x, l⟩ <;> rcases h2 : b.drop n with _ | ⟨y, m⟩ <;> rw [h1] at ha <;> rw [h2] at hb <;> simp only [List.length_nil, List.length_cons] at ha hb
 ·rw [if_neg (by omega), if_neg (by omega)]; rfl
 ·rw [if_pos (by omega)]; rfl
 ·rw [if_neg (by omega), if_pos (by omega)]; rfl
 ·omega
section
variable {S T : Nat -> Prop} {w : World} {a b : Value} {la lb : List UInt8}
theorem run_bytesOf {P : Program} (h : Byts w S a la) : (Extern.Bytes.bytesOf a).run P w = .ok ⟨la.toArray⟩ w := by
 obtain ⟨A, c, rfl, _, _⟩ := h.form
 rcases hA : A with _ | ad
 ·subst hA
  have hn : la = [] := by
   rcases hl : la with _ | ⟨x, l⟩
   ·rfl
   ·obtain ⟨ad, e, _⟩ := h.cells (i := 0) (by rw [hl]; simp)
    cases e
  subst hn
  rfl
 ·subst hA
  have hc : ∀ j (x : Int), (la.map (λ u => (u.toNat : Int)))[j]? = some x -> w.cell? (ad.add j) = some (.int .u8 x) := λ j x hj => by
   rw [List.getElem?_map] at hj
   obtain ⟨u, hu, rfl⟩ := Option.map_eq_some_iff.1 hj
   obtain ⟨ad', e, _, hcc⟩ := h.cells (i := j) (List.getElem?_eq_some_iff.1 hu).1
   cases e
   exact hcc j u hu
  have := Lib.run_loadBytesX (P := P) w (la.map (λ u => (u.toNat : Int))) ad .empty hc
  rw [List.length_map] at this
  have he : Lib.bytesOf (la.map (λ u => (u.toNat : Int))) = la := by
   unfold Lib.bytesOf
   rw [List.map_map]
   conv => rhs; rw [<- List.map_id la]
   apply List.map_congr_left
   intro u _
   simp [Function.comp]
  rw [he] at this
  have h2 : (⟨ByteArray.empty.data ++ la.toArray⟩ : ByteArray) = ⟨la.toArray⟩ := by
   apply ByteArray.ext
   show (#[] : Array UInt8) ++ la.toArray = la.toArray
   simp
  rw [h2] at this
  exact this
theorem cmpP (h1 : Byts w S a la) (h2 : Byts w T b lb) : Calls Tryz.prog 98 #[a, b] w λ e w' => e = .returned (.int .i64 (cmp la lb)) /\ w' = w := by
 have hd : (callFunc 127 #[a, b]).run Tryz.prog w = .ok (.value (.int .i64 (cmp la lb))) w := by
  rw [run_callFunc_extern (fn := Tryz.f127) (e := Extern.BytealgCompare.compare) (by kernel_rfl) (by kernel_rfl) (by kernel_rfl) (by kernel_rfl) (by kernel_rfl)]
  change (Sem.run Tryz.prog (do pure (goInt (Extern.BytealgCompare.cmp (<- Extern.Bytes.bytesOf a) (<- Extern.Bytes.bytesOf b)))) w).andThen _ = _
  simp only [Sem.run_bind, run_bytesOf h1, run_bytesOf h2, Sem.run_pure, Result.andThen, Lib.cmp_eq]
  rfl
 clear h1 h2
 generalize hcv : cmp la lb = cv at hd ⊢
 go_enter Tryz.func98, Tryz.ntmps98
 go_wp2
 go_ret
 exact ⟨rfl, rfl⟩
theorem take_both {k : Nat} {la lb : List UInt8} {x : UInt8} (h : la.take k = lb.take k) (hx : la[k]? = some x) (hy : lb[k]? = some x) : la.take (k + 1) = lb.take (k + 1) := by
 rw [List.take_add_one, List.take_add_one, h, hx, hy]
set_option maxRecDepth 100000 in
theorem cmpR (h1 : Byts w S a la) (h2 : Byts w T b lb) : Calls Tryz.prog 102 #[a, b] w λ e w' => e = .returned (.int .i64 (cmp la lb)) /\ Keeps Nob w w' := by
 obtain ⟨A, c, rfl, hn1, hm1⟩ := h1.form
 obtain ⟨B, d, rfl, hn2, hm2⟩ := h2.form
 have hz1 : la.length <= 9223372036854775807 := Nat.le_trans hn1 hm1
 have hz2 : lb.length <= 9223372036854775807 := Nat.le_trans hn2 hm2
 have H1 := Hd h1
 have H2 := Hd h2
 clear h1 h2 hn1 hn2 hm1 hm2
 go_enter Tryz.func102, Tryz.ntmps102
 go_wp2
 go_loopw [5] (λ i wr => ∃ k : Nat, k <= la.length /\ k <= lb.length /\ i = .int .i64 k /\ la.take k = lb.take k /\ Keeps Nob w wr) (λ i _ => la.length - (intOf i).toNat)
 case atStart => exact ⟨0, Nat.zero_le _, Nat.zero_le _, rfl, rfl, Keeps.refl _ _⟩
 case round =>
  obtain ⟨k, hk1, hk2, rfl, htake, hK⟩ := hrel
  have HT := Hd htake
  have HK := Hd hK
  clear htake hK
  by_cases hlt : k < la.length
  ·by_cases hlt2 : k < lb.length
   ·obtain ⟨x, hx⟩ : ∃ x, la[k]? = some x := ⟨_, List.getElem?_eq_getElem hlt⟩
    obtain ⟨y, hy⟩ : ∃ y, lb[k]? = some y := ⟨_, List.getElem?_eq_getElem hlt2⟩
    obtain ⟨ad, rfl, _, hca⟩ := H1.out.cells hlt
    obtain ⟨bd, rfl, _, hcb⟩ := H2.out.cells hlt2
    have hx' : wr.cell? (ad.add k) = some (.int .u8 (x.toNat : Int)) := HK.out.cell (hca k x hx) id
    have hy' : wr.cell? (bd.add k) = some (.int .u8 (y.toNat : Int)) := HK.out.cell (hcb k y hy) id
    have HX := Hd hx
    have HY := Hd hy
    clear hca hcb hx hy
    have b0 : (0 : Int) <= (k : Int) := by omega
    have b1 : (k : Int) < (la.length : Int) := by omega
    have b2 : (k : Int) < (lb.length : Int) := by omega
    by_cases hxy : x.toNat < y.toNat
    ·have t1 : decide ((x.toNat : Int) < (y.toNat : Int)) = true := by simpa using hxy
     go_wp2
     go_quiet (fail)
     go_wp2
     go_ret
     have hne : x ≠ y := λ e => by subst e; omega
     refine ⟨?_, HK.out.drewN' _⟩
     rw [cmp_at HT.out HX.out HY.out hne, if_pos (UInt8.lt_iff_toNat_lt.2 hxy)]; rfl
    ·have t1 : decide ((x.toNat : Int) < (y.toNat : Int)) = false := by simpa using hxy
     have b3 : ¬ (x.toNat : Int) < (y.toNat : Int) := by omega
     by_cases hyx : y.toNat < x.toNat
     ·have t2 : decide ((y.toNat : Int) < (x.toNat : Int)) = true := by simpa using hyx
      go_wp2
      go_quiet (fail)
      go_wp2
      have hx2 : (wr.drewN nq).cell? (ad.add k) = some (.int .u8 (x.toNat : Int)) := hx'
      have hy2 : (wr.drewN nq).cell? (bd.add k) = some (.int .u8 (y.toNat : Int)) := hy'
      generalize hq : wr.drewN nq = wq at hx2 hy2 ⊢
      have HQ := Hd hq
      clear hq
      go_quiet (fail)
      go_wp2
      go_ret
      have hne : x ≠ y := λ e => by subst e; omega
      refine ⟨?_, ?_⟩
      ·rw [cmp_at HT.out HX.out HY.out hne, if_neg (λ h => hxy (UInt8.lt_iff_toNat_lt.1 h))]; rfl
      ·rw [<- HQ.out]; exact (HK.out.drewN' _).drewN' _
     ·have t2 : decide ((y.toNat : Int) < (x.toNat : Int)) = false := by simpa using hyx
      have b4 : ¬ (y.toNat : Int) < (x.toNat : Int) := by omega
      go_wp2
      go_quiet (fail)
      go_wp2
      have hx2 : (wr.drewN nq).cell? (ad.add k) = some (.int .u8 (x.toNat : Int)) := hx'
      have hy2 : (wr.drewN nq).cell? (bd.add k) = some (.int .u8 (y.toNat : Int)) := hy'
      generalize hq : wr.drewN nq = wq at hx2 hy2 ⊢
      have HQ := Hd hq
      clear hq
      go_quiet (fail)
      go_wp2
      go_roundw
      case rel =>
       have hxy2 : x = y := UInt8.toNat_inj.1 (by omega)
       have := HX.out
       rw [hxy2] at this
       exact ⟨k + 1, by omega, by omega, by go_num, take_both HT.out this HY.out, by rw [<- HQ.out]; exact (HK.out.drewN' _).drewN' _⟩
      case measure => simp [intOf]; omega
   ·have hkb : k = lb.length := by omega
    have t1 : decide ((k : Int) < (lb.length : Int)) = false := by simp; omega
    have hce := cmp_end HT.out (.inr hkb)
    rw [if_neg (by omega), if_pos (by omega)] at hce
    subst hkb
    have HCE := Hd hce
    clear hce
    go_wp2
    go_ret
    exact ⟨by rw [HCE.out]; rfl, HK.out⟩
  ·have hka : k = la.length := by omega
   have hce := cmp_end HT.out (.inl hka)
   subst hka
   by_cases hll : la.length < lb.length
   ·rw [if_pos hll] at hce
    have HCE := Hd hce
    clear hce
    go_wp2
    go_ret
    exact ⟨by rw [HCE.out]; rfl, HK.out⟩
   ·have hle : la.length = lb.length := by omega
    rw [if_neg (by omega), if_neg (by omega)] at hce
    have HCE := Hd hce
    clear hce
    go_wp2
    go_ret
    exact ⟨by rw [HCE.out]; rfl, HK.out⟩
end
end Go.Proofs.YtbhohohgojcapaaGreat
namespace Go.Proofs.YtbhohohgojcapaaGreat
open Go.RowKit
def beyond (high key : List UInt8) : Bool := decide (0 < high.length) && decide (0 <= cmp key high)
def upto (l : List (List UInt8)) (k : List UInt8) : Nat := l.countP (λ x => decide (cmp x k <= 0))
theorem upto_le (l k) : upto l k <= l.length := List.countP_le_length
theorem upto_take (l : List (List UInt8)) (k : List UInt8) (n : Nat) : upto (l.take n) k <= n := Nat.le_trans (upto_le _ _) (List.length_take_le _ _)
theorem upto_succ {l : List (List UInt8)} {k x : List UInt8} {n : Nat} (h : l[n]? = some x) : upto (l.take (n + 1)) k = upto (l.take n) k + if cmp x k <= 0 then 1 else 0 := by
 rw [List.take_add_one, h]
 unfold upto
 rw [List.countP_append]
 simp [List.countP_cons]
def childOf (kids : List Int) (keys : List (List UInt8)) (key : List UInt8) : Int := kids.getD (min (upto keys key) (kids.length - 1)) 0
section
variable {S T U : Nat -> Prop} {w : World} {c0 c1 c2 c3 c4 c5 b : Value} {high key : List UInt8} {ls : List (List UInt8)} {kids : List Int}
set_option maxRecDepth 100000 in
theorem beyondP (h1 : Byts w S c1 high) (h2 : Byts w T b key) : Calls Tryz.prog 145 #[.agg #[c0, c1, c2, c3, c4, c5], b] w λ e w' => e = .returned (.bool (beyond high key)) /\ Keeps Nob w w' := by
 obtain ⟨A, c, rfl, hn1, hm1⟩ := h1.form
 have HC : Hid (∀ o, Calls Tryz.prog 98 #[b, .slice A high.length c] (w.alloc o) λ e w' => e = .returned (.int .i64 (cmp key high)) /\ w' = w.alloc o) := λ o => cmpP (h2.keeps (Keeps.alloc Nob w o) (λ _ _ _ => id)) (h1.keeps (Keeps.alloc Nob w o) (λ _ _ _ => id))
 unfold beyond
 clear h1 h2 hn1 hm1
 by_cases hz : 0 < high.length
 ·rcases cmp_cases key high with hc | hc | hc
  all_goals
   have HCM := Hd hc
   rw [hc]
   clear hc
   go_enter Tryz.func145, Tryz.ntmps145
   go_wp2_with (go_at_call 98; refine (HC.out _).mono ?_; rintro e w1 ⟨rfl, rfl⟩; rw [HCM.out])
   go_ret
   exact ⟨by simp [hz], Keeps.alloc _ _ _⟩
 ·go_enter Tryz.func145, Tryz.ntmps145
  go_wp2
  go_ret
  exact ⟨by simp [hz], Keeps.alloc _ _ _⟩
set_option maxRecDepth 100000 in
theorem childP (h1 : Txts w S c3 ls) (h3 : Ints w U c5 kids) (h2 : Byts w T b key) : Calls Tryz.prog 152 #[.agg #[c0, c1, c2, c3, c4, c5], b] w λ e w' => e = .returned (.int .i64 (childOf kids ls key)) /\ Keeps Nob w w' := by
 obtain ⟨A, c, rfl, hn1, hm1⟩ := h1.form
 obtain ⟨B, d, rfl, hn3, hm3⟩ := h3.form
 have hz1 : ls.length <= 9223372036854775807 := Nat.le_trans hn1 hm1
 have hz3 : kids.length <= 9223372036854775807 := Nat.le_trans hn3 hm3
 have H1 := Hd h1
 have H2 := Hd h2
 have H3 := Hd h3
 clear h1 h2 h3 hn1 hm1 hn3 hm3
 go_enter Tryz.func152, Tryz.ntmps152
 go_wp2
 go_loopw [5, 12] (λ b i wr => ∃ k : Nat, k <= ls.length /\ i = .int .i64 k /\ b = .int .i64 (upto (ls.take k) key) /\ Blk wr w.heap.size 35 #[c0, c1, c2, .slice A ls.length c, c4, .slice B kids.length d] /\ Keeps Nob w wr) (λ _ i _ => ls.length - (intOf i).toNat)
 case atStart => exact ⟨0, Nat.zero_le _, rfl, rfl, Blk.new _ _ _, Keeps.alloc _ _ _⟩
 case round =>
  obtain ⟨k, hk, rfl, rfl, hB, hK⟩ := hrel
  have HK := Hd hK
  have HBK := Hd hB
  have q := hB.cell 5
  clear hK hB
  have hbl := upto_take ls key k
  by_cases hlt : k < ls.length
  ·obtain ⟨x, hx⟩ : ∃ x, ls[k]? = some x := ⟨_, List.getElem?_eq_getElem hlt⟩
   obtain ⟨ad, rfl, _, hc⟩ := H1.out.cells hlt
   obtain ⟨u, hu, hbu⟩ := hc k x hx
   have hu' : wr.cell? (ad.add k) = some u := HK.out.cell hu id
   have HX := Hd hx
   have HB := Hd (upto_succ (k := key) hx)
   have HC := Hd (cmpP (hbu.keeps HK.out (λ _ _ _ => id)) (H2.out.keeps HK.out (λ _ _ _ => id)))
   clear hc hu hbu hx
   generalize upto (ls.take k) key = bl at hbl HB ⊢
   rcases cmp_cases x key with hcm | hcm | hcm
   all_goals
    have HCM := Hd hcm
    clear hcm
    go_wp2_with (go_at_call 98; refine HC.out.mono ?_; rintro e w1 ⟨rfl, rfl⟩; rw [HCM.out])
    go_roundw
    case rel =>
     refine ⟨k + 1, by omega, by go_num, ?_, HBK.out, HK.out⟩
     rw [HB.out, HCM.out]; simp
    case measure => simp [intOf]; omega
  ·have hkk : k = ls.length := by omega
   subst hkk
   rw [List.take_of_length_le (Nat.le_refl _)] at hbl ⊢
   generalize hup : upto ls key = m at hbl ⊢
   have HUP := Hd hup
   clear hup
   by_cases hz : kids.length = 0
   ·have hz' : kids = [] := List.eq_nil_of_length_eq_zero hz
    subst hz'
    go_wp2
    go_ret
    refine ⟨?_, HK.out⟩
    unfold childOf; simp
   ·obtain ⟨bd, rfl, _, hc⟩ := H3.out.cells (i := 0) (by omega)
    have hil : min m (kids.length - 1) < kids.length := by omega
    have hcc : wr.cell? (bd.add (min m (kids.length - 1))) = some (.int .i64 (childOf kids ls key)) := by
     refine HK.out.cell ?_ id
     rw [hc _ _ (List.getElem?_eq_getElem hil)]
     unfold childOf
     rw [HUP.out, List.getD_eq_getElem?_getD, List.getElem?_eq_getElem hil]
     rfl
    clear hc
    generalize hr : childOf kids ls key = r at hcc
    have HR := Hd hr
    clear hr
    by_cases hle : (kids.length : Int) - 1 < (m : Int)
    ·rw [show min m (kids.length - 1) = kids.length - 1 by omega] at hcc hil
     have t1 : ¬ (m : Int) <= (kids.length : Int) - 1 := by omega
     have t2 : ¬ (m : Int) < (kids.length : Int) - 1 := by omega
     go_wp2
     go_ret
     exact ⟨by rw [HR.out]; rfl, HK.out⟩
    ·rw [show min m (kids.length - 1) = m by omega] at hcc hil
     have t1 : (m : Int) <= (kids.length : Int) - 1 := by omega
     go_wp2
     go_ret
     exact ⟨by rw [HR.out]; rfl, HK.out⟩
end
end Go.Proofs.YtbhohohgojcapaaGreat
namespace Go.Proofs.YtbhohohgojcapaaGreat
open Go.RowKit
theorem run_str {w : World} {S : Nat -> Prop} {v : Value} {l : List UInt8} (h : Byts w S v l) : (convert 23 9 v).run Tryz.prog w = .ok (.string ⟨l.toArray⟩) w := by
 obtain ⟨A, c, rfl, _, _⟩ := h.form
 rcases hA : A with _ | ad
 ·subst hA
  have hn : l = [] := by
   rcases hl : l with _ | ⟨x, l'⟩
   ·rfl
   ·obtain ⟨ad, e, _⟩ := h.cells (i := 0) (by rw [hl]; simp)
    cases e
  subst hn
  exact run_convert_bytes_nil w 23 5 Tryz.underlying23 Tryz.underlying5 _ _ 9 Tryz.underlying9
 ·subst hA
  refine run_convert_bytes_back w 23 9 5 ad c l Tryz.underlying23 Tryz.underlying5 Tryz.underlying9 (λ j hj => ?_)
  obtain ⟨ad', e, _, hc⟩ := h.cells hj
  cases e
  exact hc j _ (List.getElem?_eq_getElem hj)
theorem strN {w : World} {S : Nat -> Prop} {v : Value} {l : List UInt8} (h : Byts w S v l) : ∃ s : ByteArray, s.toList = l /\ ∀ n, (convert 23 9 v).run Tryz.prog (w.drewN n) = .ok (.string s) (w.drewN n) :=
 ⟨_, ByteArray.toList_mk l, λ n => run_str (h.keeps (Keeps.drewN Nob w n) (λ _ _ _ => id))⟩
section
variable {S T : Nat -> Prop} {w : World} {a b : Value} {la lb : List (List UInt8)}
theorem take_bothT {α : Type} {k : Nat} {la lb : List α} {x : α} (h : la.take k = lb.take k) (hx : la[k]? = some x) (hy : lb[k]? = some x) : la.take (k + 1) = lb.take (k + 1) := by
 rw [List.take_add_one, List.take_add_one, h, hx, hy]
set_option maxRecDepth 100000 in
theorem sameT (h1 : Txts w S a la) (h2 : Txts w T b lb) : Calls Tryz.prog 132 #[a, b] w λ e w' => e = .returned (.bool (decide (la = lb))) /\ Keeps Nob w w' := by
 obtain ⟨A, c, rfl, hn1, hm1⟩ := h1.form
 obtain ⟨B, d, rfl, hn2, hm2⟩ := h2.form
 have hz1 : la.length <= 9223372036854775807 := Nat.le_trans hn1 hm1
 have hz2 : lb.length <= 9223372036854775807 := Nat.le_trans hn2 hm2
 have H1 := Hd h1
 have H2 := Hd h2
 clear h1 h2 hn1 hn2 hm1 hm2
 by_cases hll : la.length = lb.length
 ·rw [<- hll]
  rw [<- hll] at hz2
  have HLL := Hd hll
  clear hll
  go_enter Tryz.func132, Tryz.ntmps132
  go_wp2
  go_loopw [5] (λ i wr => ∃ k : Nat, k <= la.length /\ i = .int .i64 k /\ la.take k = lb.take k /\ Keeps Nob w wr) (λ i _ => la.length - (intOf i).toNat)
  case atStart => exact ⟨0, Nat.zero_le _, rfl, rfl, Keeps.refl _ _⟩
  case round =>
   obtain ⟨k, hk1, rfl, htake, hK⟩ := hrel
   have HT := Hd htake
   have HK := Hd hK
   clear htake hK
   by_cases hlt : k < la.length
   ·have hlt2 : k < lb.length := by have := HLL.out; omega
    obtain ⟨x, hx⟩ : ∃ x, la[k]? = some x := ⟨_, List.getElem?_eq_getElem hlt⟩
    obtain ⟨y, hy⟩ : ∃ y, lb[k]? = some y := ⟨_, List.getElem?_eq_getElem hlt2⟩
    obtain ⟨ad, rfl, _, hca⟩ := H1.out.cells hlt
    obtain ⟨bd, rfl, _, hcb⟩ := H2.out.cells hlt2
    obtain ⟨u, hu, hbu⟩ := hca k x hx
    obtain ⟨v, hv, hbv⟩ := hcb k y hy
    have hu' : wr.cell? (ad.add k) = some u := HK.out.cell hu id
    have hv' : wr.cell? (bd.add k) = some v := HK.out.cell hv id
    obtain ⟨sx, e1, s1⟩ := strN (hbu.keeps HK.out (λ _ _ _ => id))
    obtain ⟨sy, e2, s2⟩ := strN (hbv.keeps HK.out (λ _ _ _ => id))
    have HX := Hd hx
    have HY := Hd hy
    clear hca hcb hu hv hbu hbv hx hy hlt2
    by_cases hxy : x = y
    ·subst hxy
     go_wp2
     go_quiet (fail)
     go_wp2
     go_roundw
     case rel => exact ⟨k + 1, by omega, by go_num, take_bothT HT.out HX.out HY.out, HK.out.drewN' _⟩
     case measure => simp [intOf]; omega
    ·have hne : (x == y) = false := by simp [hxy]
     go_wp2
     go_quiet (fail)
     go_wp2
     go_ret
     refine ⟨?_, HK.out.drewN' _⟩
     have : ¬ la = lb := λ e => by
      subst e
      have := HX.out.symm.trans HY.out
      injection this with this
      exact hxy this
     rw [decide_eq_false this]; rfl
   ·have hkk : k = la.length := by omega
    subst hkk
    go_wp2
    go_ret
    refine ⟨?_, HK.out⟩
    have h := HT.out
    rw [List.take_length, HLL.out, List.take_length] at h
    rw [decide_eq_true h]; rfl
 ·have hne : (la.length : Int) ≠ (lb.length : Int) := by omega
  have HLL := Hd hll
  clear hll
  go_enter Tryz.func132, Tryz.ntmps132
  go_wp2
  go_ret
  refine ⟨?_, Keeps.refl _ _⟩
  rw [decide_eq_false (λ e => HLL.out (by rw [e]))]; rfl
end
def sameHd (n m : Nd) : Bool := (n.lvl == m.lvl) && ((n.high == m.high) && (n.right == m.right))
def sameBd (n m : Nd) : Bool := decide (n.keys = m.keys) && (decide (n.vals = m.vals) && (n.kids == m.kids))
section
variable {S T : Nat -> Prop} {w : World} {a0 a1 a2 a3 a4 a5 b0 b1 b2 b3 b4 b5 : Value} {n m : Nd}
set_option maxRecDepth 100000 in
theorem sameH (h1 : IsHd w S a0 a1 a2 n) (h2 : IsHd w T b0 b1 b2 m) : Calls Tryz.prog 107 #[.agg #[a0, a1, a2], .agg #[b0, b1, b2]] w λ e w' => e = .returned (.bool (sameHd n m)) /\ Keeps Nob w w' := by
 have e0 := h1.lvl
 have e1 := h1.right
 have e2 := h2.lvl
 have e3 := h2.right
 subst e0 e1 e2 e3
 have s1 : ∃ s : ByteArray, s.toList = n.high /\ ∀ o o', (convert 23 9 a1).run Tryz.prog ((w.alloc o).alloc o') = .ok (.string s) ((w.alloc o).alloc o') := ⟨_, ByteArray.toList_mk _, λ o o' => run_str ((h1.high.keeps (Keeps.alloc Nob _ o) (λ _ _ _ => id)).keeps (Keeps.alloc Nob _ o') (λ _ _ _ => id))⟩
 have s2 : ∃ s : ByteArray, s.toList = m.high /\ ∀ o o', (convert 23 9 b1).run Tryz.prog ((w.alloc o).alloc o') = .ok (.string s) ((w.alloc o).alloc o') := ⟨_, ByteArray.toList_mk _, λ o o' => run_str ((h2.high.keeps (Keeps.alloc Nob _ o) (λ _ _ _ => id)).keeps (Keeps.alloc Nob _ o') (λ _ _ _ => id))⟩
 obtain ⟨sx, f1, s1⟩ := s1
 obtain ⟨sy, f2, s2⟩ := s2
 obtain ⟨A, c, rfl, _, _⟩ := h1.high.form
 obtain ⟨B, d, rfl, _, _⟩ := h2.high.form
 unfold sameHd iV
 clear h1 h2
 generalize n.lvl = x0 at *
 generalize m.lvl = y0 at *
 generalize n.right = x2 at *
 generalize m.right = y2 at *
 generalize n.high = x1 at *
 generalize m.high = y1 at *
 cases g0 : (x0 == y0) <;> cases g1 : (x1 == y1) <;> cases g2 : (x2 == y2)
 all_goals
  go_enter Tryz.func107, Tryz.ntmps107
  go_wp2
  go_ret
  exact ⟨rfl, (Keeps.alloc _ w _).alloc' _⟩
set_option maxRecDepth 100000 in
theorem sameB (h1 : IsBd w S a3 a4 a5 n) (h2 : IsBd w T b3 b4 b5 m) : Calls Tryz.prog 108 #[.agg #[a3, a4, a5], .agg #[b3, b4, b5]] w λ e w' => e = .returned (.bool (sameBd n m)) /\ Keeps Nob w w' := by
 obtain ⟨A3, c3, rfl, _, _⟩ := h1.keys.form
 obtain ⟨A4, c4, rfl, _, _⟩ := h1.vals.form
 obtain ⟨A5, c5, rfl, hn1, hm1⟩ := h1.kids.form
 obtain ⟨B3, d3, rfl, _, _⟩ := h2.keys.form
 obtain ⟨B4, d4, rfl, _, _⟩ := h2.vals.form
 obtain ⟨B5, d5, rfl, hn2, hm2⟩ := h2.kids.form
 have hz1 : n.kids.length <= 9223372036854775807 := Nat.le_trans hn1 hm1
 have hz2 : m.kids.length <= 9223372036854775807 := Nat.le_trans hn2 hm2
 have H1 := Hd h1
 have H2 := Hd h2
 unfold sameBd
 clear h1 h2 hn1 hm1 hn2 hm2
 generalize hk : decide (n.keys = m.keys) = bk
 generalize hv : decide (n.vals = m.vals) = bv
 generalize hi : (n.kids == m.kids) = bi
 have HK := Hd hk
 have HV := Hd hv
 have HI := Hd hi
 clear hk hv hi
 go_enter Tryz.func108, Tryz.ntmps108
 go_wp2_with fail
 refine calls_at (λ wa hwa => ?_)
 have BA : Blk wa w.heap.size 33 #[.slice A3 n.keys.length c3, .slice A4 n.vals.length c4, .slice A5 n.kids.length c5] := by rw [hwa]; exact (Blk.new _ _ _).alloc _
 have BB : Blk wa (w.heap.size + 1) 33 #[.slice B3 m.keys.length d3, .slice B4 m.vals.length d4, .slice B5 m.kids.length d5] := by rw [hwa]; exact Blk.new' (by simp) _ _
 have hka : Keeps Nob w wa := by rw [hwa]; exact (Keeps.alloc _ w _).alloc' _
 clear hwa
 refine (sameT (H1.out.keys.keeps hka (λ _ _ _ => id)) (H2.out.keys.keeps hka (λ _ _ _ => id))).mono ?_
 rintro e w1 ⟨rfl, hK⟩
 rw [HK.out]
 have BA1 := Hd (BA.keeps hK id)
 have BB1 := Hd (BB.keeps hK id)
 have K1 := Hd (hka.trans hK (λ _ _ h => h))
 clear BA BB hka hK
 have q1 := BA1.out.cell 1
 have q2 := BB1.out.cell 1
 go_wp2_with fail
 clear q1 q2
 refine (sameT (H1.out.vals.keeps K1.out (λ _ _ _ => id)) (H2.out.vals.keeps K1.out (λ _ _ _ => id))).mono ?_
 rintro e w2 ⟨rfl, hK⟩
 rw [HV.out]
 have BA2 := Hd (BA1.out.keeps hK id)
 have BB2 := Hd (BB1.out.keeps hK id)
 have K2 := Hd (K1.out.trans hK (λ _ _ h => h))
 clear hK BA1 BB1 K1
 have q1 := BA2.out.cell 2
 have q2 := BB2.out.cell 2
 cases bk
 ·go_wp2
  go_ret
  exact ⟨rfl, K2.out⟩
 cases bv
 ·go_wp2
  go_ret
  exact ⟨rfl, K2.out⟩
 by_cases hll : n.kids.length = m.kids.length
 ·rw [<- hll] at q2
  have HLL := Hd hll
  rw [<- hll] at BB2
  clear hll
  go_wp2
  clear q1 q2
  go_loopw [7] (λ i wr => ∃ k : Nat, k <= n.kids.length /\ i = .int .i64 k /\ n.kids.take k = m.kids.take k /\ Keeps Nob w2 wr) (λ i _ => n.kids.length - (intOf i).toNat)
  case atStart => exact ⟨0, Nat.zero_le _, rfl, rfl, Keeps.refl _ _⟩
  case round =>
   obtain ⟨k, hk1, rfl, htake, hK⟩ := hrel
   have HT := Hd htake
   have HKK := Hd hK
   have q1 := (BA2.out.keeps hK id).cell 2
   have q2 := (BB2.out.keeps hK id).cell 2
   clear htake hK
   by_cases hlt : k < n.kids.length
   ·have hlt2 : k < m.kids.length := by have := HLL.out; omega
    obtain ⟨x, hx⟩ : ∃ x, n.kids[k]? = some x := ⟨_, List.getElem?_eq_getElem hlt⟩
    obtain ⟨y, hy⟩ : ∃ y, m.kids[k]? = some y := ⟨_, List.getElem?_eq_getElem hlt2⟩
    obtain ⟨ad, rfl, _, hca⟩ := H1.out.kids.cells hlt
    obtain ⟨bd, rfl, _, hcb⟩ := H2.out.kids.cells hlt2
    have hu' : wr.cell? (ad.add k) = some (.int .i64 x) := HKK.out.cell (K2.out.cell (hca k x hx) id) id
    have hv' : wr.cell? (bd.add k) = some (.int .i64 y) := HKK.out.cell (K2.out.cell (hcb k y hy) id) id
    have HX := Hd hx
    have HY := Hd hy
    clear hca hcb hx hy hlt2
    by_cases hxy : x = y
    ·subst hxy
     go_wp2
     go_quiet (fail)
     go_wp2
     go_roundw
     case rel => exact ⟨k + 1, by omega, by go_num, take_bothT HT.out HX.out HY.out, HKK.out.drewN' _⟩
     case measure => simp [intOf]; omega
    ·have hne : (x != y) = true := by simp [hxy]
     go_wp2
     go_quiet (fail)
     go_wp2
     go_ret
     refine ⟨?_, K2.out.trans (HKK.out.drewN' _) (λ _ _ h => h)⟩
     rw [<- HI.out]
     have : ¬ n.kids = m.kids := λ e => by
      have h1 := HX.out
      rw [e] at h1
      have := h1.symm.trans HY.out
      injection this with this
      exact hxy this
     have : (n.kids == m.kids) = false := by simp [this]
     rw [this]; rfl
   ·have hkk : k = n.kids.length := by omega
    subst hkk
    go_wp2
    go_ret
    refine ⟨?_, K2.out.trans HKK.out (λ _ _ h => h)⟩
    have h := HT.out
    rw [List.take_length, HLL.out, List.take_length] at h
    rw [<- HI.out, h]
    simp
 ·have hne : (n.kids.length : Int) ≠ (m.kids.length : Int) := by omega
  have hbi : bi = false := by
   rw [<- HI.out]
   have : ¬ n.kids = m.kids := λ e => hll (by rw [e])
   simp [this]
  subst hbi
  clear hll
  go_wp2
  go_ret
  exact ⟨rfl, K2.out⟩
end
end Go.Proofs.YtbhohohgojcapaaGreat

import Derived.Test.YtbhohohgojcapaaGreatPkD9
import Derived.Test.YtbhohohgojcapaaGreatPkA8
import Derived.Test.YtbhohohgojcapaaGreatPkD7
namespace Go.Proofs.YtbhohohgojcapaaGreat
open Go.RowKit
theorem value_at {l : List En} {key : List UInt8} {j : Nat} {x : En} (h : l[j]? = some x) (hx : x.k = key) (hno : ∀ (i : Nat) y, i < j -> l[i]? = some y -> y.k ≠ key) : valueM (l.map En.e) key = (x.v, true) := by
 have : (l.map En.e).find? (λ e => e.1 == key) = some (x.k, x.v) := by
  induction l generalizing j with
  | nil => simp at h
  | cons y l ih =>
   cases j with
   | zero =>
    simp at h; subst h
    rw [List.map_cons, List.find?_cons]
    simp [En.e, hx]
   | succ j =>
    have h1 : (y.k == key) = false := by simpa using hno 0 y (by omega) rfl
    rw [List.map_cons, List.find?_cons]
    simp only [En.e, h1]
    exact ih (by simpa using h) (λ i z hi hz => hno (i + 1) z (by omega) (by simpa using hz))
 unfold valueM
 rw [this]
theorem value_no {l : List En} {key : List UInt8} (hno : ∀ (i : Nat) y, l[i]? = some y -> y.k ≠ key) : valueM (l.map En.e) key = ([], false) := by
 have : (l.map En.e).find? (λ e => e.1 == key) = none := by
  rw [List.find?_eq_none]
  intro e he h
  obtain ⟨y, hy, rfl⟩ := List.mem_map.1 he
  obtain ⟨i, hi⟩ := List.mem_iff_getElem?.1 hy
  exact hno i y hi (by simpa [En.e] using h)
 unfold valueM
 rw [this]
section
variable {w : World} {S T : Nat -> Prop} {v kv : Value} {key : List UInt8}
set_option maxRecDepth 100000 in
set_option maxHeartbeats 3200000 in
theorem mapValueR {R : List Ent} (h : MapAt w S v R) (hk : Byts w T kv key) : Calls Tryz.prog 18 #[v, kv] w λ e w' => ∃ vv, e = .returned (.tuple #[vv, .bool (valueM R key).2]) /\ Byts w' S vv (valueM R key).1 /\ Keeps Nob w w' := by
 obtain ⟨l, ho, htx, rfl⟩ := h
 obtain ⟨KA, kc, ek, _, _⟩ := hk.form
 subst ek
 obtain ⟨oA, oc, eo⟩ := ho.form
 subst eo
 obtain ⟨hd1, hd2, hf⟩ := ho.at_
 have hzl : l.length <= 9223372036854775807 := Nat.le_trans hd1 hd2
 have HTX := Hd_ htx
 have HK := Hd_ hk
 have HF := Hd_ hf
 have HD1 := Hd_ hd1
 clear ho htx hk hf hd1 hd2
 go_enter Tryz.func18, Tryz.ntmps18
 go_wp2
 go_loopw [6] (λ i wr => ∃ k : Nat, k <= l.length /\ i = .int .i64 k /\ (∀ (j : Nat) y, j < k -> l[j]? = some y -> y.k ≠ key) /\ Keeps Nob w wr) (λ i _ => l.length - (intOf i).toNat)
 case atStart => exact ⟨0, Nat.zero_le _, rfl, λ j y hj => by omega, Keeps.refl _ _⟩
 obtain ⟨k, hk, rfl, hno, hkr⟩ := hrel
 have HNO := Hd_ hno
 have K := Hd_ hkr
 clear hno hkr
 rcases Nat.lt_or_ge k l.length with hlt | hlt
 ·obtain ⟨x, hx⟩ : ∃ x, l[k]? = some x := ⟨_, List.getElem?_eq_getElem hlt⟩
  obtain ⟨p0, p1⟩ := enCells_at hx
  have hb := (HTX.out x (List.mem_of_getElem? hx))
  rcases HF.out with ⟨_, h0⟩ | ⟨gb, o5, cur, rfl, _, hbl, _, hcc⟩
  ·exact absurd HD1.out (by omega)
  obtain ⟨XA, xc, ex, _, _⟩ := hb.1.form
  obtain ⟨VA, vc, ev, _, _⟩ := hb.2.form
  have r0 : wr.cell? ⟨gb, o5 + k * 2, none⟩ = some (.slice XA x.k.length xc) := K.out.cell (by rw [hbl.cell, <- ex]; exact hcc _ _ p0) id
  have r1 : wr.cell? ⟨gb, o5 + k * 2 + 1, none⟩ = some (.slice VA x.v.length vc) := K.out.cell (by rw [hbl.cell, <- ev]; exact hcc _ _ p1) id
  rw [ex, ev] at hb
  obtain ⟨sx, e1, s1⟩ := strN (hb.1.keeps K.out (λ _ _ _ h => h))
  obtain ⟨sy, e2, s2⟩ := strN (HK.out.keeps K.out (λ _ _ _ h => h))
  have HX := Hd_ hx
  have HB := Hd_ hb
  have r1d : ∀ n, (wr.drewN n).cell? ⟨gb, o5 + k * 2 + 1, none⟩ = some (.slice VA x.v.length vc) := λ n => (Keeps.drewN Nob wr n).cell r1 id
  clear hx hb p0 p1 hbl hcc ex ev
  by_cases hxy : x.k = key
  ·have hq : (x.k == key) = true := by simpa using hxy
   have HXY := Hd_ hxy
   clear hxy
   go_wp2
   go_quiet (fail)
   go_wp2
   have hv := value_at HX.out HXY.out HNO.out
   refine bodyPost_ret (v := .tuple #[.slice VA x.v.length vc, .bool true]) (by simp [results, Tryz.results18, go_sem]) rfl ?_
   rw [hv]
   exact ⟨_, rfl, HB.out.2.keeps (K.out.drewN' _) (λ _ _ _ h => h), K.out.drewN' _⟩
  ·have hne : (x.k == key) = false := by simpa using hxy
   have HN2 : Hid (∀ (j : Nat) y, j < k + 1 -> l[j]? = some y -> y.k ≠ key) := λ j y hj hy => by
    rcases Nat.lt_or_ge j k with h | h
    ·exact HNO.out j y h hy
    ·obtain rfl : j = k := by omega
     rw [HX.out] at hy; cases hy; exact hxy
   clear hxy
   go_wp2
   go_quiet (fail)
   go_wp2
   go_roundw
   case rel => exact ⟨k + 1, by omega, by go_num, HN2.out, K.out.drewN' _⟩
   case measure => simp [intOf]; omega
 obtain rfl : k = l.length := by omega
 have hv := value_no (l := l) (key := key) (λ i y hy => HNO.out i y (List.getElem?_eq_some_iff.1 hy).1 hy)
 go_wp2
 refine bodyPost_ret (v := .tuple #[.slice none 0 0, .bool false]) (by simp [results, Tryz.results18, go_sem]) rfl ?_
 rw [hv]
 exact ⟨_, rfl, SlR.nil _ _ _ _ (by decide), K.out⟩
end
end Go.Proofs.YtbhohohgojcapaaGreat

namespace Go.Proofs.YtbhohohgojcapaaGreat
open Go.RowKit
def keysOf (A : Ar) (c : Ch) : Nat := (c.map (λ e => (opNd A e.1).keys.length)).sum
def nodesOf (ls : List Ch) : Nat := (ls.map List.length).sum
def checkOf (A : Ar) (ls : List Ch) (r : Rp) : Rp := if r.sound = false then r else ⟨true, 0, 0, ls.length, nodesOf ls, keysOf A (ls.getLastD [])⟩
def checkM (A : Ar) (a0 a1 a2 a3 a4 : Int) : Rp := checkOf A (levelsM A a0 a1 a2 a3 a4).1 (levelsM A a0 a1 a2 a3 a4).2
theorem checkM_sound (A : Ar) (a0 a1 a2 a3 a4 : Int) : (checkM A a0 a1 a2 a3 a4).sound = (levelsM A a0 a1 a2 a3 a4).2.sound := by
 unfold checkM checkOf
 split
 ·rename_i h; rw [h]
 ·rename_i h
  simp only [Bool.not_eq_false] at h
  rw [h]
theorem levelsFrom_rp (A : Ar) (chk : Nd -> Int) : ∀ (f : Nat) (level first : Int) (met : List Int) (out : List Ch), (levelsFrom A chk f level first met out).2.sound = true -> (levelsFrom A chk f level first met out).2 = .ok
 | 0, _, _, _, _, _ => rfl
 | f + 1, level, first, met, out, h => by
  unfold levelsFrom at h ⊢
  simp only at h ⊢
  split
  ·rename_i hc
   rw [if_pos hc] at h
   simp only at h
   rw [hc] at h; cases h
  ·rename_i hc
   rw [if_neg hc] at h
   split
   ·rename_i hk
    rw [if_pos hk] at h
    simp only at h
    rw [hk] at h; cases h
   ·rename_i hk
    rw [if_neg hk] at h
    split
    ·rfl
    ·rename_i hl
     rw [if_neg hl] at h
     exact levelsFrom_rp A chk f _ _ _ _ h
theorem levelsM_rp {A : Ar} {a0 a1 a2 a3 a4 : Int} (h : (levelsM A a0 a1 a2 a3 a4).2.sound = true) : (levelsM A a0 a1 a2 a3 a4).2 = .ok /\ confOk a0 a1 a2 a3 a4 = true := by
 unfold levelsM at h ⊢
 split
 ·rename_i hc
  rw [if_pos hc] at h; cases h
 rename_i hc
 rw [if_neg hc] at h
 refine ⟨?_, by simpa using hc⟩
 cases hh : heldFrom 1 A.sl with
 | cons x l => simp only [hh] at h; cases h
 | nil =>
  simp only [hh] at h ⊢
  cases hg : A.get A.root with
  | none => simp only [hg] at h; cases h
  | some s =>
   simp only [hg] at h ⊢
   exact levelsFrom_rp _ _ _ _ _ _ _ h
theorem nodesOf_flat (ls : List Ch) : nodesOf ls = ls.flatten.length := by
 unfold nodesOf
 rw [List.length_flatten]
theorem nodesOf_take {ls : List Ch} {k : Nat} {c : Ch} (h : ls[k]? = some c) : nodesOf (ls.take (k + 1)) = nodesOf (ls.take k) + c.length := by
 unfold nodesOf
 rw [List.take_add_one, h]
 simp
theorem nodesOf_le (ls : List Ch) (k : Nat) : nodesOf (ls.take k) <= nodesOf ls := by
 have : nodesOf ls = nodesOf (ls.take k) + nodesOf (ls.drop k) := by
  unfold nodesOf
  rw [<- List.sum_append, <- List.map_append, List.take_append_drop]
 omega
theorem keysOf_take {A : Ar} {c : Ch} {k : Nat} {e : Int × List UInt8} (h : c[k]? = some e) : keysOf A (c.take (k + 1)) = keysOf A (c.take k) + (opNd A e.1).keys.length := by
 unfold keysOf
 rw [List.take_add_one, h]
 simp
theorem keysOf_le {A : Ar} {n : Nat} : ∀ (c : Ch), (∀ e ∈ c, (opNd A e.1).keys.length <= n) -> keysOf A c <= n * c.length
 | [], _ => by simp [keysOf]
 | e :: c, h => by
  have h1 := h e (List.mem_cons_self ..)
  have h2 := keysOf_le c (λ x hx => h x (List.mem_cons_of_mem _ hx))
  have h3 : keysOf A (e :: c) = (opNd A e.1).keys.length + keysOf A c := by unfold keysOf; simp
  rw [h3, List.length_cons, Nat.mul_add]
  omega
theorem last_chain {A : Ar} {chk : Nd -> Int} {a0 a1 a2 lv : Int} {ls : List Ch} (h : TreeOk A a0 a1 a2 chk lv ls) : ∃ c, ls[ls.length - 1]? = some c /\ 0 < ls.length /\ ls.getLastD [] = c /\ (∀ e ∈ c, ∃ s, A.get e.1 = some s /\ (s.nd.keys.length : Int) <= a1) /\ c.length <= A.sl.length := by
 obtain ⟨c, h1, ⟨id, h2⟩, _⟩ := map_of h
 have hl := h.trs.length
 have h0 := h.lv0
 have hlt := (List.getElem?_eq_some_iff.1 h1).1
 have e : lv.toNat = ls.length - 1 := by omega
 rw [e] at h1
 refine ⟨c, h1, by omega, ?_, λ x hx => ?_, ?_⟩
 ·rw [List.getLastD_eq_getLast?, List.getLast?_eq_getElem?, h1]; rfl
 ·obtain ⟨c', g1, _, _⟩ := h2.mem hx
  obtain ⟨s, _, _, hs, hlv, hck, _⟩ := g1.at_
  exact ⟨s, hs, ((h.may _ hck).leaf hlv).2.1⟩
 ·have := h.len
  have h3 := (List.sublist_flatten_of_mem (List.mem_of_getElem? h1)).length_le
  omega
end Go.Proofs.YtbhohohgojcapaaGreat

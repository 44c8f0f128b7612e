import Derived.Test.YtbhohohgojcapaaGreatPkE5
import Derived.Test.YtbhohohgojcapaaGreatPkA8
import Derived.Test.YtbhohohgojcapaaGreatPkD4
import Derived.Test.YtbhohohgojcapaaGreatPkD3
import Derived.Test.YtbhohohgojcapaaGreatPkD0
import Derived.Test.YtbhohohgojcapaaGreatPkE4
set_option maxHeartbeats 64000000
namespace Go.Proofs.YtbhohohgojcapaaGreat
open Go.RowKit
theorem value_at {l : List En} {key : List UInt8} {j : Nat} {x : En} (h : l[j]? = some x) (hx : x.k = key) (hno : ∀ (i : Nat) y, i < j -> l[i]? = some y -> y.k ≠ key) : valueM (l.map En.e) key = (x.v, true) := by
 have : (l.map En.e).find? (λ e => e.1 == key) = some (x.k, x.v) := by
  induction l generalizing j with
  | nil => simp at h
  | cons y l ih =>
   cases j with
   | zero =>
    simp at h; subst h
    rw [List.map_cons, List.find?_cons]
    simp [En.e, hx]
   | succ j =>
    have h1 : (y.k == key) = false := by simpa using hno 0 y (by omega) rfl
    rw [List.map_cons, List.find?_cons]
    simp only [En.e, h1]
    exact ih (by simpa using h) (λ i z hi hz => hno (i + 1) z (by omega) (by simpa using hz))
 unfold valueM
 rw [this]
theorem value_no {l : List En} {key : List UInt8} (hno : ∀ (i : Nat) y, l[i]? = some y -> y.k ≠ key) : valueM (l.map En.e) key = ([], false) := by
 have : (l.map En.e).find? (λ e => e.1 == key) = none := by
  rw [List.find?_eq_none]
  intro e he h
  obtain ⟨y, hy, rfl⟩ := List.mem_map.1 he
  obtain ⟨i, hi⟩ := List.mem_iff_getElem?.1 hy
  exact hno i y hi (by simpa [En.e] using h)
 unfold valueM
 rw [this]
section
variable {w : World} {S T : Nat -> Prop} {v kv : Value} {key : List UInt8}
set_option maxRecDepth 100000 in
theorem mapValueR {R : List Ent} (h : MapAt w S v R) (hk : Byts w T kv key) : Calls Tryz.prog 18 #[v, kv] w λ e w' => ∃ vv, e = .returned (.tuple #[vv, .bool (valueM R key).2]) /\ Byts w' S vv (valueM R key).1 /\ Keeps Nob w w' := by
 obtain ⟨l, ho, htx, rfl⟩ := h
 obtain ⟨KA, kc, ek, _, _⟩ := hk.form
 subst ek
 obtain ⟨oA, oc, eo⟩ := ho.form
 subst eo
 obtain ⟨hd1, hd2, hf⟩ := ho.at_
 have hzl : l.length <= 9223372036854775807 := Nat.le_trans hd1 hd2
 have HTX := Hd htx
 have HK := Hd hk
 have HF := Hd hf
 have HD1 := Hd hd1
 clear ho htx hk hf hd1 hd2
 go_enter Tryz.func18, Tryz.ntmps18
 go_wp2
 go_loopw [6] (λ i wr => ∃ k : Nat, k <= l.length /\ i = .int .i64 k /\ (∀ (j : Nat) y, j < k -> l[j]? = some y -> y.k ≠ key) /\ Keeps Nob w wr) (λ i _ => l.length - (intOf i).toNat)
 case atStart => exact ⟨0, Nat.zero_le _, rfl, λ j y hj => by omega, Keeps.refl _ _⟩
 obtain ⟨k, hk, rfl, hno, hkr⟩ := hrel
 have HNO := Hd hno
 have K := Hd hkr
 clear hno hkr
 rcases Nat.lt_or_ge k l.length with hlt | hlt
 ·obtain ⟨x, hx⟩ : ∃ x, l[k]? = some x := ⟨_, List.getElem?_eq_getElem hlt⟩
  obtain ⟨p0, p1⟩ := enCells_at hx
  have hb := (HTX.out x (List.mem_of_getElem? hx))
  rcases HF.out with ⟨_, h0⟩ | ⟨gb, o5, cur, rfl, _, hbl, _, hcc⟩
  ·exact absurd HD1.out (by omega)
  obtain ⟨XA, xc, ex, _, _⟩ := hb.1.form
  obtain ⟨VA, vc, ev, _, _⟩ := hb.2.form
  have r0 : wr.cell? ⟨gb, o5 + k * 2, none⟩ = some (.slice XA x.k.length xc) := K.out.cell (by rw [hbl.cell, <- ex]; exact hcc _ _ p0) id
  have r1 : wr.cell? ⟨gb, o5 + k * 2 + 1, none⟩ = some (.slice VA x.v.length vc) := K.out.cell (by rw [hbl.cell, <- ev]; exact hcc _ _ p1) id
  rw [ex, ev] at hb
  obtain ⟨sx, e1, s1⟩ := strN (hb.1.keeps K.out (λ _ _ _ h => h))
  obtain ⟨sy, e2, s2⟩ := strN (HK.out.keeps K.out (λ _ _ _ h => h))
  have HX := Hd hx
  have HB := Hd hb
  have r1d : ∀ n, (wr.drewN n).cell? ⟨gb, o5 + k * 2 + 1, none⟩ = some (.slice VA x.v.length vc) := λ n => (Keeps.drewN Nob wr n).cell r1 id
  clear hx hb p0 p1 hbl hcc ex ev
  by_cases hxy : x.k = key
  ·have hq : (x.k == key) = true := by simpa using hxy
   have HXY := Hd hxy
   clear hxy
   go_wp2
   go_quiet (fail)
   go_wp2
   have hv := value_at HX.out HXY.out HNO.out
   refine bodyPost_ret (v := .tuple #[.slice VA x.v.length vc, .bool true]) (by simp [results, Tryz.results18, go_sem]) rfl ?_
   rw [hv]
   exact ⟨_, rfl, HB.out.2.keeps (K.out.drewN' _) (λ _ _ _ h => h), K.out.drewN' _⟩
  ·have hne : (x.k == key) = false := by simpa using hxy
   have HN2 : Hid (∀ (j : Nat) y, j < k + 1 -> l[j]? = some y -> y.k ≠ key) := λ j y hj hy => by
    rcases Nat.lt_or_ge j k with h | h
    ·exact HNO.out j y h hy
    ·obtain rfl : j = k := by omega
     rw [HX.out] at hy; cases hy; exact hxy
   clear hxy
   go_wp2
   go_quiet (fail)
   go_wp2
   go_roundw
   case rel => exact ⟨k + 1, by omega, by go_num, HN2.out, K.out.drewN' _⟩
   case measure => simp [intOf]; omega
 obtain rfl : k = l.length := by omega
 have hv := value_no (l := l) (key := key) (λ i y hy => HNO.out i y (List.getElem?_eq_some_iff.1 hy).1 hy)
 go_wp2
 refine bodyPost_ret (v := .tuple #[.slice none 0 0, .bool false]) (by simp [results, Tryz.results18, go_sem]) rfl ?_
 rw [hv]
 exact ⟨_, rfl, SlR.nil _ _ _ _ (by decide), K.out⟩
end
end Go.Proofs.YtbhohohgojcapaaGreat

namespace Go.Proofs.YtbhohohgojcapaaGreat
open Go.RowKit
section
variable {A : Ar} {chk : Nd -> Int} {a0 a1 a2 lv : Int} {ls : List Ch} {key : List UInt8}
theorem map_few (h : TreeOk A a0 a1 a2 chk lv ls) (ha : a1 <= 64) (hl : A.sl.length <= 65536) : (mapOf A).length <= 4000000000000 := by
 obtain ⟨c, h1, ⟨id, h2⟩, h3⟩ := map_of h
 rw [h3]
 have hlen : ∀ (n : Nat) (c : Ch), (∀ e ∈ c, (opNd A e.1).keys.length <= n) -> (entsCh A c).length <= n * c.length := λ n c => by
  induction c with
  | nil => intro _; simp [entsCh]
  | cons e c ih =>
   intro hh
   have g1 := hh e (List.mem_cons_self ..)
   have g2 := ih (λ x hx => hh x (List.mem_cons_of_mem _ hx))
   have g3 : (entsCh A (e :: c)).length = (ents (opNd A e.1)).length + (entsCh A c).length := by unfold entsCh; simp
   have g4 : ∀ (vals : List (List UInt8)) (i : Nat) (ks : List (List UInt8)), (entsM vals i ks).length = ks.length := λ vals i ks => by
    induction ks generalizing i with
    | nil => rfl
    | cons k ks ih => simp only [entsM, List.length_cons, ih]
   have g5 : (ents (opNd A e.1)).length = (opNd A e.1).keys.length := g4 _ _ _
   rw [g3, g5, List.length_cons, Nat.mul_add]
   omega
 have g := hlen 64 c (λ e he => by
  obtain ⟨c', k1, _, _⟩ := h2.mem he
  obtain ⟨s, _, _, hs, hlv, hck, _⟩ := k1.at_
  have := ((h.may _ hck).leaf hlv).2.1
  rw [opNd_get hs]; omega)
 have hcl : c.length <= A.sl.length := by
  have := h.len
  have h3 := (List.sublist_flatten_of_mem (List.mem_of_getElem? h1)).length_le
  omega
 have : 64 * c.length <= 64 * 65536 := Nat.mul_le_mul_left _ (by omega)
 omega
end
end Go.Proofs.YtbhohohgojcapaaGreat

namespace Go.Proofs.YtbhohohgojcapaaGreat
open Go.RowKit
structure Gm where
 mx : Nat
 dx : Nat
 Sx : Nat -> Prop
 A : Gc
 kv : Value
def gmO (p : Nat) (g : Gm) : Ob := gxOb p g.mx g.dx g.Sx g.A
def prsM (gs : List Gm) : List Value := gs.flatMap (λ g => [.pointer (some ⟨g.mx, 0, none⟩), .pointer none, g.kv])
theorem prsM_at : ∀ (gs : List Gm) (i : Nat) (g : Gm), gs[i]? = some g -> (prsM gs)[i * 3]? = some (.pointer (some ⟨g.mx, 0, none⟩)) /\ (prsM gs)[i * 3 + 1]? = some (.pointer none) /\ (prsM gs)[i * 3 + 2]? = some g.kv
 | [], i, g, h => by simp at h
 | e :: l, 0, g, h => by simp at h; subst h; exact ⟨rfl, rfl, rfl⟩
 | e :: l, i + 1, g, h => by
  have := prsM_at l i g (by simpa using h)
  rw [show (i + 1) * 3 = i * 3 + 1 + 1 + 1 by omega]
  exact this
theorem prsM_set : ∀ (gs : List Gm) (i : Nat) (g e : Gm), gs[i]? = some g -> e.mx = g.mx -> e.kv = g.kv -> prsM (gs.set i e) = prsM gs
 | [], i, g, e, h, _, _ => rfl
 | c :: l, 0, g, e, h, h1, h3 => by simp at h; subst h; simp only [prsM, sb_, List.flatMap_cons, h1, h3]
 | c :: l, i + 1, g, e, h, h1, h3 => by
  have := prsM_set l i g e (by simpa using h) h1 h3
  simp only [prsM, sc_, List.flatMap_cons] at *
  rw [this]
theorem prsM_snoc (gs : List Gm) (g : Gm) : prsM (gs ++ [g]) = prsM gs ++ [.pointer (some ⟨g.mx, 0, none⟩), .pointer none, g.kv] := by simp [prsM]
section
variable {w0 w : World} {b p q i n : Nat} {A B : Ar} {l : List Ob} {gs : List Gm} {g : Gm}
theorem Su.getM (h : Su w0 w b p q A B l) (hi : l[i]? = some (grpOb (gs.map (gmO p)))) (hn : gs[n]? = some g) (hlow : g.A.D.low) : Calls Tryz.prog 17 #[pV g.mx] w λ e w' => e = .returned (.tuple #[.bool (stepG A g.A).1.1, .bool (stepG A g.A).1.2]) /\ ∃ S, Su w0 w' b p q A B (l.set i (grpOb ((gs.set n { g with A := (stepG A g.A).2, Sx := S }).map (gmO p)))) := by
 obtain ⟨G, hJ, hoff, hg, hold, hW, hP, back⟩ := h.turnG hi (map_at (f := gmO p) hn)
 have hP' : GX w g.mx g.dx p g.Sx g.A := hP
 refine (stepGX hJ hoff hP' hlow).mono ?_
 rintro e w' ⟨rfl, hX, hk⟩
 refine ⟨rfl, (λ x => g.Sx x \/ Fresh w w' x), ?_⟩
 rw [List.map_set]
 refine back w' A B (gmO p { g with A := (stepG A g.A).2, Sx := λ x => g.Sx x \/ Fresh w w' x }) (Shr G w w') (hJ.shr hk (λ x _ hgx h => hoff x (h.imp id .inl) hgx)) (λ x hx => hx.1) (hk.mono (λ x _ h => .inr h)) ⟨hX, λ x hx => ?_, λ x hx hgx => ?_, λ x hx => .inl hx, λ x hx => hx.imp id .inl⟩
 ·rcases hx with h | h | h | h
  ·exact .inl (.inl h)
  ·exact .inl (.inr (.inl h))
  ·exact .inl (.inr (.inr h))
  ·exact .inr h
 ·rcases hx with h | h | h | h
  ·exact hoff x (.inl h) hgx.1
  ·exact hoff x (.inr (.inl h)) hgx.1
  ·exact hoff x (.inr (.inr h)) hgx.1
  ·exact hgx.2 h
theorem Su.askM (h : Su w0 w b p q A B l) (hi : l[i]? = some (grpOb (gs.map (gmO p)))) (hn : gs[n]? = some g) : Calls Tryz.prog 15 #[pV g.mx] w λ e w' => ∃ VA vc, e = .returned (.tuple #[.slice VA g.A.out.value.length vc, .bool g.A.out.there, iV g.A.out.err]) /\ Byts w' (λ _ => True) (.slice VA g.A.out.value.length vc) g.A.out.value /\ Su w0 w' b p q A B l := by
 have hX : GX w g.mx g.dx p g.Sx g.A := (h.get hi : Fam w Nob _).ok n _ (map_at (f := gmO p) hn)
 refine (answerGX hX).mono ?_
 rintro e w' ⟨VA, vc, rfl, ho, hk⟩
 exact ⟨VA, vc, rfl, ho.r.mono (λ _ _ _ => trivial), h.nob hk⟩
theorem J.soundJ {G : Nat -> Prop} (h : J w G b p q A B) : Calls Tryz.prog 25 #[pV q, .agg #[.int .i64 60, .int .i64 64, .int .i64 64, .int .i64 1, .int .i64 1]] w λ e w' => e = .returned (.bool (soundZ B)) /\ Keeps Nob w w' := by
 obtain ⟨M1, D1, M', D', _, ⟨L, xs, hY⟩, _, _, _⟩ := h.mem
 exact soundR hY h.smB
theorem Su.soundS (h : Su w0 w b p q A B l) : Calls Tryz.prog 25 #[pV q, .agg #[.int .i64 60, .int .i64 64, .int .i64 64, .int .i64 1, .int .i64 1]] w λ e w' => e = .returned (.bool (soundZ B)) /\ Keeps Nob w w' := by
 obtain ⟨G, hJ, _⟩ := h
 exact hJ.soundJ
theorem Su.mapS (h : Su w0 w b p q A B l) (hb : (mapOf B).length <= 4000000000000) : Calls Tryz.prog 19 #[pV q] w λ e w' => ∃ v, e = .returned v /\ MapAt w' (λ _ => True) v (mapOf B) /\ Keeps Nob w w' := by
 obtain ⟨G, hJ, _⟩ := h
 obtain ⟨M1, D1, M', D', _, ⟨L, xs, hY⟩, _, _, _⟩ := hJ.mem
 refine (mapR hY hJ.smB rfl hb).mono ?_
 rintro e w' ⟨v, rfl, ⟨l, h1, h2, h3⟩, hk⟩
 exact ⟨v, rfl, ⟨l, h1.mono (λ _ _ _ => trivial), λ x hx => ⟨(h2 x hx).1.mono (λ _ _ _ => trivial), (h2 x hx).2.mono (λ _ _ _ => trivial)⟩, h3⟩, hk⟩
end
theorem wideM (w : World) : Calls Tryz.prog 13 #[] w λ e w' => e = .returned (.agg #[.int .i64 60, .int .i64 64, .int .i64 64, .int .i64 1, .int .i64 1]) /\ Keeps Nob w w' := by
 go_enter Tryz.func13, Tryz.ntmps13
 go_wp2
 refine post_at (λ wb hw => ?_)
 have hk : Keeps Nob w wb := by rw [hw]; exact Keeps.alloc _ _ _
 have hb : Blk wb w.heap.size 49 #[.int .i64 60, .int .i64 64, .int .i64 64, .int .i64 1, .int .i64 1] := by rw [hw]; exact Blk.new _ _ _
 have r0 := hb.cell 0
 have r1 := hb.cell 1
 have r2 := hb.cell 2
 have r3 := hb.cell 3
 have r4 := hb.cell 4
 refine bodyPost_ret (v := .agg #[.int .i64 60, .int .i64 64, .int .i64 64, .int .i64 1, .int .i64 1]) (by simp [results, Tryz.results13, go_sem, r0, r1, r2, r3, r4]) rfl ⟨rfl, hk⟩
def O13.tru (o : O13) : O13 := { o with ch := true }
theorem IsO13.tru {w : World} {lo : Nat} {k a b kv vv hv ch c0 c1 c2 c3 c4 c5 : Value} {o : O13} (h : IsO13 w lo #[k, a, b, kv, vv, hv, ch, c0, c1, c2, c3, c4, c5] o) : IsO13 w lo #[k, a, b, kv, vv, hv, .bool true, c0, c1, c2, c3, c4, c5] o.tru := by
 obtain ⟨kv', vv', hv', d0, d1, d2, d3, d4, d5, e, h1, h2⟩ := h
 simp only [Array.mk.injEq, List.cons.injEq, and_true] at e
 obtain ⟨rfl, rfl, rfl, rfl, rfl, rfl, _, rfl, rfl, rfl, rfl, rfl, rfl⟩ := e
 exact ⟨_, _, _, _, _, _, _, _, _, rfl, h1, h2⟩
theorem wb_turn {A : Ar} {o : O13} {m : Nat} (h : WB m A) (h1 : 1 <= m) : WB (m + 4) (turnM A o) := by
 have hs : ∀ x, WB (m + 4) (step A x) := λ x => (wb_step h h1 x).mono (by omega)
 have h0 : WB (m + 4) A := h.mono (by omega)
 unfold turnM
 split
 ·split
  ·exact hs _
  ·exact h0
 split
 ·split
  ·exact hs _
  ·exact h0
 split
 ·split
  ·exact hs _
  ·exact h0
 split
 ·split
  ·exact h0
  ·exact wb_step (wb_step h h1 _) (by omega) _
 split
 ·exact hs _
 split
 ·exact hs _
 ·exact hs _
theorem sound_tree {A : Ar} (h : soundZ A = true) : ∃ lv ls, TreeOk (zeroW A) 60 64 64 (chkM 60 64 64 1 1) lv ls := by
 unfold soundZ at h
 rw [checkM_sound] at h
 obtain ⟨ls, R, hR⟩ : ∃ ls R, levelsM (zeroW A) 60 64 64 1 1 = (ls, R) := ⟨_, _, rfl⟩
 rw [hR] at h
 obtain ⟨lv, hT⟩ := levelsM_ok hR h
 exact ⟨lv, ls, hT⟩
structure MomI (w0 : World) (c : Nat) (A : Ar) (gs : List Gm) : Prop where
 each : ∀ g ∈ gs, g.A.D.le c /\ (∃ X n k, g.kv = .slice X n k) /\ Byts w0 (λ b => b < w0.heap.size) g.kv g.A.D.key
 snd : gs ≠ [] -> soundZ A = true
 tree : gs ≠ [] -> ∃ lv ls, TreeOk (zeroW A) 60 64 64 (chkM 60 64 64 1 1) lv ls /\ ∀ g ∈ gs, g.A.res = none -> Mi A ls g.A.D /\ g.A.D.nx ≠ .done
section
variable {w0 : World} {c c' n : Nat} {A A' : Ar} {gs : List Gm} {g : Gm} {key : List UInt8} {S : Nat -> Prop}
theorem MomI.nil (w0 : World) (c : Nat) (A : Ar) : MomI w0 c A [] := ⟨λ g hg => by simp at hg, λ h => absurd rfl h, λ h => absurd rfl h⟩
theorem MomI.mono (h : MomI w0 c A gs) (hc : c <= c') : MomI w0 c' A gs := ⟨λ g hg => ⟨(h.each g hg).1.mono hc, (h.each g hg).2⟩, h.snd, h.tree⟩
theorem MomI.turn (h : MomI w0 c A gs) (hk : Kp A A') (hr : Rel A A') (hs : soundZ A' = true) : MomI w0 c A' gs := ⟨h.each, λ _ => hs, λ hn => by
 obtain ⟨lv, ls, hT, hg⟩ := h.tree hn
 obtain ⟨lv', ls', hT'⟩ := sound_tree hs
 exact ⟨lv', ls', hT', λ g hg' hres => ⟨(hg g hg' hres).1.turn hT hT' hk hr, (hg g hg' hres).2⟩⟩⟩
theorem MomI.snoc (h : MomI w0 c A gs) (hs : soundZ A = true) (hk : ∃ X n k, g.kv = .slice X n k) (hb : Byts w0 (λ b => b < w0.heap.size) g.kv key) (hA : g.A = Gc.new key) : MomI w0 c A (gs ++ [g]) := by
 have hnew : ∀ ls, Mi A ls g.A.D /\ g.A.D.nx ≠ .done := λ ls => by rw [hA]; exact ⟨Mi.new A ls key, λ e => nomatch e⟩
 refine ⟨λ x hx => ?_, λ _ => hs, λ _ => ?_⟩
 ·rcases List.mem_append.1 hx with hx | hx
  ·exact h.each x hx
  ·simp at hx; subst hx; exact ⟨by rw [hA]; exact Mc.le.new _ _ _, hk, by rw [hA]; exact hb⟩
 ·by_cases hn : gs = []
  ·obtain ⟨lv, ls, hT⟩ := sound_tree hs
   subst hn
   exact ⟨lv, ls, hT, λ x hx _ => by simp at hx; subst hx; exact hnew ls⟩
  ·obtain ⟨lv, ls, hT, hg⟩ := h.tree hn
   refine ⟨lv, ls, hT, λ x hx hres => ?_⟩
   rcases List.mem_append.1 hx with hx | hx
   ·exact hg x hx hres
   ·simp at hx; subst hx; exact hnew ls
theorem ne_nil_at {α : Type} {l : List α} {n : Nat} {x : α} (h : l[n]? = some x) : l ≠ [] := λ e => by subst e; simp at h
theorem MomI.step (h : MomI w0 c A gs) (hn : gs[n]? = some g) : MomI w0 (c + 1) A (gs.set n { g with A := (stepG A g.A).2, Sx := S }) := by
 have hm := List.mem_of_getElem? hn
 have hne := ne_nil_at hn
 obtain ⟨h1, h2, h3⟩ := h.each g hm
 obtain ⟨lv, ls, hT, hg⟩ := h.tree hne
 refine ⟨λ x hx => ?_, λ _ => h.snd hne, λ _ => ⟨lv, ls, hT, λ x hx hres => ?_⟩⟩
 ·rcases List.mem_or_eq_of_mem_set hx with hx | rfl
  ·exact ⟨(h.each x hx).1.mono (by omega), (h.each x hx).2⟩
  ·exact ⟨stepG_le h1, h2, by simp only [stepG_key]; exact h3⟩
 ·rcases List.mem_or_eq_of_mem_set hx with hx | rfl
  ·exact hg x hx hres
  ·simp only at hres ⊢
   unfold stepG at hres ⊢
   rcases hr : g.A.res with _ | r
   ·obtain ⟨k1, k2⟩ := hg g hm hr
    rw [hr] at hres
    simp only at hres ⊢
    split at hres
    ·cases hres
    rename_i hf
    rw [if_neg hf]
    split at hres
    ·cases hres
    rename_i hd
    rw [if_neg hd]
    exact ⟨k1.step hT, hd⟩
   ·rw [hr] at hres
    simp only at hres
    rw [hr] at hres; cases hres
theorem MomI.took (h : MomI w0 c A gs) (hn : gs[n]? = some g) (ht : (stepG A g.A).1.2 = true) :
  (keyFit g.A.D.key = true -> (stepG A g.A).2.out.err = 0 /\ valueM (mapOf A) g.A.D.key = ((stepG A g.A).2.out.value, (stepG A g.A).2.out.there)) /\ (keyFit g.A.D.key = false -> (stepG A g.A).2.out.err = 3 /\ (stepG A g.A).2.out.there = false) := by
 have hm := List.mem_of_getElem? hn
 obtain ⟨lv, ls, hT, hg⟩ := h.tree (ne_nil_at hn)
 unfold stepG at ht ⊢
 rcases hr : g.A.res with _ | r
 ·obtain ⟨k1, k2⟩ := hg g hm hr
  rw [hr] at ht
  simp only at ht ⊢
  by_cases hf : keyFit g.A.D.key = false
  ·rw [if_pos hf]
   exact ⟨λ e => by (rw [hf] at e; cases e), λ _ => ⟨rfl, rfl⟩⟩
  ·rw [if_neg hf] at ht ⊢
   refine ⟨λ _ => ?_, λ e => absurd e hf⟩
   by_cases hd : (stepM A g.A.D).nx = .done
   ·rw [if_pos hd] at ht ⊢
    have hi : (stepM A g.A.D).outId ≠ 0 := λ e => by rw [e] at ht; simp at ht
    have hv := mi_value k1 hT k2 hd hi
    unfold Gc.out endG
    rw [if_neg hi]
    simp only [Option.getD_some]
    rw [stepM_key]
    exact ⟨trivial, hv⟩
   ·rw [if_neg hd] at ht; cases ht
 ·rw [hr] at ht; cases ht
theorem MomI.few (h : MomI w0 c A gs) (hn : gs ≠ []) (hl : A.sl.length <= 65536) : (mapOf A).length <= 4000000000000 := by
 obtain ⟨lv, ls, hT, _⟩ := h.tree hn
 rw [<- zero_mapOf]
 exact map_few hT (by decide) (by rw [zero_len]; exact hl)
end
end Go.Proofs.YtbhohohgojcapaaGreat

import Derived.Test.YtbhohohgojcapaaGreatRows
import Derived.Test.YtbhohohgojcapaaGreatPkA0
import Derived.ProofKit
import Derived.OpenShut
import Derived.SizedLaws
namespace Go.Proofs.YtbhohohgojcapaaGreat
open Go.ChangeShapes Go.WideShapes Go.ChangeAt Go.RowKit
set_option maxRecDepth 100000
def Sz {H : Type} (t : TypeId) (d : DataW H) : Prop := ∀ k ∈ d.weights Tryz.prog t, k <= reachBytes
theorem sz_slice {H : Type} {t e : TypeId} {elems rest : List (DataW H)} (h : Sz t (.slice elems rest)) (ht : Tryz.prog.underlying t = some (.slice e)) : elems.length * Tryz.prog.bytesOf e <= reachBytes /\ ∀ d ∈ elems, Sz e d := by
 unfold Sz at h ⊢
 simp only [DataW.weights, ht] at h
 refine ⟨?_, λ d hd k hk => h k ?_⟩
 ·have := h _ (List.mem_cons_self ..)
  exact Nat.le_trans (Nat.mul_le_mul_right _ (Nat.le_add_right _ _)) this
 ·refine List.mem_cons_of_mem _ (List.mem_append_left _ ?_)
  clear h
  induction elems with
  | nil => simp at hd
  | cons x l ih =>
   simp only [DataW.weightsAll, List.mem_append]
   rcases List.mem_cons.1 hd with rfl | hd
   ·exact .inl hk
   ·exact .inr (ih hd)
theorem sz_struct {H : Type} {t : TypeId} {fs : Array Field} {parts : List (DataW H)} (h : Sz t (.agg parts)) (ht : Tryz.prog.underlying t = some (.struct fs)) {j : Nat} {u : TypeId} {d : DataW H} (hf : (fs.toList.map (·.type))[j]? = some u) (hd : parts[j]? = some d) : Sz u d := by
 unfold Sz at h ⊢
 simp only [DataW.weights, ht] at h
 exact λ k hk => h k (DataW.weights_mem_each hf hd k hk)
theorem reach_eq : reachBytes = 140737488351232 := rfl
def I64_ (n : Int) : Prop := (Lit.int .i64 n).wf = true
section
variable {H : Type} {enc : TypeId × Value -> H} {w : World} {base : Nat} {spare : Nat -> Bool} {held : Bool} {fuel : Nat} {cs : List Value} {x : DataW H × List MemPlace}
theorem open_i1 {v : Value} (h : DataW.trod enc Tryz.prog w base spare held fuel 3 [v] = some x) : ∃ n, v = .int .i64 n /\ I64_ n := by
 obtain ⟨n, e, _, hw⟩ := DataW.trod_int Tryz.underlying3 h
 injection e with e _
 exact ⟨n, e, hw⟩
theorem open_txt {v : Value} (h : DataW.trod enc Tryz.prog w base spare held fuel 23 [v] = some x) : ∃ l, Byts w (λ b => b < w.heap.size) v l /\ (Sz 23 x.1 -> Sm 59000000000000 1 l.length) := by
 rcases open_ints Tryz.underlying23 Tryz.underlying5 (by kernel_rfl) h with ⟨e, _⟩ | ⟨a, len, cap, zs, e, _, hlc, hcm, hz, hx, hcell, hwf⟩
 ·injection e with e _
  subst e
  exact ⟨[], SlR.nil _ _ _ _ (by decide), λ _ => by unfold Sm; decide⟩
 ·injection e with e _
  subst e
  have hzl : len <= zs.length := by rw [hz]; split <;> omega
  have hll : (zs.take len).length = len := by rw [List.length_take]; omega
  refine ⟨(zs.take len).map (λ n => UInt8.ofNat n.toNat), SlR.mono (S := λ _ => True) ⟨some a, cap, by rw [List.length_map, List.length_map, hll], by rw [List.length_map, List.length_map, hll]; exact hlc, hcm, λ _ => ⟨a, rfl, trivial, λ i y hy => ?_⟩⟩ (λ b hb _ => hb), λ hsz => by
   rw [hx] at hsz
   have h1 := (sz_slice hsz Tryz.underlying23).1
   have h2 : Tryz.prog.bytesOf 5 = 1 := by kernel_rfl
   rw [h2, reach_eq] at h1
   simp [lits] at h1
   rw [List.length_map, hll]
   unfold Sm
   omega⟩
  rw [List.getElem?_map, List.getElem?_map, List.getElem?_take] at hy
  split at hy
  ·rename_i hi
   have hi2 : i < zs.length := by omega
   rw [List.getElem?_eq_getElem hi2] at hy
   simp only [Option.map_some, Option.some.injEq] at hy
   subst hy
   rw [hcell i hi2]
   have hb := bounds_u8 (hwf _ (List.getElem_mem hi2))
   have hg : zs.getD i 0 = zs[i] := by simp [List.getD, List.getElem?_eq_getElem hi2]
   rw [hg]
   unfold bV
   congr 2
   have : (UInt8.ofNat zs[i].toNat).toNat = zs[i].toNat := by
    rw [UInt8.toNat_ofNat']
    exact Nat.mod_eq_of_lt (by omega)
   rw [this]
   omega
  ·cases hy
theorem open_nums {v : Value} (h : DataW.trod enc Tryz.prog w base spare held fuel 31 [v] = some x) : ∃ l, Ints w (λ b => b < w.heap.size) v l /\ (∀ n ∈ l, I64_ n) /\ (Sz 31 x.1 -> Sm 59000000000000 8 l.length) := by
 rcases open_ints Tryz.underlying31 Tryz.underlying3 (by kernel_rfl) h with ⟨e, _⟩ | ⟨a, len, cap, zs, e, _, hlc, hcm, hz, hx, hcell, hwf⟩
 ·injection e with e _
  subst e
  exact ⟨[], SlR.nil _ _ _ _ (by decide), λ n hn => by simp at hn, λ _ => by unfold Sm; decide⟩
 ·injection e with e _
  subst e
  have hzl : len <= zs.length := by rw [hz]; split <;> omega
  have hll : (zs.take len).length = len := by rw [List.length_take]; omega
  refine ⟨zs.take len, SlR.mono (S := λ _ => True) ⟨some a, cap, by rw [List.length_map, hll], by rw [List.length_map, hll]; exact hlc, hcm, λ _ => ⟨a, rfl, trivial, λ i y hy => ?_⟩⟩ (λ b hb _ => hb), λ n hn => hwf n (List.mem_of_mem_take hn), λ hsz => by
   rw [hx] at hsz
   have h1 := (sz_slice hsz Tryz.underlying31).1
   have h2 : Tryz.prog.bytesOf 3 = 8 := by kernel_rfl
   rw [h2, reach_eq] at h1
   simp [lits] at h1
   rw [hll]
   unfold Sm
   omega⟩
  rw [List.getElem?_map, List.getElem?_take] at hy
  split at hy
  ·rename_i hi
   have hi2 : i < zs.length := by omega
   rw [List.getElem?_eq_getElem hi2] at hy
   simp only [Option.map_some, Option.some.injEq] at hy
   subst hy
   rw [hcell i hi2]
   have hg : zs.getD i 0 = zs[i] := by simp [List.getD, List.getElem?_eq_getElem hi2]
   rw [hg]
   rfl
  ·cases hy
theorem rows_of {P : Nat -> Value -> List UInt8 -> Prop} : ∀ (n : Nat), (∀ i, i < n -> ∃ u x, P i u x) -> ∃ (vs : List Value) (ls : List (List UInt8)), vs.length = n /\ ls.length = n /\ ∀ (i : Nat) u x, vs[i]? = some u -> ls[i]? = some x -> P i u x
 | 0, _ => ⟨[], [], rfl, rfl, λ i u x h => by simp at h⟩
 | n + 1, h => by
  obtain ⟨vs, ls, h1, h2, h3⟩ := rows_of n (λ i hi => h i (by omega))
  obtain ⟨u, x, hp⟩ := h n (by omega)
  refine ⟨vs ++ [u], ls ++ [x], by simp [h1], by simp [h2], λ i a y ha hy => ?_⟩
  by_cases hi : i < n
  ·rw [List.getElem?_append_left (by omega)] at ha hy
   exact h3 i a y ha hy
  ·rw [List.getElem?_append_right (by omega)] at ha hy
   have e : i = n := by
    rcases hh : i - vs.length with _ | k
    ·omega
    ·rw [hh] at ha; simp at ha
   subst e
   rw [h1, Nat.sub_self] at ha
   rw [h2, Nat.sub_self] at hy
   cases ha; cases hy
   exact hp
theorem open_txts {v : Value} (h : DataW.trod enc Tryz.prog w base spare held fuel 30 [v] = some x) : ∃ l, Txts w (λ b => b < w.heap.size) v l /\ (Sz 30 x.1 -> TxSm 59000000000000 l) := by
 have hc1 : Tryz.prog.cellsOf 23 = 1 := by kernel_rfl
 rcases DataW.trod_slice Tryz.underlying30 h with ⟨e, _⟩ | ⟨a, len, cap, elems, rest, n, _, e, hx, hb, hlc, hcm, hel, hcells, _, _⟩
 ·injection e with e _
  subst e
  exact ⟨[], ⟨[], SlR.nil _ _ _ _ (by decide), rfl, λ i u x h => by simp at h⟩, λ _ => ⟨by unfold Sm; decide, λ x hx => by simp at hx⟩⟩
 ·injection e with e _
  subst e
  obtain ⟨vs, ls, h1, h2, h3⟩ := rows_of (P := λ i u x => w.cell? (a.add i) = some u /\ Byts w (λ b => b < w.heap.size) u x /\ ∀ d, elems[i]? = some d -> Sz 23 d.1 -> Sm 59000000000000 1 x.length) len (λ i hi => by
   have := hcells i hi
   rw [hc1, Nat.mul_one, List.getElem?_eq_getElem (by omega)] at this
   obtain ⟨us, hus, hd⟩ := Option.bind_eq_some_iff.1 this
   unfold World.cells? at hus
   split at hus
   ·have hus' : us = [us[0]!] /\ w.cell? (a.add i) = some us[0]! := by
     simp only [List.range_one, List.mapM_cons, List.mapM_nil] at hus
     have ea : (a.add i).add 0 = a.add i := by rw [add_add_, Nat.add_zero]
     rw [ea] at hus
     cases hc : w.cell? (a.add i) with
     | none => rw [hc] at hus; cases hus
     | some u => rw [hc] at hus; cases hus; exact ⟨rfl, rfl⟩
    obtain ⟨e1, e2⟩ := hus'
    rw [e1] at hd
    obtain ⟨l, hl, hls⟩ := open_txt hd
    refine ⟨_, l, e2, hl, λ d hde hsz => hls ?_⟩
    rw [List.getElem?_eq_getElem (by omega)] at hde
    cases hde
    exact hsz
   ·cases hus)
  refine ⟨ls, ⟨vs, SlR.mono (S := λ _ => True) ⟨some a, cap, by rw [h1], by rw [h1]; exact hlc, hcm, λ _ => ⟨a, rfl, trivial, λ i y hy => ?_⟩⟩ (λ b hb _ => hb), by omega, λ i u x hu hx => (h3 i u x hu hx).2.1⟩, λ hsz => ?_⟩
  rotate_left
  ·rw [hx] at hsz
   obtain ⟨g1, g2⟩ := sz_slice hsz Tryz.underlying30
   have h4 : Tryz.prog.bytesOf 23 = 24 := by kernel_rfl
   rw [h4, reach_eq, List.length_map, hel] at g1
   refine ⟨by unfold Sm; omega, λ x hxm => ?_⟩
   obtain ⟨i, hi⟩ := List.getElem?_of_mem hxm
   have hil : i < len := by rw [<- h2]; exact (List.getElem?_eq_some_iff.1 hi).1
   have hee : elems[i]? = some elems[i] := List.getElem?_eq_getElem (by omega)
   exact (h3 i _ x (List.getElem?_eq_getElem (by omega)) hi).2.2 _ hee (g2 _ (List.mem_map.2 ⟨_, List.getElem_mem _, rfl⟩))
  have hil : i < vs.length := (List.getElem?_eq_some_iff.1 hy).1
  exact (h3 i y _ hy (List.getElem?_eq_getElem (by omega))).1
theorem open_nd (h : DataW.trod enc Tryz.prog w base spare held fuel 35 cs = some x) : ∃ c0 c1 c2 c3 c4 c5 n, cs = [c0, c1, c2, c3, c4, c5] /\ IsNd w (λ b => b < w.heap.size) c0 c1 c2 c3 c4 c5 n /\ I64_ n.lvl /\ I64_ n.right /\ (∀ k ∈ n.kids, I64_ k) /\ (Sz 35 x.1 -> NdSm 59000000000000 n) := by
 obtain ⟨xs, m, _, rfl, hl, hlen, hf⟩ := DataW.trod_struct Tryz.underlying35 h
 have h6 : Tryz.prog.cellsOf 35 = 6 := by kernel_rfl
 have h3 : Tryz.prog.cellsOf 29 = 3 := by kernel_rfl
 have h3' : Tryz.prog.cellsOf 33 = 3 := by kernel_rfl
 have k1 : Tryz.prog.cellsOf 3 = 1 := by kernel_rfl
 have k2 : Tryz.prog.cellsOf 23 = 1 := by kernel_rfl
 have k3 : Tryz.prog.cellsOf 30 = 1 := by kernel_rfl
 have k4 : Tryz.prog.cellsOf 31 = 1 := by kernel_rfl
 rw [h6] at hl
 match cs, hl with
 | [c0, c1, c2, c3, c4, c5], _ =>
  have hs : xs.length = 2 := hlen
  have e0 : DataW.trod enc Tryz.prog w base spare held m 29 (([c0, c1, c2, c3, c4, c5].drop 0).take (Tryz.prog.cellsOf 29)) = xs[0]? := hf 0 _ rfl
  rw [h3] at e0
  have e1 : DataW.trod enc Tryz.prog w base spare held m 33 (([c0, c1, c2, c3, c4, c5].drop 3).take (Tryz.prog.cellsOf 33)) = xs[1]? := hf 1 _ rfl
  rw [h3'] at e1
  obtain ⟨ys, m1, _, ex0, _, hlen1, hf1⟩ := DataW.trod_struct Tryz.underlying29 (e0.trans (List.getElem?_eq_getElem (by omega)))
  obtain ⟨zs, m2, _, ex1, _, hlen2, hf2⟩ := DataW.trod_struct Tryz.underlying33 (e1.trans (List.getElem?_eq_getElem (by omega)))
  have a0 : DataW.trod enc Tryz.prog w base spare held m1 3 (([c0, c1, c2].drop 0).take (Tryz.prog.cellsOf 3)) = ys[0]? := hf1 0 _ rfl
  rw [k1] at a0
  have a1 : DataW.trod enc Tryz.prog w base spare held m1 23 (([c0, c1, c2].drop 1).take (Tryz.prog.cellsOf 23)) = ys[1]? := hf1 1 _ rfl
  rw [k2] at a1
  have a2 : DataW.trod enc Tryz.prog w base spare held m1 3 (([c0, c1, c2].drop 2).take (Tryz.prog.cellsOf 3)) = ys[2]? := hf1 2 _ rfl
  rw [k1] at a2
  have b0 : DataW.trod enc Tryz.prog w base spare held m2 30 (([c3, c4, c5].drop 0).take (Tryz.prog.cellsOf 30)) = zs[0]? := hf2 0 _ rfl
  rw [k3] at b0
  have b1 : DataW.trod enc Tryz.prog w base spare held m2 30 (([c3, c4, c5].drop 1).take (Tryz.prog.cellsOf 30)) = zs[1]? := hf2 1 _ rfl
  rw [k3] at b1
  have b2 : DataW.trod enc Tryz.prog w base spare held m2 31 (([c3, c4, c5].drop 2).take (Tryz.prog.cellsOf 31)) = zs[2]? := hf2 2 _ rfl
  rw [k4] at b2
  have hy : ys.length = 3 := hlen1
  have hz : zs.length = 3 := hlen2
  obtain ⟨n0, rfl, w0⟩ := open_i1 (a0.trans (List.getElem?_eq_getElem (by omega)))
  obtain ⟨hi, g1, r1⟩ := open_txt (a1.trans (List.getElem?_eq_getElem (by omega)))
  obtain ⟨n2, rfl, w2⟩ := open_i1 (a2.trans (List.getElem?_eq_getElem (by omega)))
  obtain ⟨ks, g3, r3⟩ := open_txts (b0.trans (List.getElem?_eq_getElem (by omega)))
  obtain ⟨vs, g4, r4⟩ := open_txts (b1.trans (List.getElem?_eq_getElem (by omega)))
  obtain ⟨is, g5, w5, r5⟩ := open_nums (b2.trans (List.getElem?_eq_getElem (by omega)))
  refine ⟨_, _, _, _, _, _, ⟨n0, hi, n2, ks, vs, is⟩, rfl, ⟨⟨rfl, g1, rfl⟩, g3, g4, g5⟩, w0, w2, w5, λ hsz => ?_⟩
  have s0 : Sz 29 xs[0].1 := sz_struct hsz Tryz.underlying35 (j := 0) rfl (by rw [List.getElem?_map, List.getElem?_eq_getElem (by omega)]; rfl)
  have s1 : Sz 33 xs[1].1 := sz_struct hsz Tryz.underlying35 (j := 1) rfl (by rw [List.getElem?_map, List.getElem?_eq_getElem (by omega)]; rfl)
  rw [ex0] at s0
  rw [ex1] at s1
  refine ⟨r1 ?_, r3 ?_, r4 ?_, r5 ?_⟩
  ·exact sz_struct s0 Tryz.underlying29 (j := 1) rfl (by rw [List.getElem?_map, List.getElem?_eq_getElem (by omega)]; rfl)
  ·exact sz_struct s1 Tryz.underlying33 (j := 0) rfl (by rw [List.getElem?_map, List.getElem?_eq_getElem (by omega)]; rfl)
  ·exact sz_struct s1 Tryz.underlying33 (j := 1) rfl (by rw [List.getElem?_map, List.getElem?_eq_getElem (by omega)]; rfl)
  ·exact sz_struct s1 Tryz.underlying33 (j := 2) rfl (by rw [List.getElem?_map, List.getElem?_eq_getElem (by omega)]; rfl)
end
end Go.Proofs.YtbhohohgojcapaaGreat

import Derived.Test.YtbhohohgojcapaaGreatPkD3
import Derived.Test.YtbhohohgojcapaaGreatPkE4
import Derived.Test.YtbhohohgojcapaaGreatPkD1
set_option maxHeartbeats 64000000
namespace Go.Proofs.YtbhohohgojcapaaGreat
open Go.RowKit
theorem Tryz.inf_entry : (Tryz.prog.info? 119).map (λ i => (i.zero, i.size, i.bytes)) = some (some (.agg #[.slice none 0 0, .slice none 0 0]), 2, 48) := by kernel_rfl
structure En where
 kv : Value
 vv : Value
 k : List UInt8
 v : List UInt8
def En.e (x : En) : Ent := (x.k, x.v)
def enCells (l : List En) : List Value := l.flatMap (λ x => [x.kv, x.vv])
theorem enCells_snoc (l : List En) (x : En) : enCells (l ++ [x]) = enCells l ++ [x.kv, x.vv] := by unfold enCells; rw [List.flatMap_append]; rfl
theorem enCells_at : ∀ {l : List En} {i : Nat} {x : En}, l[i]? = some x -> (enCells l)[i * 2]? = some x.kv /\ (enCells l)[i * 2 + 1]? = some x.vv
 | [], i, d, h => by simp at h
 | e :: l, 0, d, h => by simp at h; subst h; exact ⟨rfl, rfl⟩
 | e :: l, i + 1, d, h => by
  obtain ⟨h1, h2⟩ := enCells_at (l := l) (i := i) (x := d) (by simpa using h)
  have e1 : (i + 1) * 2 = i * 2 + 2 := by omega
  rw [e1]
  exact ⟨h1, h2⟩
def enOb (S : Nat -> Prop) (l : List En) : Ob where
 P := λ w => ∀ x ∈ l, Byts w S x.kv x.k /\ Byts w S x.vv x.v
 F := S
 W := λ _ => False
 fr := λ _ _ _ h k hd => λ x hx => ⟨(h x hx).1.keeps k hd, (h x hx).2.keeps k hd⟩
def lenE : Value -> Nat
 | .slice _ n _ => n
 | _ => 0
theorem mapM_len (A : Ar) : ∀ (f : Nat) (id : Int) (met : List Int) (leaf : Bool) (out : List Ent), out.length <= (mapM A f id met leaf out).length
 | 0, _, _, _, _ => Nat.le_refl _
 | f + 1, id, met, leaf, out => by
  unfold mapM
  split
  ·exact Nat.le_refl _
  ·split
   ·exact Nat.le_refl _
   ·split
    ·split
     ·exact Nat.le_refl _
     ·exact mapM_len A f _ _ _ _
    ·refine Nat.le_trans ?_ (mapM_len A f _ _ _ _)
     simp
theorem entsM_len (vals : List (List UInt8)) : ∀ (i : Nat) (ks : List (List UInt8)), (entsM vals i ks).length = ks.length
 | _, [] => rfl
 | i, _ :: ks => by rw [entsM, List.length_cons, entsM_len vals (i + 1) ks, List.length_cons]
theorem entsM_at (vals : List (List UInt8)) : ∀ (i : Nat) (ks : List (List UInt8)) (j : Nat) (k : List UInt8), ks[j]? = some k -> (entsM vals i ks)[j]? = some (k, vals.getD (i + j) [])
 | _, [], j, k, h => by simp at h
 | i, x :: ks, 0, k, h => by simp at h; subst h; rfl
 | i, x :: ks, j + 1, k, h => by
  have := entsM_at vals (i + 1) ks j k (by simpa using h)
  rw [show i + (j + 1) = i + 1 + j by omega]
  simpa [entsM] using this
theorem ents_len (n : Nd) : (ents n).length = n.keys.length := entsM_len _ _ _
theorem ents_at {n : Nd} {j : Nat} {k : List UInt8} (h : n.keys[j]? = some k) : (ents n)[j]? = some (k, n.vals.getD j []) := by
 have := entsM_at n.vals 0 n.keys j k h
 rw [Nat.zero_add] at this
 exact this
theorem mapM_succ {A : Ar} {met : List Int} (h : met.length <= A.sl.length) (id : Int) (leaf : Bool) (out : List Ent) : mapM A (A.sl.length + 1 - met.length) id met leaf out = match A.get id with
  | none => out
  | some s =>
   if met.contains id = true then out
   else if 0 < s.nd.lvl then (if s.nd.kids.length = 0 \/ (leaf || decide (s.nd.lvl <= 0)) = true then out else mapM A (A.sl.length - met.length) (s.nd.kids.getD 0 0) (met ++ [id]) (leaf || decide (s.nd.lvl <= 0)) out)
   else mapM A (A.sl.length - met.length) s.nd.right (met ++ [id]) (leaf || decide (s.nd.lvl <= 0)) (out ++ ents s.nd) := by
 rw [show A.sl.length + 1 - met.length = (A.sl.length - met.length) + 1 by omega, mapM]
 rfl
theorem Own.vacant {w : World} {S : Nat -> Prop} {N : Nat} {e : TypeId} {size : Nat} (hn : N = w.heap.size) (hs : S N) : Own (w.alloc (.cells #[] e)) S e size (.slice (some ⟨N, 0, none⟩) 0 0) 0 [] := by subst hn; exact Own.empty w S e size hs
def MapAt (w : World) (S : Nat -> Prop) (v : Value) (R : List Ent) : Prop := ∃ l : List En, Own w S 119 2 v l.length (enCells l) /\ (∀ x ∈ l, Byts w S x.kv x.k /\ Byts w S x.vv x.v) /\ l.map En.e = R
theorem map_done {w wr : World} {ov : Value} {o0 o3 o4 : Ob} {S : Nat -> Prop} {l : List En} (h : Fo w wr [o0, rowOb 119 2 ov l.length (enCells l), enOb S l, o3, o4]) (hS : ∀ x, S x -> w.heap.size <= x) : MapAt wr (Fresh w wr) ov (l.map En.e) := by
 have h1 : Own wr _ 119 2 ov l.length (enCells l) := h.get (i := 1) rfl
 have h2 : ∀ x ∈ l, Byts wr S x.kv x.k /\ Byts wr S x.vv x.v := h.get (i := 2) rfl
 refine ⟨l, h1.mono (λ x hx hs => ⟨h.own 1 _ rfl x hs, hx⟩), λ x hx => ⟨(h2 x hx).1.mono (λ b hb hs => ⟨hS b hs, hb⟩), (h2 x hx).2.mono (λ b hb hs => ⟨hS b hs, hb⟩)⟩, rfl⟩
section
variable {w : World} {M D : Nat -> Prop} {q : Nat} {L : Value} {xs : List Value} {A : Ar}
set_option maxRecDepth 100000 in
theorem mapR {R : List Ent} (h0 : DocW w M D q L xs A) (hsm : ∀ s ∈ A.sl, NdSm 0 s.nd) (hR : mapOf A = R) (hb : R.length <= 4000000000000) : Calls Tryz.prog 19 #[pV q] w λ e w' => ∃ v, e = .returned v /\ MapAt w' (Fresh w w') v R /\ Keeps Nob w w' := by
 have H0 := Hd h0
 have HSM := Hd hsm
 have HR := Hd hR
 have HBD : Hid (R.length <= 4000000000000) := hb
 have hbd := h0.bound
 have c2 := h0.blk.cell 2
 clear h0 hsm hR hb
 unfold pV iV at *
 go_enter Tryz.func19, Tryz.ntmps19
 go_wp2
 clear c2
 go_loopw [3, 4, 5, 6] (λ outv metv leafv idv wr => ∃ (met : List Int) (leaf : Bool) (id : Int) (l : List En) (S : Nat -> Prop) (o3 o4 : Ob), idv = .int .i64 id /\ leafv = .bool leaf /\ MetA A met /\ mapM A (A.sl.length + 1 - met.length) id met leaf (l.map En.e) = R /\ (∀ x, S x -> w.heap.size <= x) /\ Fo w wr [rowOb 3 1 metv (met.map iV).length (met.map iV), rowOb 119 2 outv l.length (enCells l), enOb S l, o3, o4]) (λ _ metv _ _ _ => A.sl.length + 1 - lenE metv)
 case atStart => exact ⟨[], false, A.root, [], λ _ => False, noOb, noOb, rfl, rfl, ⟨List.nodup_nil, λ x hx => by simp at hx⟩, HR.out, λ x h => h.elim, ((((Fo.nil w).nilRow 3 1).nilRow 119 2).push (o := enOb (λ _ => False) []) (Keeps.refl _ _) (λ x hx => by simp at hx) (λ x h => h.elim) (λ x h => h.elim)).no.no⟩
 clear HR
 obtain ⟨met, leaf, id, l, S, o3, o4, rfl, rfl, hmet, hR, hS, hF⟩ := hrel
 have hml := hmet.len
 rw [mapM_succ hml] at hR
 have hll : l.length <= 4000000000000 := by
  have h := HBD.out
  have h2 := mapM_len A (A.sl.length + 1 - met.length) id met leaf (l.map En.e)
  rw [mapM_succ hml, hR, List.length_map] at h2
  omega
 have HF := Hd hF
 have HR := Hd hR
 have HM := Hd hmet
 have HS := Hd hS
 obtain ⟨mA, mc, em⟩ := (hF.get (i := 0) rfl : Own wr _ _ 1 _ _ _).form
 obtain ⟨oA, oc, eo⟩ := (hF.get (i := 1) rfl : Own wr _ _ 2 _ _ _).form
 subst eo
 rw [List.length_map] at em
 subst em
 have HD := Hd (H0.out.keeps hF.kept (λ _ _ _ h => h) (λ _ _ _ h => h))
 clear hF hR hmet hS
 have FT := λ wx (h : DocW wx M D q L xs A) => thereR (ix := id) h
 unfold pV iV at FT
 have FH := λ wx (h : Ints wx (λ b => (Value.slice mA met.length mc).ownBlock = some b) (.slice mA met.length mc) met) => hasR (x := id) h
 rcases hg : A.get id with _ | s
 ·rw [hg] at FT
  obtain rfl : l.map En.e = R := by have h := HR.out; rw [hg] at h; exact h
  clear HR HM HSM hg
  go_wp2_with (first | (go_at_call 50; refine (FT _ HD.out).mono ?_; rintro e w' ⟨rfl, rfl⟩) | (go_at_call 51; refine (FH _ (by have h := (HF.out.get (i := 0) rfl : Own wr _ 3 1 _ _ _); rw [List.length_map] at h; exact h.r)).mono ?_; rintro e w2 ⟨rfl, hk⟩; replace HF := Hd (HF.out.nob hk)))
  go_ret
  exact ⟨_, rfl, map_done HF.out HS.out, HF.out.kept⟩
 rw [hg] at FT
 obtain ⟨hs1, hs2⟩ : NdSm 0 s.nd /\ True := ⟨HSM.out s (by obtain ⟨_, _, h2, _⟩ := get_some hg; exact List.mem_of_getElem? h2), trivial⟩
 have HSS := Hd hs1
 have HG := Hd hg
 clear hs1 hs2 HSM
 rcases hcon : met.contains id with _ | _
 rotate_left
 ·obtain rfl : l.map En.e = R := by have h := HR.out; rw [hg] at h; simp only [hcon, if_true] at h; exact h
  rw [hcon] at FH
  clear HR HM hg hcon
  go_wp2_with (first | (go_at_call 50; refine (FT _ HD.out).mono ?_; rintro e w' ⟨rfl, rfl⟩) | (go_at_call 51; refine (FH _ (by have h := (HF.out.get (i := 0) rfl : Own wr _ 3 1 _ _ _); rw [List.length_map] at h; exact h.r)).mono ?_; rintro e w2 ⟨rfl, hk⟩; replace HF := Hd (HF.out.nob hk)))
  go_ret
  exact ⟨_, rfl, map_done HF.out HS.out, HF.out.kept⟩
 have HM2 : Hid (MetA A (met ++ [id])) := HM.out.snoc hg hcon
 rw [hcon] at FH
 replace HR : Hid ((if 0 < s.nd.lvl then (if s.nd.kids.length = 0 \/ (leaf || decide (s.nd.lvl <= 0)) = true then l.map En.e else mapM A (A.sl.length - met.length) (s.nd.kids.getD 0 0) (met ++ [id]) (leaf || decide (s.nd.lvl <= 0)) (l.map En.e)) else mapM A (A.sl.length - met.length) s.nd.right (met ++ [id]) (leaf || decide (s.nd.lvl <= 0)) (l.map En.e ++ ents s.nd)) = R) := by
  have h := HR.out; rw [hg] at h; simp only [hcon, Bool.false_eq_true, if_false] at h; exact h
 clear hg hcon HM
 go_wp2_with (first | (go_at_call 50; refine (FT _ HD.out).mono ?_; rintro e w' ⟨rfl, rfl⟩) | (go_at_call 51; refine (FH _ (by have h := (HF.out.get (i := 0) rfl : Own wr _ 3 1 _ _ _); rw [List.length_map] at h; exact h.r)).mono ?_; rintro e w2 ⟨rfl, hk⟩; replace HF := Hd (HF.out.nob hk); obtain ⟨j0, hi0, hz0, hz1, hz2⟩ := info_parts Tryz.inf_int) | (at_builtin; refine wpList_app rfl (.tmp 28) (.tmp 30) 31 rfl Tryz.underlying31 hi0 hz0 hz1 hz2 rfl (by decide) (v := .slice mA met.length mc) (n := met.length) (m := 1) (S := λ x => (Value.slice mA met.length mc).ownBlock = some x) (T := λ _ => True) (xs := met.map iV) (news := [.int .i64 id]) rfl ?c11 (y := .slice (some ⟨w2.heap.size, 0, none⟩) 1 1) rfl ?c21 ?c31 ?c41 ?c51 ?c61))
 case c11 =>
  have h := ((HF.out.nob (Keeps.alloc Nob w2 (.cells #[.int .i64 id] 3))).get (i := 0) rfl : Own _ _ 3 1 _ _ _)
  rw [List.length_map] at h; exact h
 case c21 => exact (SlG.lit1 _ _ _ _ (by simp)).mono (λ _ _ _ => trivial)
 case c31 => intro u hu; simp at hu; subst hu; rfl
 case c41 => unfold maxLen; omega
 case c51 => omega
 case c61 =>
 intro v' b1 ho hk6 _
 obtain ⟨mA2, mc2, ev⟩ := ho.form
 subst ev
 have hok : Keeps (λ b => (Value.slice mA met.length mc).ownBlock = some b) (w2.alloc (.cells #[.int .i64 id] 3)) b1 := hk6
 replace HF : Hid (Fo w b1 [rowOb 3 1 (.slice mA2 (met.length + 1) mc2) ((met ++ [id]).map iV).length ((met ++ [id]).map iV), rowOb 119 2 (.slice oA l.length oc) l.length (enCells l), enOb S l, o3, o4]) := by
  have h := (HF.out.nob (Keeps.alloc Nob _ (.cells #[.int .i64 id] 3))).app (i := 0) (v := .slice mA met.length mc) (v' := .slice mA2 (met.length + 1) mc2) (m := met.length + 1) (ys := met.map iV ++ [.int .i64 id]) rfl hok (ho.mono (λ b _ hb => hb.imp (λ h => h) (λ h => ⟨by simpa using h.1, h.2⟩)))
  have e1 : (met ++ [id]).map iV = met.map iV ++ [.int .i64 id] := by rw [List.map_append]; rfl
  show Fo _ _ _
  rw [e1, List.length_append, List.length_map]
  exact h
 clear ho hk6 hok hi0 hz0 hz1 hz2 FT FH
 obtain ⟨i, g, o, cc, hid, hi, hl6, hL, X1, k1, X3, k3, X4, k4, X5, k5, n0, n1, n2, n3, n4, n5, hnd⟩ := DocW.mono_ H0.out HG.out
 have ca : w.cell? ⟨q, 1, none⟩ = some (.slice (some ⟨g, o, none⟩) A.sl.length cc) := by have h := H0.out.blk.cell 1; rw [hL] at h; exact h
 have r0 := HF.out.kept.cell n0 (λ h => h)
 have r1 := HF.out.kept.cell n1 (λ h => h)
 have r2 := HF.out.kept.cell n2 (λ h => h)
 have r3 := HF.out.kept.cell n3 (λ h => h)
 have r4 := HF.out.kept.cell n4 (λ h => h)
 have r5 := HF.out.kept.cell n5 (λ h => h)
 have r6 := HF.out.kept.cell ca (λ h => h)
 have hwr : IntKind.i64.wrap (id - 1) = (i : Int) := by rw [IntKind.wrap_i64]; omega
 have hpos : 0 <= (i : Int) /\ (i : Int) < (A.sl.length : Int) := by omega
 have HND := Hd hnd
 clear n0 n1 n2 n3 n4 n5 ca hnd hid hL HD
 by_cases hl : 0 < s.nd.lvl
 ·have hle : ¬ s.nd.lvl <= 0 := by omega
  replace HR : Hid ((if s.nd.kids.length = 0 \/ leaf = true then l.map En.e else mapM A (A.sl.length - met.length) (s.nd.kids.getD 0 0) (met ++ [id]) leaf (l.map En.e)) = R) := by
   have h := HR.out; rw [if_pos hl, decide_eq_false hle, Bool.or_false] at h; exact h
  by_cases hk0 : s.nd.kids.length = 0
  ·have hz : ((s.nd.kids.length : Int) == 0) = true := by simpa using hk0
   obtain rfl : l.map En.e = R := by have h := HR.out; rw [if_pos (.inl hk0)] at h; exact h
   clear hk0 HR
   rcases leaf with _ | _
   ·as_aux_lemma =>
    clear HG HND H0 HM2
    go_wp2
    clear r0 r1 r2 r3 r4 r5 r6 hwr hpos
    go_ret
    exact ⟨_, rfl, map_done (HF.out.nob (Keeps.alloc _ _ _)) HS.out, (HF.out.nob (Keeps.alloc _ _ _)).kept⟩
   ·as_aux_lemma =>
    clear HG HND H0 HM2
    go_wp2
    clear r0 r1 r2 r3 r4 r5 r6 hwr hpos
    go_ret
    exact ⟨_, rfl, map_done (HF.out.nob (Keeps.alloc _ _ _)) HS.out, (HF.out.nob (Keeps.alloc _ _ _)).kept⟩
  ·have hz : ((s.nd.kids.length : Int) == 0) = false := by simpa using hk0
   rcases leaf with _ | _
   rotate_left
   ·as_aux_lemma =>
    obtain rfl : l.map En.e = R := by have h := HR.out; rw [if_pos (.inr rfl)] at h; exact h
    clear hk0 HR
    clear HG HND H0 HM2
    go_wp2
    clear r0 r1 r2 r3 r4 r5 r6 hwr hpos
    go_ret
    exact ⟨_, rfl, map_done (HF.out.nob (Keeps.alloc _ _ _)) HS.out, (HF.out.nob (Keeps.alloc _ _ _)).kept⟩
   ·as_aux_lemma =>
    replace HR : Hid (mapM A (A.sl.length - met.length) (s.nd.kids.getD 0 0) (met ++ [id]) false (l.map En.e) = R) := by
     have h := HR.out; rw [if_neg (by intro h; rcases h with h | h; exact hk0 h; cases h)] at h; exact h
    obtain ⟨kd, hkd⟩ : ∃ kd, s.nd.kids[0]? = some kd := ⟨_, List.getElem?_eq_getElem (by omega)⟩
    have hgd : s.nd.kids.getD 0 0 = kd := by rw [List.getD_eq_getElem?_getD, hkd]; rfl
    rw [hgd] at HR
    obtain ⟨ka, ek, _, hc⟩ := SlR.cells (HND.out.2.kids) (i := 0) (by rw [List.length_map]; omega)
    subst ek
    have r7 := HF.out.kept.cell (hc 0 _ (by rw [List.getElem?_map, hkd]; rfl)) (λ h => h)
    have hkp : 0 < s.nd.kids.length := by omega
    unfold iV at r7
    have er : ka.add 0 = ka := by cases ka; rfl
    rw [er] at r7
    have r8 : ∀ o, (b1.alloc o).cell? ka = some (.int .i64 kd) := λ o => (Keeps.alloc Nob _ _).cell r7 (λ h => h)
    clear er
    clear hc hkd hgd hk0 HG HND H0
    go_wp2
    clear r0 r1 r2 r3 r4 r5 r6 r7 r8 hwr hpos
    have e0 : A.sl.length + 1 - (met ++ [id]).length = A.sl.length - met.length := by rw [List.length_append, List.length_singleton]; omega
    go_roundw
    case rel => exact ⟨met ++ [id], false, kd, l, S, _, _, rfl, rfl, HM2.out, by rw [e0]; exact HR.out, HS.out, HF.out.nob (Keeps.alloc _ _ _)⟩
    case measure => simp [lenE]; omega
 have hle : s.nd.lvl <= 0 := by omega
 replace HR : Hid (mapM A (A.sl.length - met.length) s.nd.right (met ++ [id]) true (l.map En.e ++ ents s.nd) = R) := by
  have h := HR.out; rw [if_neg hl, decide_eq_true hle, Bool.or_true] at h; exact h
 have hlk : l.length + s.nd.keys.length <= 4000000000000 := by
  have h := HBD.out
  have h2 := mapM_len A (A.sl.length - met.length) s.nd.right (met ++ [id]) true (l.map En.e ++ ents s.nd)
  rw [HR.out, List.length_append, List.length_map, ents_len] at h2
  omega
 rcases leaf with _ | _
 ·as_aux_lemma =>
  go_wp2
  refine code_at (λ w3 hw => ?_)
  obtain ⟨P9, hP⟩ : ∃ N, b1.heap.size = N := ⟨_, rfl⟩
  rw [hP]
  have hk3 : Keeps Nob b1 w3 := by rw [hw]; exact Keeps.alloc _ _ _
  have hb3 : Blk w3 P9 35 #[.int .i64 s.nd.lvl, .slice X1 s.nd.high.length k1, .int .i64 s.nd.right, .slice X3 s.nd.keys.length k3, .slice X4 s.nd.vals.length k4, .slice X5 s.nd.kids.length k5] := by rw [hw, <- hP]; exact Blk.new _ _ _
  clear hw r0 r1 r2 r3 r4 r5 r6 hwr hpos
  replace HF : Hid (Fo w w3 [rowOb 3 1 (.slice mA2 (met.length + 1) mc2) ((met ++ [id]).map iV).length ((met ++ [id]).map iV), rowOb 119 2 (.slice oA l.length oc) l.length (enCells l), enOb S l, muBlk P9 35 #[.int .i64 s.nd.lvl, .slice X1 s.nd.high.length k1, .int .i64 s.nd.right, .slice X3 s.nd.keys.length k3, .slice X4 s.nd.vals.length k4, .slice X5 s.nd.kids.length k5], noOb]) := by
   have h := (HF.out.blkPut (i := 3) rfl hk3 hb3 (Nat.le_of_eq hP)).drop (i := 4) rfl
   exact h
  clear hP hk3 hb3
  have hkz : s.nd.keys.length <= 9223372036854775807 := by omega
  go_loopw [3, 10] (λ outv iv wz => ∃ (j : Nat) (l2 : List En) (S2 : Nat -> Prop) (o4 : Ob), j <= s.nd.keys.length /\ iv = .int .i64 j /\ l2.map En.e = l.map En.e ++ (ents s.nd).take j /\ (∀ x, S2 x -> w.heap.size <= x) /\ Fo w wz [rowOb 3 1 (.slice mA2 (met.length + 1) mc2) ((met ++ [id]).map iV).length ((met ++ [id]).map iV), rowOb 119 2 outv l2.length (enCells l2), enOb S2 l2, muBlk P9 35 #[.int .i64 s.nd.lvl, .slice X1 s.nd.high.length k1, .int .i64 s.nd.right, .slice X3 s.nd.keys.length k3, .slice X4 s.nd.vals.length k4, .slice X5 s.nd.kids.length k5], o4]) (λ _ iv _ => s.nd.keys.length - (intOf iv).toNat)
  case atStart => exact ⟨0, l, S, noOb, Nat.zero_le _, rfl, by simp, HS.out, HF.out⟩
  clear HF HS
  obtain ⟨j, l2, S2, o4, hj, rfl, hl2, hS2, hF⟩ := hrel
  have HF := Hd hF
  have HL2 := Hd hl2
  have HS2 := Hd hS2
  obtain ⟨oA2, oc2, eo⟩ := (hF.get (i := 1) rfl : Own wr _ _ 2 _ _ _).form
  subst eo
  have hll2 : l2.length = l.length + j := by
   have h := congrArg List.length hl2
   rw [List.length_map, List.length_append, List.length_map, List.length_take, ents_len] at h
   omega
  have hl4 : l2.length + 1 <= 4000000000001 := by omega
  have HB9 : Hid (Blk wr P9 35 #[.int .i64 s.nd.lvl, .slice X1 s.nd.high.length k1, .int .i64 s.nd.right, .slice X3 s.nd.keys.length k3, .slice X4 s.nd.vals.length k4, .slice X5 s.nd.kids.length k5]) := hF.get (i := 3) rfl
  have q2 := HB9.out.cell 2
  have q3 := HB9.out.cell 3
  have q4 := HB9.out.cell 4
  have l9 := HB9.out.lt
  clear hF hl2 hS2
  rcases Nat.lt_or_ge j s.nd.keys.length with hlt | hlt
  rotate_left
  ·as_aux_lemma =>
   obtain rfl : j = s.nd.keys.length := by omega
   replace HR : Hid (mapM A (A.sl.length - met.length) s.nd.right (met ++ [id]) true (l2.map En.e) = R) := by
    have h := HR.out
    have h2 := HL2.out
    rw [List.take_of_length_le (by rw [ents_len]; exact Nat.le_refl _)] at h2
    rw [<- h2] at h
    exact h
   clear hll2 HL2 HND H0 HG
   go_wp2
   clear q2 q3 q4 l9
   have e0 : A.sl.length + 1 - (met ++ [id]).length = A.sl.length - met.length := by rw [List.length_append, List.length_singleton]; omega
   go_roundw
   case rel => exact ⟨met ++ [id], true, s.nd.right, l2, S2, _, _, rfl, rfl, HM2.out, by rw [e0]; exact HR.out, HS2.out, HF.out⟩
   case measure => simp [lenE]; omega
  have HLL := Hd hll2
  clear hll2
  obtain ⟨y, hy⟩ : ∃ y, s.nd.keys[j]? = some y := ⟨_, List.getElem?_eq_getElem hlt⟩
  have HTK : Hid ((ents s.nd).take (j + 1) = (ents s.nd).take j ++ [(y, s.nd.vals.getD j [])]) := by show _ = _; rw [List.take_add_one, ents_at hy]; rfl
  have HSY : Hid (Sm 0 1 y.length) := HSS.out.2.1.2 y (List.mem_of_getElem? hy)
  obtain ⟨ka, ek, _, hc⟩ := Txts.cells HND.out.2.keys (i := j) hlt
  obtain ⟨kv, hkc, hkb⟩ := hc j y hy
  obtain ⟨KA, kc, ekv, _, _⟩ := hkb.form
  subst ekv
  have HKB := Hd (hkb.keeps HF.out.kept (λ _ _ _ h => h))
  have s0 : wr.cell? ⟨P9, 3, none⟩ = some (.slice (some ka) s.nd.keys.length k3) := by rw [<- ek]; exact q3
  have s1 := HF.out.kept.cell hkc (λ h => h)
  have hls : ∀ o, (wr.alloc o).cell? (ka.add j) = some (.slice KA y.length kc) := λ o => (Keeps.alloc Nob _ _).cell s1 (λ h => h)
  clear hc hkc hkb q3 ek
  obtain ⟨j0, hi0, hz0, hz1, hz2⟩ := info_parts Tryz.inf_u8
  go_wp2_with (at_builtin; refine list_at (λ wd hwd => ?_); refine wpList_app rfl (.tmp 74) (.tmp 80) 23 rfl Tryz.underlying23 hi0 hz0 hz1 hz2 rfl (by decide) (v := .slice (some ⟨wr.heap.size, 0, none⟩) 0 0) (n := 0) (m := y.length) (S := λ x => x = wr.heap.size) (T := λ _ => True) (xs := []) (news := y.map bV) rfl ?c1 (y := .slice KA y.length kc) rfl ?c2 ?c3 ?c4 ?c5 ?c6)
  case c1 =>
   try rw [hwd]
   exact Own.vacant (by simp) rfl
  case c2 =>
   try rw [hwd]
   exact (HKB.out.keeps (Keeps.alloc Nob _ _) (λ _ _ _ h => h)).g.mono (λ _ _ _ => trivial)
  case c3 => first | exact bV_one y | (intro a ha; exact bV_one y _ (List.mem_map.2 ⟨a, ha, rfl⟩))
  case c4 => have := HSY.out; unfold Sm at this; unfold maxLen; omega
  case c5 => have := HSY.out; unfold Sm at this; omega
  case c6 =>
  intro v' w4 hown hk4 _
  try rw [<- hwd] at hown
  try rw [<- hwd] at hk4
  try simp only [Nat.zero_add, List.nil_append] at hown
  obtain ⟨B1, d1, hf⟩ := hown.form
  subst hf
  have hkd : Keeps Nob wr wd := by rw [hwd]; exact Keeps.alloc _ _ _
  have hsd : wd.heap.size = wr.heap.size + 1 := by rw [hwd]; simp
  have hk14 : Keeps Nob wr w4 := hkd.trans hk4 (λ b hb e => by simp [Value.ownBlock] at e; omega)
  have hkey : Byts w4 (λ x => S2 x \/ Fresh wr w4 x) (.slice B1 y.length d1) y := (hown.r : Byts w4 _ _ _).mono (λ x hx h => .inr (by
   rcases h with h | h
   ·simp [Value.ownBlock] at h; exact ⟨by omega, hx⟩
   ·have h1 := h.1; exact ⟨by omega, hx⟩))
  have hold : (enOb S2 l2).P wr := HF.out.get (i := 2) rfl
  have hen : (enOb (λ x => S2 x \/ Fresh wr w4 x) (l2 ++ [⟨.slice B1 y.length d1, .slice none 0 0, y, []⟩])).P w4 := λ x hx => by
   rcases List.mem_append.1 hx with hx | hx
   ·exact ⟨((hold x hx).1.keeps hk14 (λ _ _ _ h => h)).mono (λ _ _ h => .inl h), ((hold x hx).2.keeps hk14 (λ _ _ _ h => h)).mono (λ _ _ h => .inl h)⟩
   ·simp at hx; subst hx
    exact ⟨hkey, SlR.nil _ _ _ _ (by decide)⟩
  have HF4 : Hid (Fo w w4 [rowOb 3 1 (.slice mA2 (met.length + 1) mc2) ((met ++ [id]).map iV).length ((met ++ [id]).map iV), rowOb 119 2 (.slice oA2 l2.length oc2) l2.length (enCells l2), enOb (λ x => S2 x \/ Fresh wr w4 x) (l2 ++ [⟨.slice B1 y.length d1, .slice none 0 0, y, []⟩]), muBlk P9 35 #[.int .i64 s.nd.lvl, .slice X1 s.nd.high.length k1, .int .i64 s.nd.right, .slice X3 s.nd.keys.length k3, .slice X4 s.nd.vals.length k4, .slice X5 s.nd.kids.length k5], o4]) := HF.out.grow (i := 2) rfl hk14 hen (λ x hx => hx) (λ _ h => h)
  have HS4 : Hid (∀ x, (S2 x \/ Fresh wr w4 x) -> w.heap.size <= x) := λ x hx => by
   rcases hx with h | h
   ·exact HS2.out x h
   ·exact Nat.le_trans HF.out.kept.size h.1
  have p2 := hk14.cell q2 (λ h => h)
  have p4 := hk14.cell q4 (λ h => h)
  have l94 : P9 < w4.heap.size := Nat.lt_of_lt_of_le l9 hk14.size
  clear hown hk4 hkd hsd hk14 hkey hold hen hwd s0 s1 hls q2 q4 l9 HKB HSY HB9 HF HS2
  by_cases hv : j < s.nd.vals.length
  ·obtain ⟨val, hval⟩ : ∃ val, s.nd.vals[j]? = some val := ⟨_, List.getElem?_eq_getElem hv⟩
   have HV0 : Hid (s.nd.vals.getD j [] = val) := by show _ = _; rw [List.getD_eq_getElem?_getD, hval]; rfl
   have HSV : Hid (Sm 0 1 val.length) := HSS.out.2.2.1.2 val (List.mem_of_getElem? hval)
   obtain ⟨va, ek, _, hc⟩ := Txts.cells HND.out.2.vals (i := j) hv
   obtain ⟨vv, hkc, hkb⟩ := hc j val hval
   obtain ⟨VA, vc, ekv, _, _⟩ := hkb.form
   subst ekv
   clear hc hval
   go_wp2
   refine code_at (λ w5 hw => ?_)
   obtain ⟨P11, hP⟩ : ∃ N, w4.heap.size = N := ⟨_, rfl⟩
   rw [hP]
   have hk5 : Keeps Nob w4 w5 := by rw [hw]; exact Keeps.alloc _ _ _
   have hb5 : Blk w5 P11 119 #[.slice B1 y.length d1, .slice none 0 0] := by rw [hw, <- hP]; exact Blk.new _ _ _
   have HF5 := Hd (HF4.out.blkPut (i := 4) rfl hk5 hb5 (Nat.le_of_eq hP))
   clear hw hP
   have s0 : w5.cell? ⟨P11, 1, none⟩ = some (.slice none 0 0) := hb5.cell 1
   have s1 : w5.cell? ⟨P9, 4, none⟩ = some (.slice (some va) s.nd.vals.length k4) := by rw [<- ek]; exact hk5.cell p4 (λ h => h)
   have s2 : w5.cell? (va.add j) = some (.slice VA val.length vc) := HF5.out.kept.cell hkc (λ h => h)
   refine rC_ [0, 1, 2, 3, 4, 5, 6, 7, 8, 9, 10] 10 (λ W => W.cell? ⟨P11, 1, none⟩ = some (.slice none 0 0) /\ W.cell? ⟨P9, 4, none⟩ = some (.slice (some va) s.nd.vals.length k4) /\ W.cell? (va.add j) = some (.slice VA val.length vc)) ⟨s0, s1, s2⟩ ?_
   refine canon_at (λ v0 hw => ?_)
   have hkv : Keeps Nob w5 v0 := by rw [hw]; exact Keeps.drew _ _
   have HC : Hid (v0.cell? ⟨P11, 1, none⟩ = some (.slice none 0 0) /\ v0.cell? ⟨P9, 4, none⟩ = some (.slice (some va) s.nd.vals.length k4) /\ v0.cell? (va.add j) = some (.slice VA val.length vc)) := ⟨hkv.cell s0 (λ h => h), hkv.cell s1 (λ h => h), hkv.cell s2 (λ h => h)⟩
   replace HF5 := Hd (HF5.out.nob hkv)
   have HVB := Hd (hkb.keeps HF5.out.kept (λ _ _ _ h => h))
   clear hw hkv hk5 hb5 s0 s1 s2 hkc hkb ek
   have hpk : 0 <= (j : Int) /\ (j : Int) < (s.nd.vals.length : Int) := by omega
   iterate 8
    refine cR_ (v := ?_) rfl ?_ ?_
    rotate_left
    ·intro W hW
     try (obtain ⟨g1, g2, g3⟩ : _ /\ _ /\ _ := hW)
     go_simp
     try simp only [if_pos hpk, Int.toNat_natCast]
     try rfl
    simp only [Act.put, sa_, sb_, sc_]
   refine cA_ rfl ?_
   go_wp2_with (at_builtin; refine wpList_app rfl (.tmp 90) (.tmp 96) 23 rfl Tryz.underlying23 hi0 hz0 hz1 hz2 rfl (by decide) (v := .slice none 0 0) (n := 0) (m := val.length) (S := λ _ => False) (T := λ _ => True) (xs := []) (news := val.map bV) rfl (Own.nil _ _ _ _) (y := .slice VA val.length vc) rfl ?e2 ?e3 ?e4 ?e5 ?e6)
   case e2 => exact HVB.out.g.mono (λ _ _ _ => trivial)
   case e3 => first | exact bV_one val | (intro a ha; exact bV_one val _ (List.mem_map.2 ⟨a, ha, rfl⟩))
   case e4 => have := HSV.out; unfold Sm at this; unfold maxLen; omega
   case e5 => have := HSV.out; unfold Sm at this; omega
   case e6 =>
   intro v' w6 hown hk6 _
   try simp only [Nat.zero_add, List.nil_append] at hown
   obtain ⟨B2, d2, hf⟩ := hown.form
   subst hf
   have hk6 : Keeps Nob v0 w6 := hk6.mono (λ b _ hb => by cases hb)
   have hva : Byts w6 (λ x => (S2 x \/ Fresh wr w4 x) \/ Fresh v0 w6 x) (.slice B2 val.length d2) val := (hown.r : Byts w6 _ _ _).mono (λ x hx h => .inr (by
    rcases h with h | h
    ·cases h
    ·exact h))
   have hold : (enOb (λ x => S2 x \/ Fresh wr w4 x) (l2 ++ [⟨.slice B1 y.length d1, .slice none 0 0, y, []⟩])).P v0 := HF5.out.get (i := 2) rfl
   have hen : (enOb (λ x => (S2 x \/ Fresh wr w4 x) \/ Fresh v0 w6 x) (l2 ++ [⟨.slice B1 y.length d1, .slice B2 val.length d2, y, val⟩])).P w6 := λ x hx => by
    rcases List.mem_append.1 hx with hx | hx
    ·have h := hold x (List.mem_append.2 (.inl hx))
     exact ⟨(h.1.keeps hk6 (λ _ _ _ h => h)).mono (λ _ _ h => .inl h), (h.2.keeps hk6 (λ _ _ _ h => h)).mono (λ _ _ h => .inl h)⟩
    ·simp at hx; subst hx
     have h := hold _ (List.mem_append.2 (.inr (List.mem_singleton.2 rfl)))
     exact ⟨(h.1.keeps hk6 (λ _ _ _ h => h)).mono (λ _ _ h => .inl h), hva⟩
   have HF6 := Hd (HF5.out.grow (i := 2) rfl hk6 hen (λ x hx => hx) (λ _ h => h))
   have HS6 : Hid (∀ x, ((S2 x \/ Fresh wr w4 x) \/ Fresh v0 w6 x) -> w.heap.size <= x) := λ x hx => by
    rcases hx with h | h
    ·exact HS4.out x h
    ·exact Nat.le_trans HF5.out.kept.size h.1
   refine ⟨.inr ⟨hk6.cell HC.out.1 (λ h => h), hk6.cell HC.out.2.1 (λ h => h), hk6.cell HC.out.2.2 (λ h => h)⟩, ?_⟩
   clear hown hk6 hva hold hen HC HVB HF5 HS4 HF4 hi0 hz0 hz1 hz2 p2 p4 l94 hpk
   iterate 1
    refine cR_ (v := ?_) rfl ?_ ?_
    rotate_left
    ·intro W hW
     try (obtain ⟨g1, g2, g3⟩ : _ /\ _ /\ _ := hW)
     go_simp
     try rfl
    simp only [Act.put, sa_, sb_, sc_]
   refine cA_ rfl ?_
   have hb6 : Blk w6 P11 119 #[.slice B1 y.length d1, .slice none 0 0] := HF6.out.get (i := 4) rfl
   have z1 := hb6.cell 1
   have f1 := hb6.frozen 1
   go_wp2
   clear z1 f1
   refine canon_at' (λ w7 hw => ?_)
   have hk7 : Keeps (λ x => x = P11) w6 w7 := by rw [hw]; exact Keeps.setCell _ (M := λ x => x = P11) rfl _
   have hb7 : Blk w7 P11 119 #[.slice B1 y.length d1, .slice B2 val.length d2] := by rw [hw]; exact hb6.set_ 1 _
   replace HF6 := Hd (HF6.out.blkSet (i := 4) rfl hk7 hb7)
   refine ⟨.inl (by rfl), ?_⟩
   refine wpCanon_nil ?_
   have x0 := hb7.cell 0
   have x1 := hb7.cell 1
   have lx := hb7.lt
   clear hw hk7 hb7 hb6
   obtain ⟨j1, hj1, hy0, hy1, hy2⟩ := info_parts Tryz.inf_entry
   go_wp2_with (at_builtin; refine list_at (λ wd hwd => ?_); refine wpList_app rfl (.tmp 99) (.tmp 101) 60 rfl Tryz.underlying60 hj1 hy0 hy1 hy2 rfl (by decide) (v := .slice oA2 l2.length oc2) (n := l2.length) (m := 1) (S := λ x => (Value.slice oA2 l2.length oc2).ownBlock = some x) (T := λ _ => True) (xs := enCells l2) (news := [.slice B1 y.length d1, .slice B2 val.length d2]) rfl ?d1 (y := .slice (some ⟨w7.heap.size, 0, none⟩) 1 1) rfl ?d2 ?d3 ?d4 ?d5 ?d6)
   case d1 =>
    try rw [hwd]
    exact ((HF6.out.nob (Keeps.alloc Nob _ _)).get (i := 1) rfl)
   case d2 =>
    try rw [hwd]
    exact (SlG.lit _ _ [.slice B1 y.length d1, .slice B2 val.length d2] 2 1 _ (by simp) rfl (by decide)).mono (λ _ _ _ => trivial)
   case d3 => intro u hu; simp only [List.mem_cons, List.not_mem_nil, or_false] at hu; rcases hu with h | h <;> subst h <;> rfl
   case d4 => unfold maxLen; omega
   case d5 => omega
   case d6 =>
   intro v' w8 ho hk8 _
   obtain ⟨Av, cv, ev⟩ := ho.form
   subst ev
   try rw [<- hwd] at ho
   try rw [<- hwd] at hk8
   have hkd : Keeps Nob w7 wd := by rw [hwd]; exact Keeps.alloc _ _ _
   have HF8 := Hd ((HF6.out.nob hkd).app (i := 1) rfl hk8 (ho.mono (λ b _ hb => hb.imp (λ h => h) (λ h => ⟨by first | exact h.1 | (rw [hwd]; simpa using h.1), h.2⟩))))
   clear ho hk8 hkd hwd x0 x1 lx HF6
   go_wp2
   go_roundw
   case rel =>
    refine ⟨j + 1, l2 ++ [⟨.slice B1 y.length d1, .slice B2 val.length d2, y, val⟩], _, muBlk P11 119 #[.slice B1 y.length d1, .slice B2 val.length d2], by omega, by go_num, ?_, HS6.out, ?_⟩
    ·rw [HTK.out, HV0.out, List.map_append, HL2.out, List.append_assoc]; rfl
    ·rw [List.length_append, List.length_singleton, enCells_snoc]; exact HF8.out
   case measure => simp [intOf]; omega
  ·have HV0 : Hid (s.nd.vals.getD j [] = []) := by show _ = _; rw [List.getD_eq_getElem?_getD, List.getElem?_eq_none (by omega)]; rfl
   obtain ⟨j1, hj1, hy0, hy1, hy2⟩ := info_parts Tryz.inf_entry
   clear hi0 hz0 hz1 hz2
   go_wp2_with (at_builtin; refine list_at (λ wd hwd => ?_); refine wpList_app rfl (.tmp 99) (.tmp 101) 60 rfl Tryz.underlying60 hj1 hy0 hy1 hy2 rfl (by decide) (v := .slice oA2 l2.length oc2) (n := l2.length) (m := 1) (S := λ x => (Value.slice oA2 l2.length oc2).ownBlock = some x) (T := λ _ => True) (xs := enCells l2) (news := [.slice B1 y.length d1, .slice none 0 0]) rfl ?d1 (y := .slice (some ⟨w4.heap.size + 1, 0, none⟩) 1 1) rfl ?d2 ?d3 ?d4 ?d5 ?d6)
   case d1 =>
    try rw [hwd]
    exact ((HF4.out.nob ((Keeps.alloc Nob _ _).alloc' _)).get (i := 1) rfl)
   case d2 =>
    try rw [hwd]
    exact (SlG.lit _ _ [.slice B1 y.length d1, .slice none 0 0] 2 1 _ (by simp) rfl (by decide)).mono (λ _ _ _ => trivial)
   case d3 => intro u hu; simp only [List.mem_cons, List.not_mem_nil, or_false] at hu; rcases hu with h | h <;> subst h <;> rfl
   case d4 => unfold maxLen; omega
   case d5 => omega
   case d6 =>
   intro v' w6 ho hk6 _
   obtain ⟨Av, cv, ev⟩ := ho.form
   subst ev
   try rw [<- hwd] at ho
   try rw [<- hwd] at hk6
   have hkd : Keeps Nob w4 wd := by rw [hwd]; exact (Keeps.alloc _ _ _).alloc' _
   have HF6 := Hd ((HF4.out.nob hkd).app (i := 1) rfl hk6 (ho.mono (λ b _ hb => hb.imp (λ h => h) (λ h => ⟨by first | exact h.1 | (rw [hwd]; simpa using h.1), h.2⟩))))
   clear ho hk6 hkd hwd p2 p4 l94 HF4
   go_wp2
   go_roundw
   case rel =>
    refine ⟨j + 1, l2 ++ [⟨.slice B1 y.length d1, .slice none 0 0, y, []⟩], _, o4, by omega, by go_num, ?_, HS4.out, ?_⟩
    ·rw [HTK.out, HV0.out, List.map_append, HL2.out, List.append_assoc]; rfl
    ·rw [List.length_append, List.length_singleton, enCells_snoc]; exact HF6.out
   case measure => simp [intOf]; omega
 ·as_aux_lemma =>
  go_wp2
  refine code_at (λ w3 hw => ?_)
  obtain ⟨P9, hP⟩ : ∃ N, b1.heap.size = N := ⟨_, rfl⟩
  rw [hP]
  have hk3 : Keeps Nob b1 w3 := by rw [hw]; exact Keeps.alloc _ _ _
  have hb3 : Blk w3 P9 35 #[.int .i64 s.nd.lvl, .slice X1 s.nd.high.length k1, .int .i64 s.nd.right, .slice X3 s.nd.keys.length k3, .slice X4 s.nd.vals.length k4, .slice X5 s.nd.kids.length k5] := by rw [hw, <- hP]; exact Blk.new _ _ _
  clear hw r0 r1 r2 r3 r4 r5 r6 hwr hpos
  replace HF : Hid (Fo w w3 [rowOb 3 1 (.slice mA2 (met.length + 1) mc2) ((met ++ [id]).map iV).length ((met ++ [id]).map iV), rowOb 119 2 (.slice oA l.length oc) l.length (enCells l), enOb S l, muBlk P9 35 #[.int .i64 s.nd.lvl, .slice X1 s.nd.high.length k1, .int .i64 s.nd.right, .slice X3 s.nd.keys.length k3, .slice X4 s.nd.vals.length k4, .slice X5 s.nd.kids.length k5], noOb]) := by
   have h := (HF.out.blkPut (i := 3) rfl hk3 hb3 (Nat.le_of_eq hP)).drop (i := 4) rfl
   exact h
  clear hP hk3 hb3
  have hkz : s.nd.keys.length <= 9223372036854775807 := by omega
  go_loopw [3, 10] (λ outv iv wz => ∃ (j : Nat) (l2 : List En) (S2 : Nat -> Prop) (o4 : Ob), j <= s.nd.keys.length /\ iv = .int .i64 j /\ l2.map En.e = l.map En.e ++ (ents s.nd).take j /\ (∀ x, S2 x -> w.heap.size <= x) /\ Fo w wz [rowOb 3 1 (.slice mA2 (met.length + 1) mc2) ((met ++ [id]).map iV).length ((met ++ [id]).map iV), rowOb 119 2 outv l2.length (enCells l2), enOb S2 l2, muBlk P9 35 #[.int .i64 s.nd.lvl, .slice X1 s.nd.high.length k1, .int .i64 s.nd.right, .slice X3 s.nd.keys.length k3, .slice X4 s.nd.vals.length k4, .slice X5 s.nd.kids.length k5], o4]) (λ _ iv _ => s.nd.keys.length - (intOf iv).toNat)
  case atStart => exact ⟨0, l, S, noOb, Nat.zero_le _, rfl, by simp, HS.out, HF.out⟩
  clear HF HS
  obtain ⟨j, l2, S2, o4, hj, rfl, hl2, hS2, hF⟩ := hrel
  have HF := Hd hF
  have HL2 := Hd hl2
  have HS2 := Hd hS2
  obtain ⟨oA2, oc2, eo⟩ := (hF.get (i := 1) rfl : Own wr _ _ 2 _ _ _).form
  subst eo
  have hll2 : l2.length = l.length + j := by
   have h := congrArg List.length hl2
   rw [List.length_map, List.length_append, List.length_map, List.length_take, ents_len] at h
   omega
  have hl4 : l2.length + 1 <= 4000000000001 := by omega
  have HB9 : Hid (Blk wr P9 35 #[.int .i64 s.nd.lvl, .slice X1 s.nd.high.length k1, .int .i64 s.nd.right, .slice X3 s.nd.keys.length k3, .slice X4 s.nd.vals.length k4, .slice X5 s.nd.kids.length k5]) := hF.get (i := 3) rfl
  have q2 := HB9.out.cell 2
  have q3 := HB9.out.cell 3
  have q4 := HB9.out.cell 4
  have l9 := HB9.out.lt
  clear hF hl2 hS2
  rcases Nat.lt_or_ge j s.nd.keys.length with hlt | hlt
  rotate_left
  ·as_aux_lemma =>
   obtain rfl : j = s.nd.keys.length := by omega
   replace HR : Hid (mapM A (A.sl.length - met.length) s.nd.right (met ++ [id]) true (l2.map En.e) = R) := by
    have h := HR.out
    have h2 := HL2.out
    rw [List.take_of_length_le (by rw [ents_len]; exact Nat.le_refl _)] at h2
    rw [<- h2] at h
    exact h
   clear hll2 HL2 HND H0 HG
   go_wp2
   clear q2 q3 q4 l9
   have e0 : A.sl.length + 1 - (met ++ [id]).length = A.sl.length - met.length := by rw [List.length_append, List.length_singleton]; omega
   go_roundw
   case rel => exact ⟨met ++ [id], true, s.nd.right, l2, S2, _, _, rfl, rfl, HM2.out, by rw [e0]; exact HR.out, HS2.out, HF.out⟩
   case measure => simp [lenE]; omega
  have HLL := Hd hll2
  clear hll2
  obtain ⟨y, hy⟩ : ∃ y, s.nd.keys[j]? = some y := ⟨_, List.getElem?_eq_getElem hlt⟩
  have HTK : Hid ((ents s.nd).take (j + 1) = (ents s.nd).take j ++ [(y, s.nd.vals.getD j [])]) := by show _ = _; rw [List.take_add_one, ents_at hy]; rfl
  have HSY : Hid (Sm 0 1 y.length) := HSS.out.2.1.2 y (List.mem_of_getElem? hy)
  obtain ⟨ka, ek, _, hc⟩ := Txts.cells HND.out.2.keys (i := j) hlt
  obtain ⟨kv, hkc, hkb⟩ := hc j y hy
  obtain ⟨KA, kc, ekv, _, _⟩ := hkb.form
  subst ekv
  have HKB := Hd (hkb.keeps HF.out.kept (λ _ _ _ h => h))
  have s0 : wr.cell? ⟨P9, 3, none⟩ = some (.slice (some ka) s.nd.keys.length k3) := by rw [<- ek]; exact q3
  have s1 := HF.out.kept.cell hkc (λ h => h)
  have hls : ∀ o, (wr.alloc o).cell? (ka.add j) = some (.slice KA y.length kc) := λ o => (Keeps.alloc Nob _ _).cell s1 (λ h => h)
  clear hc hkc hkb q3 ek
  obtain ⟨j0, hi0, hz0, hz1, hz2⟩ := info_parts Tryz.inf_u8
  go_wp2_with (at_builtin; refine list_at (λ wd hwd => ?_); refine wpList_app rfl (.tmp 74) (.tmp 80) 23 rfl Tryz.underlying23 hi0 hz0 hz1 hz2 rfl (by decide) (v := .slice (some ⟨wr.heap.size, 0, none⟩) 0 0) (n := 0) (m := y.length) (S := λ x => x = wr.heap.size) (T := λ _ => True) (xs := []) (news := y.map bV) rfl ?c1 (y := .slice KA y.length kc) rfl ?c2 ?c3 ?c4 ?c5 ?c6)
  case c1 =>
   try rw [hwd]
   exact Own.vacant (by simp) rfl
  case c2 =>
   try rw [hwd]
   exact (HKB.out.keeps (Keeps.alloc Nob _ _) (λ _ _ _ h => h)).g.mono (λ _ _ _ => trivial)
  case c3 => first | exact bV_one y | (intro a ha; exact bV_one y _ (List.mem_map.2 ⟨a, ha, rfl⟩))
  case c4 => have := HSY.out; unfold Sm at this; unfold maxLen; omega
  case c5 => have := HSY.out; unfold Sm at this; omega
  case c6 =>
  intro v' w4 hown hk4 _
  try rw [<- hwd] at hown
  try rw [<- hwd] at hk4
  try simp only [Nat.zero_add, List.nil_append] at hown
  obtain ⟨B1, d1, hf⟩ := hown.form
  subst hf
  have hkd : Keeps Nob wr wd := by rw [hwd]; exact Keeps.alloc _ _ _
  have hsd : wd.heap.size = wr.heap.size + 1 := by rw [hwd]; simp
  have hk14 : Keeps Nob wr w4 := hkd.trans hk4 (λ b hb e => by simp [Value.ownBlock] at e; omega)
  have hkey : Byts w4 (λ x => S2 x \/ Fresh wr w4 x) (.slice B1 y.length d1) y := (hown.r : Byts w4 _ _ _).mono (λ x hx h => .inr (by
   rcases h with h | h
   ·simp [Value.ownBlock] at h; exact ⟨by omega, hx⟩
   ·have h1 := h.1; exact ⟨by omega, hx⟩))
  have hold : (enOb S2 l2).P wr := HF.out.get (i := 2) rfl
  have hen : (enOb (λ x => S2 x \/ Fresh wr w4 x) (l2 ++ [⟨.slice B1 y.length d1, .slice none 0 0, y, []⟩])).P w4 := λ x hx => by
   rcases List.mem_append.1 hx with hx | hx
   ·exact ⟨((hold x hx).1.keeps hk14 (λ _ _ _ h => h)).mono (λ _ _ h => .inl h), ((hold x hx).2.keeps hk14 (λ _ _ _ h => h)).mono (λ _ _ h => .inl h)⟩
   ·simp at hx; subst hx
    exact ⟨hkey, SlR.nil _ _ _ _ (by decide)⟩
  have HF4 : Hid (Fo w w4 [rowOb 3 1 (.slice mA2 (met.length + 1) mc2) ((met ++ [id]).map iV).length ((met ++ [id]).map iV), rowOb 119 2 (.slice oA2 l2.length oc2) l2.length (enCells l2), enOb (λ x => S2 x \/ Fresh wr w4 x) (l2 ++ [⟨.slice B1 y.length d1, .slice none 0 0, y, []⟩]), muBlk P9 35 #[.int .i64 s.nd.lvl, .slice X1 s.nd.high.length k1, .int .i64 s.nd.right, .slice X3 s.nd.keys.length k3, .slice X4 s.nd.vals.length k4, .slice X5 s.nd.kids.length k5], o4]) := HF.out.grow (i := 2) rfl hk14 hen (λ x hx => hx) (λ _ h => h)
  have HS4 : Hid (∀ x, (S2 x \/ Fresh wr w4 x) -> w.heap.size <= x) := λ x hx => by
   rcases hx with h | h
   ·exact HS2.out x h
   ·exact Nat.le_trans HF.out.kept.size h.1
  have p2 := hk14.cell q2 (λ h => h)
  have p4 := hk14.cell q4 (λ h => h)
  have l94 : P9 < w4.heap.size := Nat.lt_of_lt_of_le l9 hk14.size
  clear hown hk4 hkd hsd hk14 hkey hold hen hwd s0 s1 hls q2 q4 l9 HKB HSY HB9 HF HS2
  by_cases hv : j < s.nd.vals.length
  ·obtain ⟨val, hval⟩ : ∃ val, s.nd.vals[j]? = some val := ⟨_, List.getElem?_eq_getElem hv⟩
   have HV0 : Hid (s.nd.vals.getD j [] = val) := by show _ = _; rw [List.getD_eq_getElem?_getD, hval]; rfl
   have HSV : Hid (Sm 0 1 val.length) := HSS.out.2.2.1.2 val (List.mem_of_getElem? hval)
   obtain ⟨va, ek, _, hc⟩ := Txts.cells HND.out.2.vals (i := j) hv
   obtain ⟨vv, hkc, hkb⟩ := hc j val hval
   obtain ⟨VA, vc, ekv, _, _⟩ := hkb.form
   subst ekv
   clear hc hval
   go_wp2
   refine code_at (λ w5 hw => ?_)
   obtain ⟨P11, hP⟩ : ∃ N, w4.heap.size = N := ⟨_, rfl⟩
   rw [hP]
   have hk5 : Keeps Nob w4 w5 := by rw [hw]; exact Keeps.alloc _ _ _
   have hb5 : Blk w5 P11 119 #[.slice B1 y.length d1, .slice none 0 0] := by rw [hw, <- hP]; exact Blk.new _ _ _
   have HF5 := Hd (HF4.out.blkPut (i := 4) rfl hk5 hb5 (Nat.le_of_eq hP))
   clear hw hP
   have s0 : w5.cell? ⟨P11, 1, none⟩ = some (.slice none 0 0) := hb5.cell 1
   have s1 : w5.cell? ⟨P9, 4, none⟩ = some (.slice (some va) s.nd.vals.length k4) := by rw [<- ek]; exact hk5.cell p4 (λ h => h)
   have s2 : w5.cell? (va.add j) = some (.slice VA val.length vc) := HF5.out.kept.cell hkc (λ h => h)
   refine rC_ [0, 1, 2, 3, 4, 5, 6, 7, 8, 9, 10] 10 (λ W => W.cell? ⟨P11, 1, none⟩ = some (.slice none 0 0) /\ W.cell? ⟨P9, 4, none⟩ = some (.slice (some va) s.nd.vals.length k4) /\ W.cell? (va.add j) = some (.slice VA val.length vc)) ⟨s0, s1, s2⟩ ?_
   refine canon_at (λ v0 hw => ?_)
   have hkv : Keeps Nob w5 v0 := by rw [hw]; exact Keeps.drew _ _
   have HC : Hid (v0.cell? ⟨P11, 1, none⟩ = some (.slice none 0 0) /\ v0.cell? ⟨P9, 4, none⟩ = some (.slice (some va) s.nd.vals.length k4) /\ v0.cell? (va.add j) = some (.slice VA val.length vc)) := ⟨hkv.cell s0 (λ h => h), hkv.cell s1 (λ h => h), hkv.cell s2 (λ h => h)⟩
   replace HF5 := Hd (HF5.out.nob hkv)
   have HVB := Hd (hkb.keeps HF5.out.kept (λ _ _ _ h => h))
   clear hw hkv hk5 hb5 s0 s1 s2 hkc hkb ek
   have hpk : 0 <= (j : Int) /\ (j : Int) < (s.nd.vals.length : Int) := by omega
   iterate 8
    refine cR_ (v := ?_) rfl ?_ ?_
    rotate_left
    ·intro W hW
     try (obtain ⟨g1, g2, g3⟩ : _ /\ _ /\ _ := hW)
     go_simp
     try simp only [if_pos hpk, Int.toNat_natCast]
     try rfl
    simp only [Act.put, sa_, sb_, sc_]
   refine cA_ rfl ?_
   go_wp2_with (at_builtin; refine wpList_app rfl (.tmp 90) (.tmp 96) 23 rfl Tryz.underlying23 hi0 hz0 hz1 hz2 rfl (by decide) (v := .slice none 0 0) (n := 0) (m := val.length) (S := λ _ => False) (T := λ _ => True) (xs := []) (news := val.map bV) rfl (Own.nil _ _ _ _) (y := .slice VA val.length vc) rfl ?e2 ?e3 ?e4 ?e5 ?e6)
   case e2 => exact HVB.out.g.mono (λ _ _ _ => trivial)
   case e3 => first | exact bV_one val | (intro a ha; exact bV_one val _ (List.mem_map.2 ⟨a, ha, rfl⟩))
   case e4 => have := HSV.out; unfold Sm at this; unfold maxLen; omega
   case e5 => have := HSV.out; unfold Sm at this; omega
   case e6 =>
   intro v' w6 hown hk6 _
   try simp only [Nat.zero_add, List.nil_append] at hown
   obtain ⟨B2, d2, hf⟩ := hown.form
   subst hf
   have hk6 : Keeps Nob v0 w6 := hk6.mono (λ b _ hb => by cases hb)
   have hva : Byts w6 (λ x => (S2 x \/ Fresh wr w4 x) \/ Fresh v0 w6 x) (.slice B2 val.length d2) val := (hown.r : Byts w6 _ _ _).mono (λ x hx h => .inr (by
    rcases h with h | h
    ·cases h
    ·exact h))
   have hold : (enOb (λ x => S2 x \/ Fresh wr w4 x) (l2 ++ [⟨.slice B1 y.length d1, .slice none 0 0, y, []⟩])).P v0 := HF5.out.get (i := 2) rfl
   have hen : (enOb (λ x => (S2 x \/ Fresh wr w4 x) \/ Fresh v0 w6 x) (l2 ++ [⟨.slice B1 y.length d1, .slice B2 val.length d2, y, val⟩])).P w6 := λ x hx => by
    rcases List.mem_append.1 hx with hx | hx
    ·have h := hold x (List.mem_append.2 (.inl hx))
     exact ⟨(h.1.keeps hk6 (λ _ _ _ h => h)).mono (λ _ _ h => .inl h), (h.2.keeps hk6 (λ _ _ _ h => h)).mono (λ _ _ h => .inl h)⟩
    ·simp at hx; subst hx
     have h := hold _ (List.mem_append.2 (.inr (List.mem_singleton.2 rfl)))
     exact ⟨(h.1.keeps hk6 (λ _ _ _ h => h)).mono (λ _ _ h => .inl h), hva⟩
   have HF6 := Hd (HF5.out.grow (i := 2) rfl hk6 hen (λ x hx => hx) (λ _ h => h))
   have HS6 : Hid (∀ x, ((S2 x \/ Fresh wr w4 x) \/ Fresh v0 w6 x) -> w.heap.size <= x) := λ x hx => by
    rcases hx with h | h
    ·exact HS4.out x h
    ·exact Nat.le_trans HF5.out.kept.size h.1
   refine ⟨.inr ⟨hk6.cell HC.out.1 (λ h => h), hk6.cell HC.out.2.1 (λ h => h), hk6.cell HC.out.2.2 (λ h => h)⟩, ?_⟩
   clear hown hk6 hva hold hen HC HVB HF5 HS4 HF4 hi0 hz0 hz1 hz2 p2 p4 l94 hpk
   iterate 1
    refine cR_ (v := ?_) rfl ?_ ?_
    rotate_left
    ·intro W hW
     try (obtain ⟨g1, g2, g3⟩ : _ /\ _ /\ _ := hW)
     go_simp
     try rfl
    simp only [Act.put, sa_, sb_, sc_]
   refine cA_ rfl ?_
   have hb6 : Blk w6 P11 119 #[.slice B1 y.length d1, .slice none 0 0] := HF6.out.get (i := 4) rfl
   have z1 := hb6.cell 1
   have f1 := hb6.frozen 1
   go_wp2
   clear z1 f1
   refine canon_at' (λ w7 hw => ?_)
   have hk7 : Keeps (λ x => x = P11) w6 w7 := by rw [hw]; exact Keeps.setCell _ (M := λ x => x = P11) rfl _
   have hb7 : Blk w7 P11 119 #[.slice B1 y.length d1, .slice B2 val.length d2] := by rw [hw]; exact hb6.set_ 1 _
   replace HF6 := Hd (HF6.out.blkSet (i := 4) rfl hk7 hb7)
   refine ⟨.inl (by rfl), ?_⟩
   refine wpCanon_nil ?_
   have x0 := hb7.cell 0
   have x1 := hb7.cell 1
   have lx := hb7.lt
   clear hw hk7 hb7 hb6
   obtain ⟨j1, hj1, hy0, hy1, hy2⟩ := info_parts Tryz.inf_entry
   go_wp2_with (at_builtin; refine list_at (λ wd hwd => ?_); refine wpList_app rfl (.tmp 99) (.tmp 101) 60 rfl Tryz.underlying60 hj1 hy0 hy1 hy2 rfl (by decide) (v := .slice oA2 l2.length oc2) (n := l2.length) (m := 1) (S := λ x => (Value.slice oA2 l2.length oc2).ownBlock = some x) (T := λ _ => True) (xs := enCells l2) (news := [.slice B1 y.length d1, .slice B2 val.length d2]) rfl ?d1 (y := .slice (some ⟨w7.heap.size, 0, none⟩) 1 1) rfl ?d2 ?d3 ?d4 ?d5 ?d6)
   case d1 =>
    try rw [hwd]
    exact ((HF6.out.nob (Keeps.alloc Nob _ _)).get (i := 1) rfl)
   case d2 =>
    try rw [hwd]
    exact (SlG.lit _ _ [.slice B1 y.length d1, .slice B2 val.length d2] 2 1 _ (by simp) rfl (by decide)).mono (λ _ _ _ => trivial)
   case d3 => intro u hu; simp only [List.mem_cons, List.not_mem_nil, or_false] at hu; rcases hu with h | h <;> subst h <;> rfl
   case d4 => unfold maxLen; omega
   case d5 => omega
   case d6 =>
   intro v' w8 ho hk8 _
   obtain ⟨Av, cv, ev⟩ := ho.form
   subst ev
   try rw [<- hwd] at ho
   try rw [<- hwd] at hk8
   have hkd : Keeps Nob w7 wd := by rw [hwd]; exact Keeps.alloc _ _ _
   have HF8 := Hd ((HF6.out.nob hkd).app (i := 1) rfl hk8 (ho.mono (λ b _ hb => hb.imp (λ h => h) (λ h => ⟨by first | exact h.1 | (rw [hwd]; simpa using h.1), h.2⟩))))
   clear ho hk8 hkd hwd x0 x1 lx HF6
   go_wp2
   go_roundw
   case rel =>
    refine ⟨j + 1, l2 ++ [⟨.slice B1 y.length d1, .slice B2 val.length d2, y, val⟩], _, muBlk P11 119 #[.slice B1 y.length d1, .slice B2 val.length d2], by omega, by go_num, ?_, HS6.out, ?_⟩
    ·rw [HTK.out, HV0.out, List.map_append, HL2.out, List.append_assoc]; rfl
    ·rw [List.length_append, List.length_singleton, enCells_snoc]; exact HF8.out
   case measure => simp [intOf]; omega
  ·have HV0 : Hid (s.nd.vals.getD j [] = []) := by show _ = _; rw [List.getD_eq_getElem?_getD, List.getElem?_eq_none (by omega)]; rfl
   obtain ⟨j1, hj1, hy0, hy1, hy2⟩ := info_parts Tryz.inf_entry
   clear hi0 hz0 hz1 hz2
   go_wp2_with (at_builtin; refine list_at (λ wd hwd => ?_); refine wpList_app rfl (.tmp 99) (.tmp 101) 60 rfl Tryz.underlying60 hj1 hy0 hy1 hy2 rfl (by decide) (v := .slice oA2 l2.length oc2) (n := l2.length) (m := 1) (S := λ x => (Value.slice oA2 l2.length oc2).ownBlock = some x) (T := λ _ => True) (xs := enCells l2) (news := [.slice B1 y.length d1, .slice none 0 0]) rfl ?d1 (y := .slice (some ⟨w4.heap.size + 1, 0, none⟩) 1 1) rfl ?d2 ?d3 ?d4 ?d5 ?d6)
   case d1 =>
    try rw [hwd]
    exact ((HF4.out.nob ((Keeps.alloc Nob _ _).alloc' _)).get (i := 1) rfl)
   case d2 =>
    try rw [hwd]
    exact (SlG.lit _ _ [.slice B1 y.length d1, .slice none 0 0] 2 1 _ (by simp) rfl (by decide)).mono (λ _ _ _ => trivial)
   case d3 => intro u hu; simp only [List.mem_cons, List.not_mem_nil, or_false] at hu; rcases hu with h | h <;> subst h <;> rfl
   case d4 => unfold maxLen; omega
   case d5 => omega
   case d6 =>
   intro v' w6 ho hk6 _
   obtain ⟨Av, cv, ev⟩ := ho.form
   subst ev
   try rw [<- hwd] at ho
   try rw [<- hwd] at hk6
   have hkd : Keeps Nob w4 wd := by rw [hwd]; exact (Keeps.alloc _ _ _).alloc' _
   have HF6 := Hd ((HF4.out.nob hkd).app (i := 1) rfl hk6 (ho.mono (λ b _ hb => hb.imp (λ h => h) (λ h => ⟨by first | exact h.1 | (rw [hwd]; simpa using h.1), h.2⟩))))
   clear ho hk6 hkd hwd p2 p4 l94 HF4
   go_wp2
   go_roundw
   case rel =>
    refine ⟨j + 1, l2 ++ [⟨.slice B1 y.length d1, .slice none 0 0, y, []⟩], _, o4, by omega, by go_num, ?_, HS4.out, ?_⟩
    ·rw [HTK.out, HV0.out, List.map_append, HL2.out, List.append_assoc]; rfl
    ·rw [List.length_append, List.length_singleton, enCells_snoc]; exact HF6.out
   case measure => simp [intOf]; omega
end
end Go.Proofs.YtbhohohgojcapaaGreat

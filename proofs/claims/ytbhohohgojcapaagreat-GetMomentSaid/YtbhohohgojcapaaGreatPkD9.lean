import Derived.Test.YtbhohohgojcapaaGreatPkD1
import Derived.Test.YtbhohohgojcapaaGreatPkC1
import Derived.Test.YtbhohohgojcapaaGreatPkD8
import Derived.Deep.Cut
set_option maxHeartbeats 64000000
namespace Go.Proofs.YtbhohohgojcapaaGreat
open Go.RowKit
def lenV : Value -> Nat
 | .slice _ n _ => n
 | _ => 0
abbrev oC (b : Nat) (a0 a1 a2 a3 a4 : Int) : Ob := muBlk b 49 #[.int .i64 a0, .int .i64 a1, .int .i64 a2, .int .i64 a3, .int .i64 a4]
abbrev oL (b : Nat) (x y : Value) : Ob := muBlk b 105 #[x, y]
abbrev oR (b : Nat) (c : Bool) (x y : Int) : Ob := muBlk b 42 #[.bool c, .int .i64 x, .int .i64 y, .int .i64 0, .int .i64 0, .int .i64 0]
abbrev oN (b : Nat) (X1 : Option Addr) (k1 : Nat) (X3 : Option Addr) (k3 : Nat) (X4 : Option Addr) (k4 : Nat) (X5 : Option Addr) (k5 : Nat) (n : Nd) : Ob := muBlk b 35 #[.int .i64 n.lvl, .slice X1 n.high.length k1, .int .i64 n.right, .slice X3 n.keys.length k3, .slice X4 n.vals.length k4, .slice X5 n.kids.length k5]
abbrev rI := rowOb 3 1
abbrev rT := rowOb 23 1
theorem wpList_part {P : Program} {ops : Array Oper} {Q : Exit -> Act -> World -> Prop} {l2 : List Oper} {N : Act -> World -> Prop} (hN : ∀ a w, N a w -> wpList P ops Q l2 a w) : ∀ (l : List Oper) (a : Act) (w : World), wpList P ops (Behind Q N) l a w -> wpList P ops Q (l ++ l2) a w
 | [], _, _, h => hN _ _ h
 | o :: rest, a, w, h => by
  rw [List.cons_append]
  simp only [wpList] at h ⊢
  split
  ·rename_i hw
   rw [if_pos hw] at h
   rcases h with h | h
   ·exact .inl (Oper.wp_cut (λ a w h => wpList_part hN rest a w h) h)
   ·exact .inr ⟨h.1, letsOut_behind h.2⟩
  ·rename_i hw
   rw [if_neg hw] at h
   exact wpList_part hN rest _ _ h
theorem wpList_take {P : Program} {ops : Array Oper} {Q : Exit -> Act -> World -> Prop} (n : Nat) {l : List Oper} {a : Act} {w : World} (vals : List (Option Tmp × Value)) (F : World -> Prop) (h : wpList P ops (Behind Q (λ a' w' => a' = putsA a vals /\ F w')) (l.take n) a w) (he : ∀ w', F w' -> wpList P ops Q (l.drop n) (putsA a vals) w') : wpList P ops Q l a w := by
 rw [<- List.take_append_drop n l]
 exact wpList_part (λ a' w' ⟨e, hf⟩ => by rw [e]; exact he w' hf) _ a w h
theorem chain_post {w wf : World} {M D : Nat -> Prop} {q P6 : Nat} {L mv0 mv Lv Lw lowv : Value} {xs vs : List Value} {A : Ar} {met : List Int} {acc : Ch} {low : List UInt8} {o2 o3 o4 o5 o10 : Ob}
  (hF : Fam wf Nob [arOb M D q L xs A, rI mv met.length (met.map iV), o2, o3, o4, o5, rI Lv acc.length ((acc.map Prod.fst).map iV), rT Lw acc.length vs, txOb D lowv low, txsOb D vs (acc.map Prod.snd), o10]) (hP : w.heap.size = P6)
  (hmo : ∀ x, mv.ownBlock = some x -> mv0.ownBlock = some x \/ P6 <= x) (hlo : ∀ x, Lv.ownBlock = some x \/ Lw.ownBlock = some x -> P6 <= x) :
  ∃ F, Own wf (λ x => mv0.ownBlock = some x \/ Fresh w wf x) 3 1 mv met.length (met.map iV) /\ (lvOb F D Lv Lw acc).P wf /\ (∀ x, F x -> Fresh w wf x /\ mv.ownBlock ≠ some x) := by
 subst hP
 have h1 : Own wf _ 3 1 mv met.length (met.map iV) := hF.ok 1 _ rfl
 have h6 : Own wf _ 3 1 Lv acc.length ((acc.map Prod.fst).map iV) := hF.ok 6 _ rfl
 have h7 : Own wf _ 23 1 Lw acc.length vs := hF.ok 7 _ rfl
 have h9 : vs.length = (acc.map Prod.snd).length /\ ∀ (i : Nat) u x, vs[i]? = some u -> (acc.map Prod.snd)[i]? = some x -> Byts wf D u x := hF.ok 9 _ rfl
 refine ⟨λ x => Lv.ownBlock = some x \/ Lw.ownBlock = some x, h1.mono (λ x hx ho => (hmo x ho).imp id (λ h => ⟨h, hx⟩)), ⟨h6.r.mono (λ x _ h => .inl h), vs, h7.r.mono (λ x _ h => .inl (.inr h)), h9.1, λ i u x hu hx => (h9.2 i u x hu hx).mono (λ x _ h => .inr h)⟩, λ x hx => ⟨⟨hlo x hx, ?_⟩, λ e => ?_⟩⟩
 ·rcases hx with hx | hx
  ·exact hF.old 6 _ rfl x hx
  ·exact hF.old 7 _ rfl x hx
 ·rcases hx with hx | hx
  ·exact hF.apart 1 6 _ _ rfl rfl (by decide) x e hx
  ·exact hF.apart 1 7 _ _ rfl rfl (by decide) x e hx
section
variable {w : World} {M D : Nat -> Prop} {q : Nat} {L : Value} {xs : List Value} {A : Ar} {a0 a1 a2 a3 a4 first level : Int} {mv : Value} {met0 : List Int}
set_option maxRecDepth 100000 in
theorem chainR {R : Ch × List Int × Rp} (h0 : Fam w Nob [arOb M D q L xs A, rI mv met0.length (met0.map iV)]) (hsm : ∀ s ∈ A.sl, NdSm 0 s.nd) (hmet : MetA A met0) (hR : chainM A (chkM a0 a1 a2 a3 a4) level (A.sl.length + 1 - met0.length) first [] met0 [] = R) :
  Calls Tryz.prog 95 #[pV q, .agg #[.int .i64 a0, .int .i64 a1, .int .i64 a2, .int .i64 a3, .int .i64 a4], .int .i64 first, .int .i64 level, mv] w λ e w' => ∃ mv' Lv Lw, e = .returned (.tuple #[.agg #[Lv, Lw], mv', .agg (rpV R.2.2)]) /\ Own w' (λ x => mv.ownBlock = some x \/ Fresh w w' x) 3 1 mv' R.2.1.length (R.2.1.map iV) /\ ∃ F : Nat -> Prop, (lvOb F D Lv Lw R.1).P w' /\ (∀ x, F x -> Fresh w w' x /\ mv'.ownBlock ≠ some x) /\ Keeps (λ x => mv.ownBlock = some x) w w' := by
 have H0 := Hd h0
 have HSM := Hd hsm
 have HR := Hd hR
 have HM := Hd hmet
 obtain ⟨mA, mc, em⟩ := (h0.ok 1 _ rfl : Own w _ _ 1 _ _ _).form
 subst em
 clear h0 hsm hmet hR
 unfold pV
 go_enter Tryz.func95, Tryz.ntmps95
 go_wp2
 refine code_at (λ w1 hw => ?_)
 obtain ⟨P6, hP6⟩ : ∃ N, w.heap.size = N := ⟨_, rfl⟩
 rw [hP6]
 have HP6 := Hd hP6
 have HF : Hid (Fam w1 Nob [arOb M D q L xs A, rI (.slice mA met0.length mc) met0.length (met0.map iV), oC P6 a0 a1 a2 a3 a4, oL (P6 + 1) (.slice none 0 0) (.slice none 0 0), oR (P6 + 2) false (0) (0), oL (P6 + 3) (.slice none 0 0) (.slice none 0 0), rI (.slice none 0 0) 0 [], rT (.slice none 0 0) 0 [], txOb D (.slice none 0 0) [], txsOb D [] [], noOb]) := by
  subst hP6
  rw [hw]
  have f1 := (((H0.out.alloc' (t := 49) (cs := #[.int .i64 a0, .int .i64 a1, .int .i64 a2, .int .i64 a3, .int .i64 a4]) rfl).alloc' (g := w.heap.size + 1) (t := 105) (cs := #[.slice none 0 0, .slice none 0 0]) (by simp)).alloc' (g := w.heap.size + 2) (t := 42) (cs := #[.bool false, .int .i64 0, .int .i64 0, .int .i64 0, .int .i64 0, .int .i64 0]) (by simp)).alloc' (g := w.heap.size + 3) (t := 105) (cs := #[.slice none 0 0, .slice none 0 0]) (by simp)
  have f2 := (f1.nilRow 3 1).nilRow 23 1
  have f3 := f2.share (i := 0) (o := txOb D (.slice none 0 0) []) rfl (λ _ h => h) (SlR.nil _ _ _ _ (by decide)) (λ x hx => .inr hx) (λ _ h => h)
  have f4 := f3.share (i := 0) (o := txsOb D [] []) rfl (λ _ h => h) ⟨rfl, λ i u x hu => by simp at hu⟩ (λ x hx => .inr hx) (λ _ h => h)
  exact f4.addNo
 have K : Hid (Keeps (λ x => (Value.slice mA met0.length mc).ownBlock = some x) w w1) := by
  show Keeps _ _ _
  rw [hw]; exact (((Keeps.alloc _ _ _).alloc' _).alloc' _).alloc' _
 clear hw H0
 go_loopw [4, 14, 15] (λ metv lowv idv wr => ∃ (met : List Int) (acc : Ch) (low : List UInt8) (id : Int) (Lv Lw : Value) (vs : List Value) (o10 : Ob), idv = .int .i64 id /\ MetA A met /\ acc.length <= met.length /\ chainM A (chkM a0 a1 a2 a3 a4) level (A.sl.length + 1 - met.length) id low met acc = R /\ Fam wr Nob [arOb M D q L xs A, rI metv met.length (met.map iV), oC P6 a0 a1 a2 a3 a4, oL (P6 + 1) (.slice none 0 0) (.slice none 0 0), oR (P6 + 2) false (0) (0), muBlk (P6 + 3) 105 #[Lv, Lw], rI Lv acc.length ((acc.map Prod.fst).map iV), rT Lw acc.length vs, txOb D lowv low, txsOb D vs (acc.map Prod.snd), o10] /\ (∀ x, metv.ownBlock = some x -> (Value.slice mA met0.length mc).ownBlock = some x \/ P6 <= x) /\ (∀ x, Lv.ownBlock = some x \/ Lw.ownBlock = some x -> P6 <= x) /\ Keeps (λ x => (Value.slice mA met0.length mc).ownBlock = some x) w wr) (λ metv _ _ _ => A.sl.length + 1 - lenV metv)
 case atStart => exact ⟨met0, [], [], first, .slice none 0 0, .slice none 0 0, [], noOb, rfl, HM.out, Nat.zero_le _, HR.out, HF.out, λ x hx => .inl hx, λ x hx => (by rcases hx with hx | hx <;> cases hx), K.out⟩
 clear HF K HM HR
 obtain ⟨met, acc, low, id, Lv, Lw, vs, o10, rfl, hmet, hal, hR, hF, hmo, hlo, hk⟩ := hrel
 rw [chainM_round hmet] at hR
 have HF := Hd hF
 have HR := Hd hR
 have HM := Hd hmet
 have HMO := Hd hmo
 have HLO := Hd hlo
 have K := Hd hk
 have HAR := Hd (hF.ok 0 _ rfl)
 obtain ⟨mtA, mtc, em⟩ := (hF.ok 1 _ rfl : Own wr _ _ 1 _ _ _).form
 obtain ⟨LvA, lvc, eLv⟩ := (hF.ok 6 _ rfl : Own wr _ _ 1 _ _ _).form
 obtain ⟨LwA, lwc, eLw⟩ := (hF.ok 7 _ rfl : Own wr _ _ 1 _ _ _).form
 obtain ⟨loA, loc, elo, _, _⟩ := (hF.ok 8 _ rfl : Byts wr D _ low).form
 subst em eLv eLw elo
 have hml := hmet.len
 have hbd := (hF.ok 0 _ rfl : DocW wr M D q L xs A).bound
 clear hF hR hmet hmo hlo hk
 have FT := λ wx (h : DocW wx M D q L xs A) => thereR (ix := id) h
 unfold pV iV at FT
 rcases hg : A.get id with _ | s
 ·rw [hg] at FT HR
  go_wp2_with (go_at_call 50; refine (FT _ HAR.out).mono ?_; rintro e w' ⟨rfl, rfl⟩)
  obtain rfl : R = (acc, met, .wrong id 101) := HR.out.symm
  try go_wp2
  refine code_at (λ vo hw => ?_)
  have hk : Keeps Nob wr vo := by rw [hw]; first | exact Keeps.refl _ _ | exact Keeps.alloc _ _ _
  replace HF := Hd (HF.out.nob0 hk)
  replace K := tr_ K hk
  clear hk
  clear hw
  have l0 : vo.cell? ⟨P6 + 3, 0, none⟩ = some (.slice LvA acc.length lvc) := (HF.out.ok 5 _ rfl : Blk vo (P6 + 3) _ _).cell 0
  have l1 : vo.cell? ⟨P6 + 3, 1, none⟩ = some (.slice LwA acc.length lwc) := (HF.out.ok 5 _ rfl : Blk vo (P6 + 3) _ _).cell 1
  refine rC_ [0, 1, 2, 3, 4, 5, 6] 4 (λ W => W.cell? ⟨P6 + 3, 0, none⟩ = some (.slice LvA acc.length lvc) /\ W.cell? ⟨P6 + 3, 1, none⟩ = some (.slice LwA acc.length lwc)) ⟨l0, l1⟩ ?_
  refine canon_at (λ v0 hw => ?_)
  have hk : Keeps Nob vo v0 := by rw [hw]; exact Keeps.drew _ _
  clear hw l0 l1
  replace HF := Hd (HF.out.nob0 hk)
  replace K := tr_ K hk
  clear hk
  iterate 3
   refine cR_ (v := ?_) rfl ?_ ?_
   rotate_left
   ·intro W hW
    try (obtain ⟨g1, g2⟩ : _ /\ _ := hW)
    go_simp
    try rfl
   simp only [Act.put, sa_, sb_, sc_]
  refine cA_ rfl ?_
  go_wp2_with (go_at_call 94; refine (wrongR id 101 _).mono ?_; rintro e v1 ⟨rfl, hk⟩)
  replace HF := Hd (HF.out.nob0 hk)
  replace K := tr_ K hk
  clear hk
  refine ⟨.inr ⟨(HF.out.ok 5 _ rfl : Blk v1 (P6 + 3) _ _).cell 0, (HF.out.ok 5 _ rfl : Blk v1 (P6 + 3) _ _).cell 1⟩, ?_⟩
  refine cA_ rfl ?_
  have q0 := (HF.out.ok 3 _ rfl : Blk v1 (P6 + 1) _ _).cell 0
  have q1 := (HF.out.ok 3 _ rfl : Blk v1 (P6 + 1) _ _).cell 1
  have f0 := (HF.out.ok 3 _ rfl : Blk v1 (P6 + 1) _ _).frozen 0
  have f1 := (HF.out.ok 3 _ rfl : Blk v1 (P6 + 1) _ _).frozen 1
  go_wp2
  clear q0 q1 f0 f1
  refine canon_at' (λ v2 hw => ?_)
  have hk : Keeps (λ x => x = P6 + 1) v1 v2 := by rw [hw]; exact (Keeps.setCell _ (M := λ x => x = P6 + 1) rfl _).setCell' (λ _ => rfl) _
  replace HF : Hid (Fam v2 Nob [arOb M D q L xs A, rI (.slice mtA met.length mtc) met.length (met.map iV), oC P6 a0 a1 a2 a3 a4, oL (P6 + 1) (.slice LvA acc.length lvc) (.slice LwA acc.length lwc), oR (P6 + 2) false (0) (0), oL (P6 + 3) (.slice LvA acc.length lvc) (.slice LwA acc.length lwc), rI (.slice LvA acc.length lvc) acc.length ((acc.map Prod.fst).map iV), rT (.slice LwA acc.length lwc) acc.length vs, txOb D (.slice loA low.length loc) low, txsOb D vs (acc.map Prod.snd), o10]) := Hd (HF.out.setBlk (i := 3) rfl hk (by rw [hw]; exact ((HF.out.ok 3 _ rfl : Blk v1 (P6 + 1) _ _).set_ 0 _).set_ 1 _))
  replace K := Hd (K.out.trans hk (λ x hx e => by have h := HP6.out; have e2 : x = P6 + 1 := e; omega))
  clear hk
  clear hw
  refine ⟨.inl (by rfl), ?_⟩
  iterate 1
   refine cR_ (v := ?_) rfl ?_ ?_
   rotate_left
   ·intro W hW
    try (obtain ⟨g1, g2⟩ : _ /\ _ := hW)
    go_simp
    try rfl
   simp only [Act.put, sa_, sb_, sc_]
  refine cA_ rfl ?_
  have q0 := (HF.out.ok 4 _ rfl : Blk v2 (P6 + 2) _ _).cell 0
  have f0 := (HF.out.ok 4 _ rfl : Blk v2 (P6 + 2) _ _).frozen 0
  have q1 := (HF.out.ok 4 _ rfl : Blk v2 (P6 + 2) _ _).cell 1
  have f1 := (HF.out.ok 4 _ rfl : Blk v2 (P6 + 2) _ _).frozen 1
  have q2 := (HF.out.ok 4 _ rfl : Blk v2 (P6 + 2) _ _).cell 2
  have f2 := (HF.out.ok 4 _ rfl : Blk v2 (P6 + 2) _ _).frozen 2
  have q3 := (HF.out.ok 4 _ rfl : Blk v2 (P6 + 2) _ _).cell 3
  have f3 := (HF.out.ok 4 _ rfl : Blk v2 (P6 + 2) _ _).frozen 3
  have q4 := (HF.out.ok 4 _ rfl : Blk v2 (P6 + 2) _ _).cell 4
  have f4 := (HF.out.ok 4 _ rfl : Blk v2 (P6 + 2) _ _).frozen 4
  have q5 := (HF.out.ok 4 _ rfl : Blk v2 (P6 + 2) _ _).cell 5
  have f5 := (HF.out.ok 4 _ rfl : Blk v2 (P6 + 2) _ _).frozen 5
  go_wp2
  clear q0 f0 q1 f1 q2 f2 q3 f3 q4 f4 q5 f5
  refine canon_at' (λ v3 hw => ?_)
  have hk : Keeps (λ x => x = P6 + 2) v2 v3 := by rw [hw]; exact (((((Keeps.setCell _ (M := λ x => x = P6 + 2) rfl _).setCell' (λ _ => rfl) _).setCell' (λ _ => rfl) _).setCell' (λ _ => rfl) _).setCell' (λ _ => rfl) _).setCell' (λ _ => rfl) _
  replace HF : Hid (Fam v3 Nob [arOb M D q L xs A, rI (.slice mtA met.length mtc) met.length (met.map iV), oC P6 a0 a1 a2 a3 a4, oL (P6 + 1) (.slice LvA acc.length lvc) (.slice LwA acc.length lwc), oR (P6 + 2) false (id) (101), oL (P6 + 3) (.slice LvA acc.length lvc) (.slice LwA acc.length lwc), rI (.slice LvA acc.length lvc) acc.length ((acc.map Prod.fst).map iV), rT (.slice LwA acc.length lwc) acc.length vs, txOb D (.slice loA low.length loc) low, txsOb D vs (acc.map Prod.snd), o10]) := Hd (HF.out.setBlk (i := 4) rfl hk (by rw [hw]; exact ((((((HF.out.ok 4 _ rfl : Blk v2 (P6 + 2) _ _).set_ 0 _).set_ 1 _).set_ 2 _).set_ 3 _).set_ 4 _).set_ 5 _))
  replace K := Hd (K.out.trans hk (λ x hx e => by have h := HP6.out; have e2 : x = P6 + 2 := e; omega))
  clear hk
  clear hw
  refine ⟨.inl (by rfl), ?_⟩
  refine wpCanon_nil ?_
  go_wp2
  have r0 : v3.cell? ⟨P6 + 1, 0, none⟩ = some (.slice LvA acc.length lvc) := (HF.out.ok 3 _ rfl : Blk v3 (P6 + 1) _ _).cell 0
  have r1 : v3.cell? ⟨P6 + 1, 1, none⟩ = some (.slice LwA acc.length lwc) := (HF.out.ok 3 _ rfl : Blk v3 (P6 + 1) _ _).cell 1
  have s0 := (HF.out.ok 4 _ rfl : Blk v3 (P6 + 2) _ _).cell 0
  have s1 := (HF.out.ok 4 _ rfl : Blk v3 (P6 + 2) _ _).cell 1
  have s2 := (HF.out.ok 4 _ rfl : Blk v3 (P6 + 2) _ _).cell 2
  have s3 := (HF.out.ok 4 _ rfl : Blk v3 (P6 + 2) _ _).cell 3
  have s4 := (HF.out.ok 4 _ rfl : Blk v3 (P6 + 2) _ _).cell 4
  have s5 := (HF.out.ok 4 _ rfl : Blk v3 (P6 + 2) _ _).cell 5
  obtain ⟨F, h1, h2, h3⟩ := chain_post HF.out HP6.out HMO.out HLO.out
  refine bodyPost_ret (v := .tuple #[.agg #[.slice LvA acc.length lvc, .slice LwA acc.length lwc], .slice mtA met.length mtc, .agg #[.bool false, .int .i64 id, .int .i64 101, .int .i64 0, .int .i64 0, .int .i64 0]]) (by simp [results, Tryz.results95, go_sem, r0, r1, s0, s1, s2, s3, s4, s5]) rfl ⟨_, _, _, rfl, h1, F, h2, h3, K.out⟩
 rw [hg] at FT HR
 have HG := Hd hg
 have HS : Hid (NdSm 0 s.nd) := HSM.out s (by obtain ⟨_, _, h2, _⟩ := get_some hg; exact List.mem_of_getElem? h2)
 clear hg
 have FH := λ wx (h : Ints wx (λ b => (Value.slice mtA met.length mtc).ownBlock = some b) (.slice mtA met.length mtc) met) => hasR (x := id) h
 go_wp2_with (go_at_call 50; refine (FT _ HAR.out).mono ?_; rintro e w' ⟨rfl, rfl⟩)
 refine (FH _ (HF.out.ok 1 _ rfl : Own wr _ 3 1 _ _ _).r).mono ?_
 rintro e w2 ⟨rfl, hk⟩
 replace HF := Hd (HF.out.nob0 hk)
 replace HAR := Hd (HF.out.ok 0 _ rfl)
 replace K := tr_ K hk
 clear hk
 rcases hcon : met.contains id with _ | _
 rotate_left
 ·obtain rfl : R = (acc, met, .wrong id 112) := by have h := HR.out; simp only [hcon, if_true] at h; exact h.symm
  try go_wp2
  refine code_at (λ vo hw => ?_)
  have hk : Keeps Nob w2 vo := by rw [hw]; first | exact Keeps.refl _ _ | exact Keeps.alloc _ _ _
  replace HF := Hd (HF.out.nob0 hk)
  replace K := tr_ K hk
  clear hk
  clear hw
  have l0 : vo.cell? ⟨P6 + 3, 0, none⟩ = some (.slice LvA acc.length lvc) := (HF.out.ok 5 _ rfl : Blk vo (P6 + 3) _ _).cell 0
  have l1 : vo.cell? ⟨P6 + 3, 1, none⟩ = some (.slice LwA acc.length lwc) := (HF.out.ok 5 _ rfl : Blk vo (P6 + 3) _ _).cell 1
  refine rC_ [0, 1, 2, 3, 4, 5, 6] 4 (λ W => W.cell? ⟨P6 + 3, 0, none⟩ = some (.slice LvA acc.length lvc) /\ W.cell? ⟨P6 + 3, 1, none⟩ = some (.slice LwA acc.length lwc)) ⟨l0, l1⟩ ?_
  refine canon_at (λ v0 hw => ?_)
  have hk : Keeps Nob vo v0 := by rw [hw]; exact Keeps.drew _ _
  clear hw l0 l1
  replace HF := Hd (HF.out.nob0 hk)
  replace K := tr_ K hk
  clear hk
  iterate 3
   refine cR_ (v := ?_) rfl ?_ ?_
   rotate_left
   ·intro W hW
    try (obtain ⟨g1, g2⟩ : _ /\ _ := hW)
    go_simp
    try rfl
   simp only [Act.put, sa_, sb_, sc_]
  refine cA_ rfl ?_
  go_wp2_with (go_at_call 94; refine (wrongR id 112 _).mono ?_; rintro e v1 ⟨rfl, hk⟩)
  replace HF := Hd (HF.out.nob0 hk)
  replace K := tr_ K hk
  clear hk
  refine ⟨.inr ⟨(HF.out.ok 5 _ rfl : Blk v1 (P6 + 3) _ _).cell 0, (HF.out.ok 5 _ rfl : Blk v1 (P6 + 3) _ _).cell 1⟩, ?_⟩
  refine cA_ rfl ?_
  have q0 := (HF.out.ok 3 _ rfl : Blk v1 (P6 + 1) _ _).cell 0
  have q1 := (HF.out.ok 3 _ rfl : Blk v1 (P6 + 1) _ _).cell 1
  have f0 := (HF.out.ok 3 _ rfl : Blk v1 (P6 + 1) _ _).frozen 0
  have f1 := (HF.out.ok 3 _ rfl : Blk v1 (P6 + 1) _ _).frozen 1
  go_wp2
  clear q0 q1 f0 f1
  refine canon_at' (λ v2 hw => ?_)
  have hk : Keeps (λ x => x = P6 + 1) v1 v2 := by rw [hw]; exact (Keeps.setCell _ (M := λ x => x = P6 + 1) rfl _).setCell' (λ _ => rfl) _
  replace HF : Hid (Fam v2 Nob [arOb M D q L xs A, rI (.slice mtA met.length mtc) met.length (met.map iV), oC P6 a0 a1 a2 a3 a4, oL (P6 + 1) (.slice LvA acc.length lvc) (.slice LwA acc.length lwc), oR (P6 + 2) false (0) (0), oL (P6 + 3) (.slice LvA acc.length lvc) (.slice LwA acc.length lwc), rI (.slice LvA acc.length lvc) acc.length ((acc.map Prod.fst).map iV), rT (.slice LwA acc.length lwc) acc.length vs, txOb D (.slice loA low.length loc) low, txsOb D vs (acc.map Prod.snd), o10]) := Hd (HF.out.setBlk (i := 3) rfl hk (by rw [hw]; exact ((HF.out.ok 3 _ rfl : Blk v1 (P6 + 1) _ _).set_ 0 _).set_ 1 _))
  replace K := Hd (K.out.trans hk (λ x hx e => by have h := HP6.out; have e2 : x = P6 + 1 := e; omega))
  clear hk
  clear hw
  refine ⟨.inl (by rfl), ?_⟩
  iterate 1
   refine cR_ (v := ?_) rfl ?_ ?_
   rotate_left
   ·intro W hW
    try (obtain ⟨g1, g2⟩ : _ /\ _ := hW)
    go_simp
    try rfl
   simp only [Act.put, sa_, sb_, sc_]
  refine cA_ rfl ?_
  have q0 := (HF.out.ok 4 _ rfl : Blk v2 (P6 + 2) _ _).cell 0
  have f0 := (HF.out.ok 4 _ rfl : Blk v2 (P6 + 2) _ _).frozen 0
  have q1 := (HF.out.ok 4 _ rfl : Blk v2 (P6 + 2) _ _).cell 1
  have f1 := (HF.out.ok 4 _ rfl : Blk v2 (P6 + 2) _ _).frozen 1
  have q2 := (HF.out.ok 4 _ rfl : Blk v2 (P6 + 2) _ _).cell 2
  have f2 := (HF.out.ok 4 _ rfl : Blk v2 (P6 + 2) _ _).frozen 2
  have q3 := (HF.out.ok 4 _ rfl : Blk v2 (P6 + 2) _ _).cell 3
  have f3 := (HF.out.ok 4 _ rfl : Blk v2 (P6 + 2) _ _).frozen 3
  have q4 := (HF.out.ok 4 _ rfl : Blk v2 (P6 + 2) _ _).cell 4
  have f4 := (HF.out.ok 4 _ rfl : Blk v2 (P6 + 2) _ _).frozen 4
  have q5 := (HF.out.ok 4 _ rfl : Blk v2 (P6 + 2) _ _).cell 5
  have f5 := (HF.out.ok 4 _ rfl : Blk v2 (P6 + 2) _ _).frozen 5
  go_wp2
  clear q0 f0 q1 f1 q2 f2 q3 f3 q4 f4 q5 f5
  refine canon_at' (λ v3 hw => ?_)
  have hk : Keeps (λ x => x = P6 + 2) v2 v3 := by rw [hw]; exact (((((Keeps.setCell _ (M := λ x => x = P6 + 2) rfl _).setCell' (λ _ => rfl) _).setCell' (λ _ => rfl) _).setCell' (λ _ => rfl) _).setCell' (λ _ => rfl) _).setCell' (λ _ => rfl) _
  replace HF : Hid (Fam v3 Nob [arOb M D q L xs A, rI (.slice mtA met.length mtc) met.length (met.map iV), oC P6 a0 a1 a2 a3 a4, oL (P6 + 1) (.slice LvA acc.length lvc) (.slice LwA acc.length lwc), oR (P6 + 2) false (id) (112), oL (P6 + 3) (.slice LvA acc.length lvc) (.slice LwA acc.length lwc), rI (.slice LvA acc.length lvc) acc.length ((acc.map Prod.fst).map iV), rT (.slice LwA acc.length lwc) acc.length vs, txOb D (.slice loA low.length loc) low, txsOb D vs (acc.map Prod.snd), o10]) := Hd (HF.out.setBlk (i := 4) rfl hk (by rw [hw]; exact ((((((HF.out.ok 4 _ rfl : Blk v2 (P6 + 2) _ _).set_ 0 _).set_ 1 _).set_ 2 _).set_ 3 _).set_ 4 _).set_ 5 _))
  replace K := Hd (K.out.trans hk (λ x hx e => by have h := HP6.out; have e2 : x = P6 + 2 := e; omega))
  clear hk
  clear hw
  refine ⟨.inl (by rfl), ?_⟩
  refine wpCanon_nil ?_
  go_wp2
  have r0 : v3.cell? ⟨P6 + 1, 0, none⟩ = some (.slice LvA acc.length lvc) := (HF.out.ok 3 _ rfl : Blk v3 (P6 + 1) _ _).cell 0
  have r1 : v3.cell? ⟨P6 + 1, 1, none⟩ = some (.slice LwA acc.length lwc) := (HF.out.ok 3 _ rfl : Blk v3 (P6 + 1) _ _).cell 1
  have s0 := (HF.out.ok 4 _ rfl : Blk v3 (P6 + 2) _ _).cell 0
  have s1 := (HF.out.ok 4 _ rfl : Blk v3 (P6 + 2) _ _).cell 1
  have s2 := (HF.out.ok 4 _ rfl : Blk v3 (P6 + 2) _ _).cell 2
  have s3 := (HF.out.ok 4 _ rfl : Blk v3 (P6 + 2) _ _).cell 3
  have s4 := (HF.out.ok 4 _ rfl : Blk v3 (P6 + 2) _ _).cell 4
  have s5 := (HF.out.ok 4 _ rfl : Blk v3 (P6 + 2) _ _).cell 5
  obtain ⟨F, h1, h2, h3⟩ := chain_post HF.out HP6.out HMO.out HLO.out
  refine bodyPost_ret (v := .tuple #[.agg #[.slice LvA acc.length lvc, .slice LwA acc.length lwc], .slice mtA met.length mtc, .agg #[.bool false, .int .i64 id, .int .i64 112, .int .i64 0, .int .i64 0, .int .i64 0]]) (by simp [results, Tryz.results95, go_sem, r0, r1, s0, s1, s2, s3, s4, s5]) rfl ⟨_, _, _, rfl, h1, F, h2, h3, K.out⟩
 have HCON := Hd hcon
 clear FT FH hcon
 obtain ⟨i, g, o, cc, hid, hi, hl6, hL, X1, k1, X3, k3, X4, k4, X5, k5, n0, n1, n2, n3, n4, n5, hnd⟩ := DocW.mono_ HAR.out HG.out
 have ca : w2.cell? ⟨q, 1, none⟩ = some (.slice (some ⟨g, o, none⟩) A.sl.length cc) := by have h := HAR.out.blk.cell 1; rw [hL] at h; exact h
 clear hL
 have HID := Hd hid
 have h3 : (id - 1).toNat = i := by omega
 have h1' : 1 <= id := by omega
 have h2' : id <= A.sl.length := by omega
 have h4' : id - 1 = (i : Int) := by omega
 clear hid
 have HND := Hd hnd
 clear hnd
 by_cases hlv : s.nd.lvl = level
 rotate_left
 ·have hne : (s.nd.lvl == level) = false := by simpa using hlv
  obtain rfl : R = (acc, met, .wrong id 111) := by have h := HR.out; rw [HCON.out] at h; simp only [Bool.false_eq_true, if_false, hlv, ne_eq, not_false_eq_true, if_true] at h; exact h.symm
  try go_wp2
  refine code_at (λ vo hw => ?_)
  have hk : Keeps Nob w2 vo := by rw [hw]; first | exact Keeps.refl _ _ | exact Keeps.alloc _ _ _
  replace HF := Hd (HF.out.nob0 hk)
  replace K := tr_ K hk
  clear hk
  clear hw
  have l0 : vo.cell? ⟨P6 + 3, 0, none⟩ = some (.slice LvA acc.length lvc) := (HF.out.ok 5 _ rfl : Blk vo (P6 + 3) _ _).cell 0
  have l1 : vo.cell? ⟨P6 + 3, 1, none⟩ = some (.slice LwA acc.length lwc) := (HF.out.ok 5 _ rfl : Blk vo (P6 + 3) _ _).cell 1
  refine rC_ [0, 1, 2, 3, 4, 5, 6] 4 (λ W => W.cell? ⟨P6 + 3, 0, none⟩ = some (.slice LvA acc.length lvc) /\ W.cell? ⟨P6 + 3, 1, none⟩ = some (.slice LwA acc.length lwc)) ⟨l0, l1⟩ ?_
  refine canon_at (λ v0 hw => ?_)
  have hk : Keeps Nob vo v0 := by rw [hw]; exact Keeps.drew _ _
  clear hw l0 l1
  replace HF := Hd (HF.out.nob0 hk)
  replace K := tr_ K hk
  clear hk
  iterate 3
   refine cR_ (v := ?_) rfl ?_ ?_
   rotate_left
   ·intro W hW
    try (obtain ⟨g1, g2⟩ : _ /\ _ := hW)
    go_simp
    try rfl
   simp only [Act.put, sa_, sb_, sc_]
  refine cA_ rfl ?_
  go_wp2_with (go_at_call 94; refine (wrongR id 111 _).mono ?_; rintro e v1 ⟨rfl, hk⟩)
  replace HF := Hd (HF.out.nob0 hk)
  replace K := tr_ K hk
  clear hk
  refine ⟨.inr ⟨(HF.out.ok 5 _ rfl : Blk v1 (P6 + 3) _ _).cell 0, (HF.out.ok 5 _ rfl : Blk v1 (P6 + 3) _ _).cell 1⟩, ?_⟩
  refine cA_ rfl ?_
  have q0 := (HF.out.ok 3 _ rfl : Blk v1 (P6 + 1) _ _).cell 0
  have q1 := (HF.out.ok 3 _ rfl : Blk v1 (P6 + 1) _ _).cell 1
  have f0 := (HF.out.ok 3 _ rfl : Blk v1 (P6 + 1) _ _).frozen 0
  have f1 := (HF.out.ok 3 _ rfl : Blk v1 (P6 + 1) _ _).frozen 1
  go_wp2
  clear q0 q1 f0 f1
  refine canon_at' (λ v2 hw => ?_)
  have hk : Keeps (λ x => x = P6 + 1) v1 v2 := by rw [hw]; exact (Keeps.setCell _ (M := λ x => x = P6 + 1) rfl _).setCell' (λ _ => rfl) _
  replace HF : Hid (Fam v2 Nob [arOb M D q L xs A, rI (.slice mtA met.length mtc) met.length (met.map iV), oC P6 a0 a1 a2 a3 a4, oL (P6 + 1) (.slice LvA acc.length lvc) (.slice LwA acc.length lwc), oR (P6 + 2) false (0) (0), oL (P6 + 3) (.slice LvA acc.length lvc) (.slice LwA acc.length lwc), rI (.slice LvA acc.length lvc) acc.length ((acc.map Prod.fst).map iV), rT (.slice LwA acc.length lwc) acc.length vs, txOb D (.slice loA low.length loc) low, txsOb D vs (acc.map Prod.snd), o10]) := Hd (HF.out.setBlk (i := 3) rfl hk (by rw [hw]; exact ((HF.out.ok 3 _ rfl : Blk v1 (P6 + 1) _ _).set_ 0 _).set_ 1 _))
  replace K := Hd (K.out.trans hk (λ x hx e => by have h := HP6.out; have e2 : x = P6 + 1 := e; omega))
  clear hk
  clear hw
  refine ⟨.inl (by rfl), ?_⟩
  iterate 1
   refine cR_ (v := ?_) rfl ?_ ?_
   rotate_left
   ·intro W hW
    try (obtain ⟨g1, g2⟩ : _ /\ _ := hW)
    go_simp
    try rfl
   simp only [Act.put, sa_, sb_, sc_]
  refine cA_ rfl ?_
  have q0 := (HF.out.ok 4 _ rfl : Blk v2 (P6 + 2) _ _).cell 0
  have f0 := (HF.out.ok 4 _ rfl : Blk v2 (P6 + 2) _ _).frozen 0
  have q1 := (HF.out.ok 4 _ rfl : Blk v2 (P6 + 2) _ _).cell 1
  have f1 := (HF.out.ok 4 _ rfl : Blk v2 (P6 + 2) _ _).frozen 1
  have q2 := (HF.out.ok 4 _ rfl : Blk v2 (P6 + 2) _ _).cell 2
  have f2 := (HF.out.ok 4 _ rfl : Blk v2 (P6 + 2) _ _).frozen 2
  have q3 := (HF.out.ok 4 _ rfl : Blk v2 (P6 + 2) _ _).cell 3
  have f3 := (HF.out.ok 4 _ rfl : Blk v2 (P6 + 2) _ _).frozen 3
  have q4 := (HF.out.ok 4 _ rfl : Blk v2 (P6 + 2) _ _).cell 4
  have f4 := (HF.out.ok 4 _ rfl : Blk v2 (P6 + 2) _ _).frozen 4
  have q5 := (HF.out.ok 4 _ rfl : Blk v2 (P6 + 2) _ _).cell 5
  have f5 := (HF.out.ok 4 _ rfl : Blk v2 (P6 + 2) _ _).frozen 5
  go_wp2
  clear q0 f0 q1 f1 q2 f2 q3 f3 q4 f4 q5 f5
  refine canon_at' (λ v3 hw => ?_)
  have hk : Keeps (λ x => x = P6 + 2) v2 v3 := by rw [hw]; exact (((((Keeps.setCell _ (M := λ x => x = P6 + 2) rfl _).setCell' (λ _ => rfl) _).setCell' (λ _ => rfl) _).setCell' (λ _ => rfl) _).setCell' (λ _ => rfl) _).setCell' (λ _ => rfl) _
  replace HF : Hid (Fam v3 Nob [arOb M D q L xs A, rI (.slice mtA met.length mtc) met.length (met.map iV), oC P6 a0 a1 a2 a3 a4, oL (P6 + 1) (.slice LvA acc.length lvc) (.slice LwA acc.length lwc), oR (P6 + 2) false (id) (111), oL (P6 + 3) (.slice LvA acc.length lvc) (.slice LwA acc.length lwc), rI (.slice LvA acc.length lvc) acc.length ((acc.map Prod.fst).map iV), rT (.slice LwA acc.length lwc) acc.length vs, txOb D (.slice loA low.length loc) low, txsOb D vs (acc.map Prod.snd), o10]) := Hd (HF.out.setBlk (i := 4) rfl hk (by rw [hw]; exact ((((((HF.out.ok 4 _ rfl : Blk v2 (P6 + 2) _ _).set_ 0 _).set_ 1 _).set_ 2 _).set_ 3 _).set_ 4 _).set_ 5 _))
  replace K := Hd (K.out.trans hk (λ x hx e => by have h := HP6.out; have e2 : x = P6 + 2 := e; omega))
  clear hk
  clear hw
  refine ⟨.inl (by rfl), ?_⟩
  refine wpCanon_nil ?_
  go_wp2
  have r0 : v3.cell? ⟨P6 + 1, 0, none⟩ = some (.slice LvA acc.length lvc) := (HF.out.ok 3 _ rfl : Blk v3 (P6 + 1) _ _).cell 0
  have r1 : v3.cell? ⟨P6 + 1, 1, none⟩ = some (.slice LwA acc.length lwc) := (HF.out.ok 3 _ rfl : Blk v3 (P6 + 1) _ _).cell 1
  have s0 := (HF.out.ok 4 _ rfl : Blk v3 (P6 + 2) _ _).cell 0
  have s1 := (HF.out.ok 4 _ rfl : Blk v3 (P6 + 2) _ _).cell 1
  have s2 := (HF.out.ok 4 _ rfl : Blk v3 (P6 + 2) _ _).cell 2
  have s3 := (HF.out.ok 4 _ rfl : Blk v3 (P6 + 2) _ _).cell 3
  have s4 := (HF.out.ok 4 _ rfl : Blk v3 (P6 + 2) _ _).cell 4
  have s5 := (HF.out.ok 4 _ rfl : Blk v3 (P6 + 2) _ _).cell 5
  obtain ⟨F, h1, h2, h3⟩ := chain_post HF.out HP6.out HMO.out HLO.out
  refine bodyPost_ret (v := .tuple #[.agg #[.slice LvA acc.length lvc, .slice LwA acc.length lwc], .slice mtA met.length mtc, .agg #[.bool false, .int .i64 id, .int .i64 111, .int .i64 0, .int .i64 0, .int .i64 0]]) (by simp [results, Tryz.results95, go_sem, r0, r1, s0, s1, s2, s3, s4, s5]) rfl ⟨_, _, _, rfl, h1, F, h2, h3, K.out⟩
 have HLV := Hd hlv
 have hlv' : (s.nd.lvl == level) = true := by simpa using hlv
 clear hlv
 have c0 := (HF.out.ok 2 _ rfl : Blk w2 P6 _ _).cell 0
 have c1 := (HF.out.ok 2 _ rfl : Blk w2 P6 _ _).cell 1
 have c2 := (HF.out.ok 2 _ rfl : Blk w2 P6 _ _).cell 2
 have c3 := (HF.out.ok 2 _ rfl : Blk w2 P6 _ _).cell 3
 have c4 := (HF.out.ok 2 _ rfl : Blk w2 P6 _ _).cell 4
 have lc := (HF.out.ok 2 _ rfl : Blk w2 P6 _ _).lt
 go_wp2_with fail
 clear c0 c1 c2 c3 c4 lc n0 n1 n2 n3 n4 n5 ca
 refine calls_at (λ w3 hw => ?_)
 obtain ⟨N18, hN⟩ : ∃ N, w2.heap.size = N := ⟨_, rfl⟩
 rw [hN]
 have hk : Keeps Nob w2 w3 := by rw [hw]; exact Keeps.alloc _ _ _
 replace HF : Hid (Fam w3 Nob [arOb M D q L xs A, rI (.slice mtA met.length mtc) met.length (met.map iV), oC P6 a0 a1 a2 a3 a4, oL (P6 + 1) (.slice none 0 0) (.slice none 0 0), oR (P6 + 2) false (0) (0), oL (P6 + 3) (.slice LvA acc.length lvc) (.slice LwA acc.length lwc), rI (.slice LvA acc.length lvc) acc.length ((acc.map Prod.fst).map iV), rT (.slice LwA acc.length lwc) acc.length vs, txOb D (.slice loA low.length loc) low, txsOb D vs (acc.map Prod.snd), oN N18 X1 k1 X3 k3 X4 k4 X5 k5 s.nd]) := Hd (HF.out.allocAt (i := 10) rfl hk (by rw [hw, <- hN]; exact Blk.new _ _ _) (by rw [hN]; exact Nat.le_refl _))
 replace HND := Hd (HND.out.keeps hk (λ _ _ _ h => h))
 replace K := tr_ K hk
 clear hk hw hN
 refine (checkR HND.out HS.out).mono ?_
 rintro e w4 ⟨rfl, hk⟩
 replace HF := Hd (HF.out.nob0 hk)
 replace HND := Hd (HND.out.keeps hk (λ _ _ _ h => h))
 replace K := tr_ K hk
 clear hk HAR
 by_cases hck : mayE s.nd a0 a1 a2 a3 a4 = 0
 rotate_left
 ·have hne : (mayE s.nd a0 a1 a2 a3 a4 == 0) = false := by simpa using hck
  obtain rfl : R = (acc, met, .wrong id (mayE s.nd a0 a1 a2 a3 a4)) := by have h := HR.out; rw [HCON.out, HLV.out] at h; unfold chkM at h; simp only [Bool.false_eq_true, if_false, hck, ne_eq, not_false_eq_true, not_true_eq_false, if_true] at h; exact h.symm
  try go_wp2
  refine code_at (λ vo hw => ?_)
  have hk : Keeps Nob w4 vo := by rw [hw]; first | exact Keeps.refl _ _ | exact Keeps.alloc _ _ _
  replace HF := Hd (HF.out.nob0 hk)
  replace K := tr_ K hk
  clear hk
  clear hw
  have l0 : vo.cell? ⟨P6 + 3, 0, none⟩ = some (.slice LvA acc.length lvc) := (HF.out.ok 5 _ rfl : Blk vo (P6 + 3) _ _).cell 0
  have l1 : vo.cell? ⟨P6 + 3, 1, none⟩ = some (.slice LwA acc.length lwc) := (HF.out.ok 5 _ rfl : Blk vo (P6 + 3) _ _).cell 1
  refine rC_ [0, 1, 2, 3, 4, 5, 6, 7] 5 (λ W => W.cell? ⟨P6 + 3, 0, none⟩ = some (.slice LvA acc.length lvc) /\ W.cell? ⟨P6 + 3, 1, none⟩ = some (.slice LwA acc.length lwc)) ⟨l0, l1⟩ ?_
  refine canon_at (λ v0 hw => ?_)
  have hk : Keeps Nob vo v0 := by rw [hw]; exact Keeps.drew _ _
  clear hw l0 l1
  replace HF := Hd (HF.out.nob0 hk)
  replace K := tr_ K hk
  clear hk
  iterate 4
   refine cR_ (v := ?_) rfl ?_ ?_
   rotate_left
   ·intro W hW
    try (obtain ⟨g1, g2⟩ : _ /\ _ := hW)
    go_simp
    try rfl
   simp only [Act.put, sa_, sb_, sc_]
  refine cA_ rfl ?_
  go_wp2_with (go_at_call 94; refine (wrongR id (mayE s.nd a0 a1 a2 a3 a4) _).mono ?_; rintro e v1 ⟨rfl, hk⟩)
  replace HF := Hd (HF.out.nob0 hk)
  replace K := tr_ K hk
  clear hk
  refine ⟨.inr ⟨(HF.out.ok 5 _ rfl : Blk v1 (P6 + 3) _ _).cell 0, (HF.out.ok 5 _ rfl : Blk v1 (P6 + 3) _ _).cell 1⟩, ?_⟩
  refine cA_ rfl ?_
  have q0 := (HF.out.ok 3 _ rfl : Blk v1 (P6 + 1) _ _).cell 0
  have q1 := (HF.out.ok 3 _ rfl : Blk v1 (P6 + 1) _ _).cell 1
  have f0 := (HF.out.ok 3 _ rfl : Blk v1 (P6 + 1) _ _).frozen 0
  have f1 := (HF.out.ok 3 _ rfl : Blk v1 (P6 + 1) _ _).frozen 1
  go_wp2
  clear q0 q1 f0 f1
  refine canon_at' (λ v2 hw => ?_)
  have hk : Keeps (λ x => x = P6 + 1) v1 v2 := by rw [hw]; exact (Keeps.setCell _ (M := λ x => x = P6 + 1) rfl _).setCell' (λ _ => rfl) _
  replace HF : Hid (Fam v2 Nob [arOb M D q L xs A, rI (.slice mtA met.length mtc) met.length (met.map iV), oC P6 a0 a1 a2 a3 a4, oL (P6 + 1) (.slice LvA acc.length lvc) (.slice LwA acc.length lwc), oR (P6 + 2) false (0) (0), oL (P6 + 3) (.slice LvA acc.length lvc) (.slice LwA acc.length lwc), rI (.slice LvA acc.length lvc) acc.length ((acc.map Prod.fst).map iV), rT (.slice LwA acc.length lwc) acc.length vs, txOb D (.slice loA low.length loc) low, txsOb D vs (acc.map Prod.snd), oN N18 X1 k1 X3 k3 X4 k4 X5 k5 s.nd]) := Hd (HF.out.setBlk (i := 3) rfl hk (by rw [hw]; exact ((HF.out.ok 3 _ rfl : Blk v1 (P6 + 1) _ _).set_ 0 _).set_ 1 _))
  replace K := Hd (K.out.trans hk (λ x hx e => by have h := HP6.out; have e2 : x = P6 + 1 := e; omega))
  clear hk
  clear hw
  refine ⟨.inl (by rfl), ?_⟩
  iterate 1
   refine cR_ (v := ?_) rfl ?_ ?_
   rotate_left
   ·intro W hW
    try (obtain ⟨g1, g2⟩ : _ /\ _ := hW)
    go_simp
    try rfl
   simp only [Act.put, sa_, sb_, sc_]
  refine cA_ rfl ?_
  have q0 := (HF.out.ok 4 _ rfl : Blk v2 (P6 + 2) _ _).cell 0
  have f0 := (HF.out.ok 4 _ rfl : Blk v2 (P6 + 2) _ _).frozen 0
  have q1 := (HF.out.ok 4 _ rfl : Blk v2 (P6 + 2) _ _).cell 1
  have f1 := (HF.out.ok 4 _ rfl : Blk v2 (P6 + 2) _ _).frozen 1
  have q2 := (HF.out.ok 4 _ rfl : Blk v2 (P6 + 2) _ _).cell 2
  have f2 := (HF.out.ok 4 _ rfl : Blk v2 (P6 + 2) _ _).frozen 2
  have q3 := (HF.out.ok 4 _ rfl : Blk v2 (P6 + 2) _ _).cell 3
  have f3 := (HF.out.ok 4 _ rfl : Blk v2 (P6 + 2) _ _).frozen 3
  have q4 := (HF.out.ok 4 _ rfl : Blk v2 (P6 + 2) _ _).cell 4
  have f4 := (HF.out.ok 4 _ rfl : Blk v2 (P6 + 2) _ _).frozen 4
  have q5 := (HF.out.ok 4 _ rfl : Blk v2 (P6 + 2) _ _).cell 5
  have f5 := (HF.out.ok 4 _ rfl : Blk v2 (P6 + 2) _ _).frozen 5
  go_wp2
  clear q0 f0 q1 f1 q2 f2 q3 f3 q4 f4 q5 f5
  refine canon_at' (λ v3 hw => ?_)
  have hk : Keeps (λ x => x = P6 + 2) v2 v3 := by rw [hw]; exact (((((Keeps.setCell _ (M := λ x => x = P6 + 2) rfl _).setCell' (λ _ => rfl) _).setCell' (λ _ => rfl) _).setCell' (λ _ => rfl) _).setCell' (λ _ => rfl) _).setCell' (λ _ => rfl) _
  replace HF : Hid (Fam v3 Nob [arOb M D q L xs A, rI (.slice mtA met.length mtc) met.length (met.map iV), oC P6 a0 a1 a2 a3 a4, oL (P6 + 1) (.slice LvA acc.length lvc) (.slice LwA acc.length lwc), oR (P6 + 2) false (id) ((mayE s.nd a0 a1 a2 a3 a4)), oL (P6 + 3) (.slice LvA acc.length lvc) (.slice LwA acc.length lwc), rI (.slice LvA acc.length lvc) acc.length ((acc.map Prod.fst).map iV), rT (.slice LwA acc.length lwc) acc.length vs, txOb D (.slice loA low.length loc) low, txsOb D vs (acc.map Prod.snd), oN N18 X1 k1 X3 k3 X4 k4 X5 k5 s.nd]) := Hd (HF.out.setBlk (i := 4) rfl hk (by rw [hw]; exact ((((((HF.out.ok 4 _ rfl : Blk v2 (P6 + 2) _ _).set_ 0 _).set_ 1 _).set_ 2 _).set_ 3 _).set_ 4 _).set_ 5 _))
  replace K := Hd (K.out.trans hk (λ x hx e => by have h := HP6.out; have e2 : x = P6 + 2 := e; omega))
  clear hk
  clear hw
  refine ⟨.inl (by rfl), ?_⟩
  refine wpCanon_nil ?_
  go_wp2
  have r0 : v3.cell? ⟨P6 + 1, 0, none⟩ = some (.slice LvA acc.length lvc) := (HF.out.ok 3 _ rfl : Blk v3 (P6 + 1) _ _).cell 0
  have r1 : v3.cell? ⟨P6 + 1, 1, none⟩ = some (.slice LwA acc.length lwc) := (HF.out.ok 3 _ rfl : Blk v3 (P6 + 1) _ _).cell 1
  have s0 := (HF.out.ok 4 _ rfl : Blk v3 (P6 + 2) _ _).cell 0
  have s1 := (HF.out.ok 4 _ rfl : Blk v3 (P6 + 2) _ _).cell 1
  have s2 := (HF.out.ok 4 _ rfl : Blk v3 (P6 + 2) _ _).cell 2
  have s3 := (HF.out.ok 4 _ rfl : Blk v3 (P6 + 2) _ _).cell 3
  have s4 := (HF.out.ok 4 _ rfl : Blk v3 (P6 + 2) _ _).cell 4
  have s5 := (HF.out.ok 4 _ rfl : Blk v3 (P6 + 2) _ _).cell 5
  obtain ⟨F, h1, h2, h3⟩ := chain_post HF.out HP6.out HMO.out HLO.out
  refine bodyPost_ret (v := .tuple #[.agg #[.slice LvA acc.length lvc, .slice LwA acc.length lwc], .slice mtA met.length mtc, .agg #[.bool false, .int .i64 id, .int .i64 (mayE s.nd a0 a1 a2 a3 a4), .int .i64 0, .int .i64 0, .int .i64 0]]) (by simp [results, Tryz.results95, go_sem, r0, r1, s0, s1, s2, s3, s4, s5]) rfl ⟨_, _, _, rfl, h1, F, h2, h3, K.out⟩
 have HR2 : Hid ((if lowBad low s.nd = true then (acc, met, Rp.wrong id 112)
   else if s.nd.right = 0 then (acc ++ [(id, low)], met ++ [id], .ok)
   else chainM A (chkM a0 a1 a2 a3 a4) level (A.sl.length + 1 - (met ++ [id]).length) s.nd.right s.nd.high (met ++ [id]) (acc ++ [(id, low)])) = R) := by
  have h := HR.out; rw [HCON.out, HLV.out] at h; unfold chkM at h
  simp only [Bool.false_eq_true, if_false, hck, ne_eq, not_true_eq_false] at h
  exact h
 rw [hck]
 clear hck HR
 have n1 := (HF.out.ok 10 _ rfl : Blk w4 N18 _ _).cell 1
 have n3 := (HF.out.ok 10 _ rfl : Blk w4 N18 _ _).cell 3
 have HLOW : Hid (Byts w4 D (.slice loA low.length loc) low) := HF.out.ok 8 _ rfl
 by_cases hz : (0 : Int) < (low.length : Int)
 case' neg =>
  have HLB : Hid (lowBad low s.nd = false) := by show _ = _; unfold lowBad; rw [decide_eq_false (show ¬ 0 < low.length by omega)]; rfl
  obtain ⟨j0, hi0, hz0, hz1, hz2⟩ := info_parts Tryz.inf_int
  go_wp2_with (first  | (at_builtin; refine wpList_app rfl (.tmp 105) (.tmp 107) 31 rfl Tryz.underlying31 hi0 hz0 hz1 hz2 rfl (by decide) (v := .slice mtA met.length mtc) (n := met.length) (m := 1) (S := λ x => (Value.slice mtA met.length mtc).ownBlock = some x) (T := λ _ => True) (xs := met.map iV) (news := [.int .i64 id]) rfl ?c11 (y := .slice (some ⟨w4.heap.size, 0, none⟩) 1 1) rfl ?c21 ?c31 ?c41 ?c51 ?c61))
  case c11 => exact (HF.out.nob0 (Keeps.alloc Nob _ _)).ok 1 _ rfl
  case c21 => exact (SlG.lit1 _ _ _ _ (by simp)).mono (λ _ _ _ => trivial)
  case c31 => intro u hu; simp at hu; subst hu; rfl
  case c41 => unfold maxLen; omega
  case c51 => omega
 case' pos =>
  have hz' : 0 < low.length := by omega
  by_cases hkz : (0 : Int) < (s.nd.keys.length : Int)
  case' pos =>
   obtain ⟨ad, eX, _, hkc⟩ := Txts.cells HND.out.2.keys (i := 0) (by omega)
   subst eX
   obtain ⟨k0, kt, hks⟩ : ∃ k0 kt, s.nd.keys = k0 :: kt := by
    rcases hk : s.nd.keys with _ | ⟨a, b⟩
    ·rw [hk] at hkz; simp at hkz
    ·exact ⟨a, b, rfl⟩
   obtain ⟨u, hu, hbu⟩ := hkc 0 k0 (by rw [hks]; rfl)
   obtain ⟨KA, kc, ek, _, _⟩ := hbu.form
   subst ek
   have hu0 : w4.cell? ad = some (.slice KA k0.length kc) := by have h := hu; have e : ad.add 0 = ad := rfl; rw [e] at h; exact h
   have HKS := Hd hks
   have HBU := Hd hbu
   clear hks hbu hkc
   by_cases hb1 : cmp k0 low < 0
   case' pos =>
    have HLB : Hid (lowBad low s.nd = true) := by show _ = _; unfold lowBad; rw [HKS.out, decide_eq_true hz']; simp only [keyBelow, decide_eq_true hb1]; rfl
    go_wp2_with (go_at_call 102; first | (refine (cmpR HBU.out HLOW.out).mono ?_; rintro e w5 ⟨rfl, hk⟩; replace HF := Hd (HF.out.nob0 hk); replace HND := Hd (HND.out.keeps hk (λ _ _ _ h => h)); replace HLOW := Hd (HLOW.out.keeps hk (λ _ _ _ h => h)); replace K := tr_ K hk; have n1 := (HF.out.ok 10 _ rfl : Blk w5 N18 _ _).cell 1; clear hk))
    obtain ⟨X3, hX3⟩ : ∃ o, some ad = o := ⟨_, rfl⟩
    rw [hX3] at HF HND
   case' neg =>
    have HKB : Hid (keyBelow low s.nd.keys = false) := by show _ = _; rw [HKS.out]; exact decide_eq_false hb1
    by_cases hhz : (0 : Int) < (s.nd.high.length : Int)
    case' neg =>
     have HLB : Hid (lowBad low s.nd = false) := by show _ = _; unfold lowBad; rw [HKB.out, decide_eq_false (show ¬ 0 < s.nd.high.length by omega)]; simp
     obtain ⟨j0, hi0, hz0, hz1, hz2⟩ := info_parts Tryz.inf_int
     go_wp2_with (first | (go_at_call 102; first | (refine (cmpR HBU.out HLOW.out).mono ?_; rintro e w5 ⟨rfl, hk⟩; replace HF := Hd (HF.out.nob0 hk); replace HND := Hd (HND.out.keeps hk (λ _ _ _ h => h)); replace HLOW := Hd (HLOW.out.keeps hk (λ _ _ _ h => h)); replace K := tr_ K hk; have n1 := (HF.out.ok 10 _ rfl : Blk w5 N18 _ _).cell 1; clear hk)) | (at_builtin; refine wpList_app rfl (.tmp 105) (.tmp 107) 31 rfl Tryz.underlying31 hi0 hz0 hz1 hz2 rfl (by decide) (v := .slice mtA met.length mtc) (n := met.length) (m := 1) (S := λ x => (Value.slice mtA met.length mtc).ownBlock = some x) (T := λ _ => True) (xs := met.map iV) (news := [.int .i64 id]) rfl ?c11 (y := .slice (some ⟨w5.heap.size, 0, none⟩) 1 1) rfl ?c21 ?c31 ?c41 ?c51 ?c61))
     case c11 => exact (HF.out.nob0 (Keeps.alloc Nob _ _)).ok 1 _ rfl
     case c21 => exact (SlG.lit1 _ _ _ _ (by simp)).mono (λ _ _ _ => trivial)
     case c31 => intro u hu; simp at hu; subst hu; rfl
     case c41 => unfold maxLen; omega
     case c51 => omega
     obtain ⟨X3, hX3⟩ : ∃ o, some ad = o := ⟨_, rfl⟩
     rw [hX3] at HF HND
    case' pos =>
     by_cases hb2 : cmp s.nd.high low <= 0
     case' pos =>
      have HLB : Hid (lowBad low s.nd = true) := by show _ = _; unfold lowBad; rw [HKB.out, decide_eq_true hz', decide_eq_true (show 0 < s.nd.high.length by omega), decide_eq_true hb2]; rfl
      go_wp2_with (go_at_call 102; first | (refine (cmpR HBU.out HLOW.out).mono ?_; rintro e w5a ⟨rfl, hk⟩; replace HF := Hd (HF.out.nob0 hk); replace HND := Hd (HND.out.keeps hk (λ _ _ _ h => h)); replace HLOW := Hd (HLOW.out.keeps hk (λ _ _ _ h => h)); replace K := tr_ K hk; have n1 := (HF.out.ok 10 _ rfl : Blk w5a N18 _ _).cell 1; clear hk) | (refine (cmpR HND.out.1.high HLOW.out).mono ?_; rintro e w5 ⟨rfl, hk⟩; replace HF := Hd (HF.out.nob0 hk); replace HND := Hd (HND.out.keeps hk (λ _ _ _ h => h)); replace HLOW := Hd (HLOW.out.keeps hk (λ _ _ _ h => h)); replace K := tr_ K hk; have n1 := (HF.out.ok 10 _ rfl : Blk w5 N18 _ _).cell 1; clear hk))
      obtain ⟨X3, hX3⟩ : ∃ o, some ad = o := ⟨_, rfl⟩
      rw [hX3] at HF HND
     case' neg =>
      have HLB : Hid (lowBad low s.nd = false) := by show _ = _; unfold lowBad; rw [HKB.out, decide_eq_false hb2]; simp
      obtain ⟨j0, hi0, hz0, hz1, hz2⟩ := info_parts Tryz.inf_int
      go_wp2_with (first | (go_at_call 102; first | (refine (cmpR HBU.out HLOW.out).mono ?_; rintro e w5 ⟨rfl, hk⟩; replace HF := Hd (HF.out.nob0 hk); replace HND := Hd (HND.out.keeps hk (λ _ _ _ h => h)); replace HLOW := Hd (HLOW.out.keeps hk (λ _ _ _ h => h)); replace K := tr_ K hk; have n1 := (HF.out.ok 10 _ rfl : Blk w5 N18 _ _).cell 1; clear hk) | (refine (cmpR HND.out.1.high HLOW.out).mono ?_; rintro e w6 ⟨rfl, hk⟩; replace HF := Hd (HF.out.nob0 hk); replace HND := Hd (HND.out.keeps hk (λ _ _ _ h => h)); replace HLOW := Hd (HLOW.out.keeps hk (λ _ _ _ h => h)); replace K := tr_ K hk; have n1 := (HF.out.ok 10 _ rfl : Blk w6 N18 _ _).cell 1; clear hk)) | (at_builtin; refine wpList_app rfl (.tmp 105) (.tmp 107) 31 rfl Tryz.underlying31 hi0 hz0 hz1 hz2 rfl (by decide) (v := .slice mtA met.length mtc) (n := met.length) (m := 1) (S := λ x => (Value.slice mtA met.length mtc).ownBlock = some x) (T := λ _ => True) (xs := met.map iV) (news := [.int .i64 id]) rfl ?c11 (y := .slice (some ⟨w6.heap.size, 0, none⟩) 1 1) rfl ?c21 ?c31 ?c41 ?c51 ?c61))
      case c11 => exact (HF.out.nob0 (Keeps.alloc Nob _ _)).ok 1 _ rfl
      case c21 => exact (SlG.lit1 _ _ _ _ (by simp)).mono (λ _ _ _ => trivial)
      case c31 => intro u hu; simp at hu; subst hu; rfl
      case c41 => unfold maxLen; omega
      case c51 => omega
      obtain ⟨X3, hX3⟩ : ∃ o, some ad = o := ⟨_, rfl⟩
      rw [hX3] at HF HND
  rotate_left 4
  case' neg =>
   have HKB : Hid (keyBelow low s.nd.keys = false) := by
    show _ = _
    rcases hk : s.nd.keys with _ | ⟨a, b⟩
    ·rfl
    ·exact absurd (by rw [hk, List.length_cons]; omega) hkz
   by_cases hhz : (0 : Int) < (s.nd.high.length : Int)
   case' neg =>
    have HLB : Hid (lowBad low s.nd = false) := by show _ = _; unfold lowBad; rw [HKB.out, decide_eq_false (show ¬ 0 < s.nd.high.length by omega)]; simp
    obtain ⟨j0, hi0, hz0, hz1, hz2⟩ := info_parts Tryz.inf_int
    go_wp2_with (first  | (at_builtin; refine wpList_app rfl (.tmp 105) (.tmp 107) 31 rfl Tryz.underlying31 hi0 hz0 hz1 hz2 rfl (by decide) (v := .slice mtA met.length mtc) (n := met.length) (m := 1) (S := λ x => (Value.slice mtA met.length mtc).ownBlock = some x) (T := λ _ => True) (xs := met.map iV) (news := [.int .i64 id]) rfl ?c11 (y := .slice (some ⟨w4.heap.size, 0, none⟩) 1 1) rfl ?c21 ?c31 ?c41 ?c51 ?c61))
    case c11 => exact (HF.out.nob0 (Keeps.alloc Nob _ _)).ok 1 _ rfl
    case c21 => exact (SlG.lit1 _ _ _ _ (by simp)).mono (λ _ _ _ => trivial)
    case c31 => intro u hu; simp at hu; subst hu; rfl
    case c41 => unfold maxLen; omega
    case c51 => omega
   case' pos =>
    by_cases hb2 : cmp s.nd.high low <= 0
    case' pos =>
     have HLB : Hid (lowBad low s.nd = true) := by show _ = _; unfold lowBad; rw [HKB.out, decide_eq_true hz', decide_eq_true (show 0 < s.nd.high.length by omega), decide_eq_true hb2]; rfl
     go_wp2_with (go_at_call 102; first | (refine (cmpR HND.out.1.high HLOW.out).mono ?_; rintro e w5 ⟨rfl, hk⟩; replace HF := Hd (HF.out.nob0 hk); replace HND := Hd (HND.out.keeps hk (λ _ _ _ h => h)); replace HLOW := Hd (HLOW.out.keeps hk (λ _ _ _ h => h)); replace K := tr_ K hk; have n1 := (HF.out.ok 10 _ rfl : Blk w5 N18 _ _).cell 1; clear hk))
    case' neg =>
     have HLB : Hid (lowBad low s.nd = false) := by show _ = _; unfold lowBad; rw [HKB.out, decide_eq_false hb2]; simp
     obtain ⟨j0, hi0, hz0, hz1, hz2⟩ := info_parts Tryz.inf_int
     go_wp2_with (first | (go_at_call 102; first | (refine (cmpR HND.out.1.high HLOW.out).mono ?_; rintro e w5 ⟨rfl, hk⟩; replace HF := Hd (HF.out.nob0 hk); replace HND := Hd (HND.out.keeps hk (λ _ _ _ h => h)); replace HLOW := Hd (HLOW.out.keeps hk (λ _ _ _ h => h)); replace K := tr_ K hk; have n1 := (HF.out.ok 10 _ rfl : Blk w5 N18 _ _).cell 1; clear hk)) | (at_builtin; refine wpList_app rfl (.tmp 105) (.tmp 107) 31 rfl Tryz.underlying31 hi0 hz0 hz1 hz2 rfl (by decide) (v := .slice mtA met.length mtc) (n := met.length) (m := 1) (S := λ x => (Value.slice mtA met.length mtc).ownBlock = some x) (T := λ _ => True) (xs := met.map iV) (news := [.int .i64 id]) rfl ?c11 (y := .slice (some ⟨w5.heap.size, 0, none⟩) 1 1) rfl ?c21 ?c31 ?c41 ?c51 ?c61))
     case c11 => exact (HF.out.nob0 (Keeps.alloc Nob _ _)).ok 1 _ rfl
     case c21 => exact (SlG.lit1 _ _ _ _ (by simp)).mono (λ _ _ _ => trivial)
     case c31 => intro u hu; simp at hu; subst hu; rfl
     case c41 => unfold maxLen; omega
     case c51 => omega
 all_goals
  first
  |
   have hLB : lowBad low s.nd = true := HLB.out
   obtain rfl : R = (acc, met, .wrong id 112) := by have h := HR2.out; rw [HLB.out, if_pos rfl] at h; exact h.symm
   try go_wp2
   refine code_at (λ vo hw => ?_)
   have hk : Keeps Nob w5 vo := by rw [hw]; first | exact Keeps.refl _ _ | exact Keeps.alloc _ _ _
   replace HF := Hd (HF.out.nob0 hk)
   replace K := tr_ K hk
   clear hk
   clear hw
   have l0 : vo.cell? ⟨P6 + 3, 0, none⟩ = some (.slice LvA acc.length lvc) := (HF.out.ok 5 _ rfl : Blk vo (P6 + 3) _ _).cell 0
   have l1 : vo.cell? ⟨P6 + 3, 1, none⟩ = some (.slice LwA acc.length lwc) := (HF.out.ok 5 _ rfl : Blk vo (P6 + 3) _ _).cell 1
   refine rC_ [0, 1, 2, 3, 4, 5, 6] 4 (λ W => W.cell? ⟨P6 + 3, 0, none⟩ = some (.slice LvA acc.length lvc) /\ W.cell? ⟨P6 + 3, 1, none⟩ = some (.slice LwA acc.length lwc)) ⟨l0, l1⟩ ?_
   refine canon_at (λ v0 hw => ?_)
   have hk : Keeps Nob vo v0 := by rw [hw]; exact Keeps.drew _ _
   clear hw l0 l1
   replace HF := Hd (HF.out.nob0 hk)
   replace K := tr_ K hk
   clear hk
   iterate 3
    refine cR_ (v := ?_) rfl ?_ ?_
    rotate_left
    ·intro W hW
     try (obtain ⟨g1, g2⟩ : _ /\ _ := hW)
     go_simp
     try rfl
    simp only [Act.put, sa_, sb_, sc_]
   refine cA_ rfl ?_
   go_wp2_with (go_at_call 94; refine (wrongR id 112 _).mono ?_; rintro e v1 ⟨rfl, hk⟩)
   replace HF := Hd (HF.out.nob0 hk)
   replace K := tr_ K hk
   clear hk
   refine ⟨.inr ⟨(HF.out.ok 5 _ rfl : Blk v1 (P6 + 3) _ _).cell 0, (HF.out.ok 5 _ rfl : Blk v1 (P6 + 3) _ _).cell 1⟩, ?_⟩
   refine cA_ rfl ?_
   have q0 := (HF.out.ok 3 _ rfl : Blk v1 (P6 + 1) _ _).cell 0
   have q1 := (HF.out.ok 3 _ rfl : Blk v1 (P6 + 1) _ _).cell 1
   have f0 := (HF.out.ok 3 _ rfl : Blk v1 (P6 + 1) _ _).frozen 0
   have f1 := (HF.out.ok 3 _ rfl : Blk v1 (P6 + 1) _ _).frozen 1
   go_wp2
   clear q0 q1 f0 f1
   refine canon_at' (λ v2 hw => ?_)
   have hk : Keeps (λ x => x = P6 + 1) v1 v2 := by rw [hw]; exact (Keeps.setCell _ (M := λ x => x = P6 + 1) rfl _).setCell' (λ _ => rfl) _
   replace HF : Hid (Fam v2 Nob [arOb M D q L xs A, rI (.slice mtA met.length mtc) met.length (met.map iV), oC P6 a0 a1 a2 a3 a4, oL (P6 + 1) (.slice LvA acc.length lvc) (.slice LwA acc.length lwc), oR (P6 + 2) false (0) (0), oL (P6 + 3) (.slice LvA acc.length lvc) (.slice LwA acc.length lwc), rI (.slice LvA acc.length lvc) acc.length ((acc.map Prod.fst).map iV), rT (.slice LwA acc.length lwc) acc.length vs, txOb D (.slice loA low.length loc) low, txsOb D vs (acc.map Prod.snd), oN N18 X1 k1 X3 k3 X4 k4 X5 k5 s.nd]) := Hd (HF.out.setBlk (i := 3) rfl hk (by rw [hw]; exact ((HF.out.ok 3 _ rfl : Blk v1 (P6 + 1) _ _).set_ 0 _).set_ 1 _))
   replace K := Hd (K.out.trans hk (λ x hx e => by have h := HP6.out; have e2 : x = P6 + 1 := e; omega))
   clear hk
   clear hw
   refine ⟨.inl (by rfl), ?_⟩
   iterate 1
    refine cR_ (v := ?_) rfl ?_ ?_
    rotate_left
    ·intro W hW
     try (obtain ⟨g1, g2⟩ : _ /\ _ := hW)
     go_simp
     try rfl
    simp only [Act.put, sa_, sb_, sc_]
   refine cA_ rfl ?_
   have q0 := (HF.out.ok 4 _ rfl : Blk v2 (P6 + 2) _ _).cell 0
   have f0 := (HF.out.ok 4 _ rfl : Blk v2 (P6 + 2) _ _).frozen 0
   have q1 := (HF.out.ok 4 _ rfl : Blk v2 (P6 + 2) _ _).cell 1
   have f1 := (HF.out.ok 4 _ rfl : Blk v2 (P6 + 2) _ _).frozen 1
   have q2 := (HF.out.ok 4 _ rfl : Blk v2 (P6 + 2) _ _).cell 2
   have f2 := (HF.out.ok 4 _ rfl : Blk v2 (P6 + 2) _ _).frozen 2
   have q3 := (HF.out.ok 4 _ rfl : Blk v2 (P6 + 2) _ _).cell 3
   have f3 := (HF.out.ok 4 _ rfl : Blk v2 (P6 + 2) _ _).frozen 3
   have q4 := (HF.out.ok 4 _ rfl : Blk v2 (P6 + 2) _ _).cell 4
   have f4 := (HF.out.ok 4 _ rfl : Blk v2 (P6 + 2) _ _).frozen 4
   have q5 := (HF.out.ok 4 _ rfl : Blk v2 (P6 + 2) _ _).cell 5
   have f5 := (HF.out.ok 4 _ rfl : Blk v2 (P6 + 2) _ _).frozen 5
   go_wp2
   clear q0 f0 q1 f1 q2 f2 q3 f3 q4 f4 q5 f5
   refine canon_at' (λ v3 hw => ?_)
   have hk : Keeps (λ x => x = P6 + 2) v2 v3 := by rw [hw]; exact (((((Keeps.setCell _ (M := λ x => x = P6 + 2) rfl _).setCell' (λ _ => rfl) _).setCell' (λ _ => rfl) _).setCell' (λ _ => rfl) _).setCell' (λ _ => rfl) _).setCell' (λ _ => rfl) _
   replace HF : Hid (Fam v3 Nob [arOb M D q L xs A, rI (.slice mtA met.length mtc) met.length (met.map iV), oC P6 a0 a1 a2 a3 a4, oL (P6 + 1) (.slice LvA acc.length lvc) (.slice LwA acc.length lwc), oR (P6 + 2) false (id) (112), oL (P6 + 3) (.slice LvA acc.length lvc) (.slice LwA acc.length lwc), rI (.slice LvA acc.length lvc) acc.length ((acc.map Prod.fst).map iV), rT (.slice LwA acc.length lwc) acc.length vs, txOb D (.slice loA low.length loc) low, txsOb D vs (acc.map Prod.snd), oN N18 X1 k1 X3 k3 X4 k4 X5 k5 s.nd]) := Hd (HF.out.setBlk (i := 4) rfl hk (by rw [hw]; exact ((((((HF.out.ok 4 _ rfl : Blk v2 (P6 + 2) _ _).set_ 0 _).set_ 1 _).set_ 2 _).set_ 3 _).set_ 4 _).set_ 5 _))
   replace K := Hd (K.out.trans hk (λ x hx e => by have h := HP6.out; have e2 : x = P6 + 2 := e; omega))
   clear hk
   clear hw
   refine ⟨.inl (by rfl), ?_⟩
   refine wpCanon_nil ?_
   go_wp2
   have r0 : v3.cell? ⟨P6 + 1, 0, none⟩ = some (.slice LvA acc.length lvc) := (HF.out.ok 3 _ rfl : Blk v3 (P6 + 1) _ _).cell 0
   have r1 : v3.cell? ⟨P6 + 1, 1, none⟩ = some (.slice LwA acc.length lwc) := (HF.out.ok 3 _ rfl : Blk v3 (P6 + 1) _ _).cell 1
   have s0 := (HF.out.ok 4 _ rfl : Blk v3 (P6 + 2) _ _).cell 0
   have s1 := (HF.out.ok 4 _ rfl : Blk v3 (P6 + 2) _ _).cell 1
   have s2 := (HF.out.ok 4 _ rfl : Blk v3 (P6 + 2) _ _).cell 2
   have s3 := (HF.out.ok 4 _ rfl : Blk v3 (P6 + 2) _ _).cell 3
   have s4 := (HF.out.ok 4 _ rfl : Blk v3 (P6 + 2) _ _).cell 4
   have s5 := (HF.out.ok 4 _ rfl : Blk v3 (P6 + 2) _ _).cell 5
   obtain ⟨F, h1, h2, h3⟩ := chain_post HF.out HP6.out HMO.out HLO.out
   refine bodyPost_ret (v := .tuple #[.agg #[.slice LvA acc.length lvc, .slice LwA acc.length lwc], .slice mtA met.length mtc, .agg #[.bool false, .int .i64 id, .int .i64 112, .int .i64 0, .int .i64 0, .int .i64 0]]) (by simp [results, Tryz.results95, go_sem, r0, r1, s0, s1, s2, s3, s4, s5]) rfl ⟨_, _, _, rfl, h1, F, h2, h3, K.out⟩
  | as_aux_lemma =>
    intro v' b1 ho hk6 _
    obtain ⟨mA2, mc2, ev⟩ := ho.form
    subst ev
    have HMO2 : Hid (∀ x, (Value.slice mA2 (met.length + 1) mc2).ownBlock = some x -> (Value.slice mA met0.length mc).ownBlock = some x \/ P6 <= x) := λ x hx => by
     rcases (ho.blk hx).1 with h | h
     ·exact HMO.out x h
     ·have h1 := h.1; have h2 := K.out.size; have h3 := HP6.out; exact .inr (by first | omega | (simp at h1; omega))
    replace HND := Hd ((HND.out.keeps (Keeps.alloc Nob _ _) (λ _ _ _ h => h)).keeps hk6 (λ x _ hd e => HF.out.apart 1 0 _ _ rfl rfl (by decide) x e (.inr hd)))
    replace K := Hd ((K.out.alloc' _).trans hk6 (λ x hx e => (HMO.out x e).elim (λ h => h) (λ h => absurd hx (by have := HP6.out; omega))))
    replace HF : Hid (Fam b1 Nob [arOb M D q L xs A, rI (.slice mA2 (met.length + 1) mc2) (met.length + 1) (met.map iV ++ [.int .i64 id]), oC P6 a0 a1 a2 a3 a4, oL (P6 + 1) (.slice none 0 0) (.slice none 0 0), oR (P6 + 2) false (0) (0), oL (P6 + 3) (.slice LvA acc.length lvc) (.slice LwA acc.length lwc), rI (.slice LvA acc.length lvc) acc.length ((acc.map Prod.fst).map iV), rT (.slice LwA acc.length lwc) acc.length vs, txOb D (.slice loA low.length loc) low, txsOb D vs (acc.map Prod.snd), oN N18 X1 k1 X3 k3 X4 k4 X5 k5 s.nd]) := Hd ((HF.out.nob0 (Keeps.alloc Nob _ _)).app0 (i := 1) rfl hk6 (ho.mono (λ b _ hb => hb.imp (λ h => h) (λ h => ⟨by simpa using h.1, h.2⟩))))
    clear ho hk6 hi0 hz0 hz1 hz2 n1 HLOW
    have l0 : b1.cell? ⟨P6 + 3, 0, none⟩ = some (.slice LvA acc.length lvc) := (HF.out.ok 5 _ rfl : Blk b1 (P6 + 3) _ _).cell 0
    have lt0 := (HF.out.ok 5 _ rfl : Blk b1 (P6 + 3) _ _).lt
    obtain ⟨j0, hi0, hz0, hz1, hz2⟩ := info_parts Tryz.inf_int
    go_wp2_with (first  | (at_builtin; refine wpList_app rfl (.tmp 110) (.tmp 112) 31 rfl Tryz.underlying31 hi0 hz0 hz1 hz2 rfl (by decide) (v := .slice LvA acc.length lvc) (n := acc.length) (m := 1) (S := λ x => (Value.slice LvA acc.length lvc).ownBlock = some x) (T := λ _ => True) (xs := (acc.map Prod.fst).map iV) (news := [.int .i64 id]) rfl ?c12 (y := .slice (some ⟨b1.heap.size, 0, none⟩) 1 1) rfl ?c22 ?c32 ?c42 ?c52 ?c62))
    case c12 => exact (HF.out.nob0 (Keeps.alloc Nob _ _)).ok 6 _ rfl
    case c22 => exact (SlG.lit1 _ _ _ _ (by simp)).mono (λ _ _ _ => trivial)
    case c32 => intro u hu; simp at hu; subst hu; rfl
    case c42 => unfold maxLen; omega
    case c52 => omega
    case c62 =>
    intro v' b2 ho hk6 _
    rw [<- List.map_map] at ho
    obtain ⟨LvA2, lvc2, ev⟩ := ho.form
    subst ev
    have HLO2 : Hid (∀ x, (Value.slice LvA2 (acc.length + 1) lvc2).ownBlock = some x -> P6 <= x) := λ x hx => by
     rcases (ho.blk hx).1 with h | h
     ·exact HLO.out x (.inl h)
     ·have h1 := h.1; have h2 := K.out.size; have h3 := HP6.out; first | omega | (simp at h1; omega)
    replace HND := Hd ((HND.out.keeps (Keeps.alloc Nob _ _) (λ _ _ _ h => h)).keeps hk6 (λ x _ hd e => HF.out.apart 6 0 _ _ rfl rfl (by decide) x e (.inr hd)))
    replace K := Hd ((K.out.alloc' _).trans hk6 (λ x hx e => absurd hx (by have := HP6.out; have := HLO.out x (.inl e); omega)))
    replace HF : Hid (Fam b2 Nob [arOb M D q L xs A, rI (.slice mA2 (met.length + 1) mc2) (met.length + 1) (met.map iV ++ [.int .i64 id]), oC P6 a0 a1 a2 a3 a4, oL (P6 + 1) (.slice none 0 0) (.slice none 0 0), oR (P6 + 2) false (0) (0), oL (P6 + 3) (.slice LvA acc.length lvc) (.slice LwA acc.length lwc), rI (.slice LvA2 (acc.length + 1) lvc2) (acc.length + 1) ((acc.map Prod.fst).map iV ++ [.int .i64 id]), rT (.slice LwA acc.length lwc) acc.length vs, txOb D (.slice loA low.length loc) low, txsOb D vs (acc.map Prod.snd), oN N18 X1 k1 X3 k3 X4 k4 X5 k5 s.nd]) := Hd ((HF.out.nob0 (Keeps.alloc Nob _ _)).app0 (i := 6) rfl hk6 (ho.mono (λ b _ hb => hb.imp (λ h => h) (λ h => ⟨by simpa using h.1, h.2⟩))))
    clear ho hk6 hi0 hz0 hz1 hz2 l0 lt0
    try simp only [Act.put, sa_, sb_, sc_]
    refine wpList_cut [(some 114, .pointer (some ⟨P6 + 3, 0, none⟩))] (λ W' => Keeps (λ x => x = P6 + 3) b2 W' /\ Blk W' (P6 + 3) 105 #[.slice LvA2 (acc.length + 1) lvc2, .slice LwA acc.length lwc]) ?_ ?_
    ·have q0 := (HF.out.ok 5 _ rfl : Blk b2 (P6 + 3) _ _).cell 0
     have f0 := (HF.out.ok 5 _ rfl : Blk b2 (P6 + 3) _ _).frozen 0
     go_wp2
     exact ⟨by simp only [putsA, Act.put, sa_, sb_, sc_], Keeps.setCell _ (M := λ x => x = P6 + 3) rfl _, (HF.out.ok 5 _ rfl : Blk b2 (P6 + 3) _ _).set_ 0 _⟩
    rintro b3 ⟨hk, hb⟩
    simp only [putsA, Act.put, sa_, sb_, sc_]
    replace HND := Hd (HND.out.keeps hk (λ x _ hd e => HF.out.apart 5 0 _ _ rfl rfl (by decide) x e (.inr hd)))
    replace K := Hd (K.out.trans hk (λ x hx e => absurd hx (by have := HP6.out; have e2 : x = P6 + 3 := e; omega)))
    replace HF : Hid (Fam b3 Nob [arOb M D q L xs A, rI (.slice mA2 (met.length + 1) mc2) (met.length + 1) (met.map iV ++ [.int .i64 id]), oC P6 a0 a1 a2 a3 a4, oL (P6 + 1) (.slice none 0 0) (.slice none 0 0), oR (P6 + 2) false (0) (0), oL (P6 + 3) (.slice LvA2 (acc.length + 1) lvc2) (.slice LwA acc.length lwc), rI (.slice LvA2 (acc.length + 1) lvc2) (acc.length + 1) ((acc.map Prod.fst).map iV ++ [.int .i64 id]), rT (.slice LwA acc.length lwc) acc.length vs, txOb D (.slice loA low.length loc) low, txsOb D vs (acc.map Prod.snd), oN N18 X1 k1 X3 k3 X4 k4 X5 k5 s.nd]) := Hd (HF.out.setBlk (i := 5) rfl hk hb)
    clear hk hb
    have l0 : b3.cell? ⟨P6 + 3, 1, none⟩ = some (.slice LwA acc.length lwc) := (HF.out.ok 5 _ rfl : Blk b3 (P6 + 3) _ _).cell 1
    have lt0 := (HF.out.ok 5 _ rfl : Blk b3 (P6 + 3) _ _).lt
    obtain ⟨j0, hi0, hz0, hz1, hz2⟩ := info_parts Tryz.inf_text
    go_wp2_with (first  | (at_builtin; refine wpList_app rfl (.tmp 116) (.tmp 118) 30 rfl Tryz.underlying30 hi0 hz0 hz1 hz2 rfl (by decide) (v := .slice LwA acc.length lwc) (n := acc.length) (m := 1) (S := λ x => (Value.slice LwA acc.length lwc).ownBlock = some x) (T := λ _ => True) (xs := vs) (news := [.slice loA low.length loc]) rfl ?c13 (y := .slice (some ⟨b3.heap.size, 0, none⟩) 1 1) rfl ?c23 ?c33 ?c43 ?c53 ?c63))
    case c13 => exact (HF.out.nob0 (Keeps.alloc Nob _ _)).ok 7 _ rfl
    case c23 => exact (SlG.lit1 _ _ _ _ (by simp)).mono (λ _ _ _ => trivial)
    case c33 => intro u hu; simp at hu; subst hu; rfl
    case c43 => unfold maxLen; omega
    case c53 => omega
    case c63 =>
    intro v' b4 ho hk6 _
    obtain ⟨LwA2, lwc2, ev⟩ := ho.form
    subst ev
    have HLO3 : Hid (∀ x, (Value.slice LwA2 (acc.length + 1) lwc2).ownBlock = some x -> P6 <= x) := λ x hx => by
     rcases (ho.blk hx).1 with h | h
     ·exact HLO.out x (.inr h)
     ·have h1 := h.1; have h2 := K.out.size; have h3 := HP6.out; first | omega | (simp at h1; omega)
    replace HND := Hd ((HND.out.keeps (Keeps.alloc Nob _ _) (λ _ _ _ h => h)).keeps hk6 (λ x _ hd e => HF.out.apart 7 0 _ _ rfl rfl (by decide) x e (.inr hd)))
    replace K := Hd ((K.out.alloc' _).trans hk6 (λ x hx e => absurd hx (by have := HP6.out; have := HLO.out x (.inr e); omega)))
    replace HF : Hid (Fam b4 Nob [arOb M D q L xs A, rI (.slice mA2 (met.length + 1) mc2) (met.length + 1) (met.map iV ++ [.int .i64 id]), oC P6 a0 a1 a2 a3 a4, oL (P6 + 1) (.slice none 0 0) (.slice none 0 0), oR (P6 + 2) false (0) (0), oL (P6 + 3) (.slice LvA2 (acc.length + 1) lvc2) (.slice LwA acc.length lwc), rI (.slice LvA2 (acc.length + 1) lvc2) (acc.length + 1) ((acc.map Prod.fst).map iV ++ [.int .i64 id]), rT (.slice LwA2 (acc.length + 1) lwc2) (acc.length + 1) (vs ++ [Value.slice loA low.length loc]), txOb D (.slice loA low.length loc) low, txsOb D vs (acc.map Prod.snd), oN N18 X1 k1 X3 k3 X4 k4 X5 k5 s.nd]) := Hd ((HF.out.nob0 (Keeps.alloc Nob _ _)).app0 (i := 7) rfl hk6 (ho.mono (λ b _ hb => hb.imp (λ h => h) (λ h => ⟨by simpa using h.1, h.2⟩))))
    clear ho hk6 hi0 hz0 hz1 hz2 l0 lt0
    try simp only [Act.put, sa_, sb_, sc_]
    refine wpList_cut [(some 120, .pointer (some ⟨P6 + 3, 1, none⟩))] (λ W' => Keeps (λ x => x = P6 + 3) b4 W' /\ Blk W' (P6 + 3) 105 #[.slice LvA2 (acc.length + 1) lvc2, .slice LwA2 (acc.length + 1) lwc2]) ?_ ?_
    ·have q0 := (HF.out.ok 5 _ rfl : Blk b4 (P6 + 3) _ _).cell 1
     have f0 := (HF.out.ok 5 _ rfl : Blk b4 (P6 + 3) _ _).frozen 1
     go_wp2
     exact ⟨by simp only [putsA, Act.put, sa_, sb_, sc_], Keeps.setCell _ (M := λ x => x = P6 + 3) rfl _, (HF.out.ok 5 _ rfl : Blk b4 (P6 + 3) _ _).set_ 1 _⟩
    rintro b5 ⟨hk, hb⟩
    simp only [putsA, Act.put, sa_, sb_, sc_]
    replace HND := Hd (HND.out.keeps hk (λ x _ hd e => HF.out.apart 5 0 _ _ rfl rfl (by decide) x e (.inr hd)))
    replace K := Hd (K.out.trans hk (λ x hx e => absurd hx (by have := HP6.out; have e2 : x = P6 + 3 := e; omega)))
    replace HF : Hid (Fam b5 Nob [arOb M D q L xs A, rI (.slice mA2 (met.length + 1) mc2) (met.length + 1) (met.map iV ++ [.int .i64 id]), oC P6 a0 a1 a2 a3 a4, oL (P6 + 1) (.slice none 0 0) (.slice none 0 0), oR (P6 + 2) false (0) (0), oL (P6 + 3) (.slice LvA2 (acc.length + 1) lvc2) (.slice LwA2 (acc.length + 1) lwc2), rI (.slice LvA2 (acc.length + 1) lvc2) (acc.length + 1) ((acc.map Prod.fst).map iV ++ [.int .i64 id]), rT (.slice LwA2 (acc.length + 1) lwc2) (acc.length + 1) (vs ++ [Value.slice loA low.length loc]), txOb D (.slice loA low.length loc) low, txsOb D vs (acc.map Prod.snd), oN N18 X1 k1 X3 k3 X4 k4 X5 k5 s.nd]) := Hd (HF.out.setBlk (i := 5) rfl hk hb)
    clear hk hb
    have E1 : (met ++ [id]).length = met.length + 1 := by simp
    have E2 : (met ++ [id]).map iV = met.map iV ++ [.int .i64 id] := by rw [List.map_append]; rfl
    have E3 : (acc ++ [(id, low)]).length = acc.length + 1 := by simp
    have E4 : ((acc ++ [(id, low)]).map Prod.fst).map iV = (acc.map Prod.fst).map iV ++ [.int .i64 id] := by rw [List.map_append, List.map_append]; rfl
    have E5 : (acc ++ [(id, low)]).map Prod.snd = acc.map Prod.snd ++ [low] := by rw [List.map_append]; rfl
    have h9 : (vs ++ [Value.slice loA low.length loc]).length = ((acc ++ [(id, low)]).map Prod.snd).length /\ ∀ (i : Nat) u x, (vs ++ [Value.slice loA low.length loc])[i]? = some u -> ((acc ++ [(id, low)]).map Prod.snd)[i]? = some x -> Byts b5 D u x := by
     rw [E5]
     have h : vs.length = (acc.map Prod.snd).length /\ ∀ (i : Nat) u x, vs[i]? = some u -> (acc.map Prod.snd)[i]? = some x -> Byts b5 D u x := HF.out.ok 9 _ rfl
     refine ⟨by rw [List.length_append, List.length_append, h.1]; rfl, λ i u x hu hx => ?_⟩
     rcases Nat.lt_or_ge i vs.length with hi | hi
     ·rw [List.getElem?_append_left hi] at hu
      rw [List.getElem?_append_left (by rw [<- h.1]; exact hi)] at hx
      exact h.2 i u x hu hx
     ·rw [List.getElem?_append_right hi] at hu
      rw [List.getElem?_append_right (by rw [<- h.1]; exact hi), <- h.1] at hx
      obtain ⟨d, hd⟩ : ∃ d, i - vs.length = d := ⟨_, rfl⟩
      rw [hd] at hu hx
      cases d with
      | zero => simp at hu hx; subst hu hx; exact HF.out.ok 8 _ rfl
      | succ d => simp at hu
    have HT : Hid (Fam b5 Nob [arOb M D q L xs A, rI (.slice mA2 (met.length + 1) mc2) (met ++ [id]).length ((met ++ [id]).map iV), oC P6 a0 a1 a2 a3 a4, oL (P6 + 1) (.slice none 0 0) (.slice none 0 0), oR (P6 + 2) false (0) (0), oL (P6 + 3) (.slice LvA2 (acc.length + 1) lvc2) (.slice LwA2 (acc.length + 1) lwc2), rI (.slice LvA2 (acc.length + 1) lvc2) (acc ++ [(id, low)]).length (((acc ++ [(id, low)]).map Prod.fst).map iV), rT (.slice LwA2 (acc.length + 1) lwc2) (acc ++ [(id, low)]).length (vs ++ [Value.slice loA low.length loc]), txOb D (.slice loA low.length loc) low, txsOb D (vs ++ [Value.slice loA low.length loc]) ((acc ++ [(id, low)]).map Prod.snd), oN N18 X1 k1 X3 k3 X4 k4 X5 k5 s.nd]) := by
     show Fam _ _ _
     rw [E1, E2, E3, E4]
     exact HF.out.swap (i := 9) rfl h9 (λ x hx => hx) (λ x h => h)
    have n2 := (HF.out.ok 10 _ rfl : Blk b5 N18 _ _).cell 2
    by_cases hr : s.nd.right = 0
    ·as_aux_lemma =>
     obtain rfl : R = (acc ++ [(id, low)], met ++ [id], .ok) := by have h := HR2.out; rw [HLB.out, if_neg (by decide), if_pos hr] at h; exact h.symm
     clear E1 E2 E3 E4 E5 h9 HF HND
     rw [hr] at n2
     clear hr
     go_upto_region 22 with (fail)
     clear n2
     refine wp_region_list ?_
     refine wpList_take 4 [(some 125, .agg #[.slice LvA2 (acc.length + 1) lvc2, .slice LwA2 (acc.length + 1) lwc2]), (some 126, .slice mA2 (met.length + 1) mc2), (some 127, .agg #[.bool true, .int .i64 0, .int .i64 0, .int .i64 0, .int .i64 0, .int .i64 0]), (none, .tuple #[])] (λ W' => Keeps (λ x => x = P6 + 1) b5 W' /\ Blk W' (P6 + 1) 105 #[.slice LvA2 (acc.length + 1) lvc2, .slice LwA2 (acc.length + 1) lwc2]) ?_ ?_
     ·have l0 := (HT.out.ok 5 _ rfl : Blk b5 (P6 + 3) _ _).cell 0
      have l1 := (HT.out.ok 5 _ rfl : Blk b5 (P6 + 3) _ _).cell 1
      have q0 := (HT.out.ok 3 _ rfl : Blk b5 (P6 + 1) _ _).cell 0
      have q1 := (HT.out.ok 3 _ rfl : Blk b5 (P6 + 1) _ _).cell 1
      have f0 := (HT.out.ok 3 _ rfl : Blk b5 (P6 + 1) _ _).frozen 0
      have f1 := (HT.out.ok 3 _ rfl : Blk b5 (P6 + 1) _ _).frozen 1
      show wpList _ _ _ [_, _, _, _] _ _
      go_wp2
      exact ⟨by simp only [putsA, Act.put, sa_, sb_, sc_], (Keeps.setCell _ (M := λ x => x = P6 + 1) rfl _).setCell' (λ _ => rfl) _, ((HT.out.ok 3 _ rfl : Blk b5 (P6 + 1) _ _).set_ 0 _).set_ 1 _⟩
     rintro v2 ⟨hk, hb⟩
     replace HT : Hid (Fam v2 Nob [arOb M D q L xs A, rI (.slice mA2 (met.length + 1) mc2) (met ++ [id]).length ((met ++ [id]).map iV), oC P6 a0 a1 a2 a3 a4, oL (P6 + 1) (.slice LvA2 (acc.length + 1) lvc2) (.slice LwA2 (acc.length + 1) lwc2), oR (P6 + 2) false (0) (0), oL (P6 + 3) (.slice LvA2 (acc.length + 1) lvc2) (.slice LwA2 (acc.length + 1) lwc2), rI (.slice LvA2 (acc.length + 1) lvc2) (acc ++ [(id, low)]).length (((acc ++ [(id, low)]).map Prod.fst).map iV), rT (.slice LwA2 (acc.length + 1) lwc2) (acc ++ [(id, low)]).length (vs ++ [Value.slice loA low.length loc]), txOb D (.slice loA low.length loc) low, txsOb D (vs ++ [Value.slice loA low.length loc]) ((acc ++ [(id, low)]).map Prod.snd), oN N18 X1 k1 X3 k3 X4 k4 X5 k5 s.nd]) := Hd (HT.out.setBlk (i := 3) rfl hk hb)
     replace K := Hd (K.out.trans hk (λ x hx e => by have h := HP6.out; have e2 : x = P6 + 1 := e; omega))
     clear hk hb
     simp only [putsA, Act.put, sa_, sb_, sc_]
     refine wpList_take 2 [(some 11, .slice mA2 (met.length + 1) mc2), (none, .tuple #[])] (λ W' => Keeps (λ x => x = P6 + 2) v2 W' /\ Blk W' (P6 + 2) 42 #[.bool true, .int .i64 0, .int .i64 0, .int .i64 0, .int .i64 0, .int .i64 0]) ?_ ?_
     ·have hB : Blk v2 (P6 + 1 + 1) 42 #[.bool false, .int .i64 0, .int .i64 0, .int .i64 0, .int .i64 0, .int .i64 0] := HT.out.ok 4 _ rfl
      have p0 := hB.cell 0
      have g0 := hB.frozen 0
      have p1 := hB.cell 1
      have g1 := hB.frozen 1
      have p2 := hB.cell 2
      have g2 := hB.frozen 2
      have p3 := hB.cell 3
      have g3 := hB.frozen 3
      have p4 := hB.cell 4
      have g4 := hB.frozen 4
      have p5 := hB.cell 5
      have g5 := hB.frozen 5
      clear hB
      show wpList _ _ _ [_, _] _ _
      go_wp2
      exact ⟨by simp only [putsA, Act.put, sa_, sb_, sc_], (((((Keeps.setCell _ (M := λ x => x = P6 + 2) rfl _).setCell' (λ _ => rfl) _).setCell' (λ _ => rfl) _).setCell' (λ _ => rfl) _).setCell' (λ _ => rfl) _).setCell' (λ _ => rfl) _, ((((((HT.out.ok 4 _ rfl : Blk v2 (P6 + 2) _ _).set_ 0 _).set_ 1 _).set_ 2 _).set_ 3 _).set_ 4 _).set_ 5 _⟩
     rintro v3 ⟨hk, hb⟩
     replace HT : Hid (Fam v3 Nob [arOb M D q L xs A, rI (.slice mA2 (met.length + 1) mc2) (met ++ [id]).length ((met ++ [id]).map iV), oC P6 a0 a1 a2 a3 a4, oL (P6 + 1) (.slice LvA2 (acc.length + 1) lvc2) (.slice LwA2 (acc.length + 1) lwc2), oR (P6 + 2) true (0) (0), oL (P6 + 3) (.slice LvA2 (acc.length + 1) lvc2) (.slice LwA2 (acc.length + 1) lwc2), rI (.slice LvA2 (acc.length + 1) lvc2) (acc ++ [(id, low)]).length (((acc ++ [(id, low)]).map Prod.fst).map iV), rT (.slice LwA2 (acc.length + 1) lwc2) (acc ++ [(id, low)]).length (vs ++ [Value.slice loA low.length loc]), txOb D (.slice loA low.length loc) low, txsOb D (vs ++ [Value.slice loA low.length loc]) ((acc ++ [(id, low)]).map Prod.snd), oN N18 X1 k1 X3 k3 X4 k4 X5 k5 s.nd]) := Hd (HT.out.setBlk (i := 4) rfl hk hb)
     replace K := Hd (K.out.trans hk (λ x hx e => by have h := HP6.out; have e2 : x = P6 + 2 := e; omega))
     clear hk hb
     simp only [putsA, Act.put, sa_, sb_, sc_]
     show wpList _ _ _ [] _ _
     go_wp2
     have r0 : v3.cell? ⟨P6 + 1, 0, none⟩ = some (.slice LvA2 (acc.length + 1) lvc2) := (HT.out.ok 3 _ rfl : Blk v3 (P6 + 1) _ _).cell 0
     have r1 : v3.cell? ⟨P6 + 1, 1, none⟩ = some (.slice LwA2 (acc.length + 1) lwc2) := (HT.out.ok 3 _ rfl : Blk v3 (P6 + 1) _ _).cell 1
     have s0 := (HT.out.ok 4 _ rfl : Blk v3 (P6 + 2) _ _).cell 0
     have s1 := (HT.out.ok 4 _ rfl : Blk v3 (P6 + 2) _ _).cell 1
     have s2 := (HT.out.ok 4 _ rfl : Blk v3 (P6 + 2) _ _).cell 2
     have s3 := (HT.out.ok 4 _ rfl : Blk v3 (P6 + 2) _ _).cell 3
     have s4 := (HT.out.ok 4 _ rfl : Blk v3 (P6 + 2) _ _).cell 4
     have s5 := (HT.out.ok 4 _ rfl : Blk v3 (P6 + 2) _ _).cell 5
     obtain ⟨F, h1, h2, h3⟩ := chain_post HT.out HP6.out HMO2.out (λ x h => h.elim (HLO2.out x) (HLO3.out x))
     refine bodyPost_ret (v := .tuple #[.agg #[.slice LvA2 (acc.length + 1) lvc2, .slice LwA2 (acc.length + 1) lwc2], .slice mA2 (met.length + 1) mc2, .agg #[.bool true, .int .i64 0, .int .i64 0, .int .i64 0, .int .i64 0, .int .i64 0]]) (by simp [results, Tryz.results95, go_sem, r0, r1, s0, s1, s2, s3, s4, s5]) rfl ⟨_, _, _, rfl, (by rw [List.length_append, List.map_append] at h1; exact h1), F, h2, h3, K.out⟩
    have n1 := (HF.out.ok 10 _ rfl : Blk b5 N18 _ _).cell 1
    replace HT : Hid (Fam b5 Nob [arOb M D q L xs A, rI (.slice mA2 (met.length + 1) mc2) (met ++ [id]).length ((met ++ [id]).map iV), oC P6 a0 a1 a2 a3 a4, oL (P6 + 1) (.slice none 0 0) (.slice none 0 0), oR (P6 + 2) false (0) (0), oL (P6 + 3) (.slice LvA2 (acc.length + 1) lvc2) (.slice LwA2 (acc.length + 1) lwc2), rI (.slice LvA2 (acc.length + 1) lvc2) (acc ++ [(id, low)]).length (((acc ++ [(id, low)]).map Prod.fst).map iV), rT (.slice LwA2 (acc.length + 1) lwc2) (acc ++ [(id, low)]).length (vs ++ [Value.slice loA low.length loc]), txOb D (.slice X1 s.nd.high.length k1) s.nd.high, txsOb D (vs ++ [Value.slice loA low.length loc]) ((acc ++ [(id, low)]).map Prod.snd), oN N18 X1 k1 X3 k3 X4 k4 X5 k5 s.nd]) := Hd (HT.out.swap (i := 8) (o' := txOb D (.slice X1 s.nd.high.length k1) s.nd.high) rfl HND.out.1.high (λ x hx => hx) (λ x h => h))
    have HR3 : Hid (chainM A (chkM a0 a1 a2 a3 a4) level (A.sl.length + 1 - (met ++ [id]).length) s.nd.right s.nd.high (met ++ [id]) (acc ++ [(id, low)]) = R) := by have h := HR2.out; rw [HLB.out, if_neg (by decide), if_neg hr] at h; exact h
    have hr' : (s.nd.right == 0) = false := by simpa using hr
    have HM2 := Hd (HM.out.snoc HG.out HCON.out)
    clear E1 E2 E4 E5 h9 HF HND HR2 hr
    go_wp2
    go_roundw
    case rel => exact ⟨met ++ [id], acc ++ [(id, low)], s.nd.high, s.nd.right, .slice LvA2 (acc.length + 1) lvc2, .slice LwA2 (acc.length + 1) lwc2, vs ++ [Value.slice loA low.length loc], _, rfl, HM2.out, by rw [E3, List.length_append, List.length_singleton]; omega, HR3.out, HT.out, HMO2.out, λ x h => h.elim (HLO2.out x) (HLO3.out x), K.out⟩
    case measure => simp only [lenV]; omega
end
end Go.Proofs.YtbhohohgojcapaaGreat

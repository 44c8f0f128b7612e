/- DescentTrue walked: what a machine tells at the step at which it is through stands there at that step. -/
import Derived.Test.YtbhohohgojcapaaDTrueM
import Derived.Test.YtbhohohgojcapaaHead12
import Derived.Test.YtbhohohgojcapaaPick12
import Derived.Test.YtbhohohgojcapaaRaws
import Derived.BigQuiet
namespace Go.Proofs.Ytbhohohgojcapaa
open Go.RowKit

theorem Su.begin {w0 w : World} {G : Nat → Prop} {b p q : Nat} {A B : Ar} (hJ : J w G b p q A B) (hg : ∀ x, G x → w0.heap.size ≤ x) (hk : Keeps Nob w0 w) : Su w0 w b p q A B [] :=
  ⟨G, hJ, Fam.nil, hg, fun i o h => by simp at h, hk.mono (fun _ _ h => h.elim)⟩
theorem Su.addNo {w0 w : World} {b p q : Nat} {A B : Ar} {l : List Ob} (h : Su w0 w b p q A B l) : Su w0 w b p q A B (l ++ [noOb]) :=
  h.push (Keeps.refl _ _) trivial (fun x h => h.elim) (fun x h => h.elim)
theorem Su.nilRow {w0 w : World} {b p q : Nat} {A B : Ar} {l : List Ob} (h : Su w0 w b p q A B l) (e : TypeId) (size : Nat) : Su w0 w b p q A B (l ++ [rowOb e size (.slice none 0 0) 0 []]) :=
  h.push (Keeps.refl _ _) (Own.nil _ _ _ _) (fun x hx => by cases hx) (fun x h => h)
theorem rowOb_cell {w : World} {e : TypeId} {g o n c j : Nat} {xs : List Value} {y : Value} (h : (rowOb e 1 (.slice (some ⟨g, o, none⟩) n c) n xs).P w) (hj : xs[j]? = some y) : w.cell? ⟨g, o + j, none⟩ = some y := by
  have h : Own w _ e 1 _ n xs := h
  obtain ⟨_, _, hf⟩ := h.at_
  rcases hf with ⟨e, _⟩ | ⟨g', o', cur, e, _, hb, _, hx⟩
  · cases e
  · cases e
    rw [hb.cell]; exact hx _ _ hj
theorem rowOb_some {w : World} {e : TypeId} {A : Option Addr} {n c : Nat} {xs : List Value} (h : (rowOb e 1 (.slice A n c) n xs).P w) (hn : 0 < n) : ∃ g o, A = some ⟨g, o, none⟩ := by
  have h : Own w _ e 1 _ n xs := h
  obtain ⟨h1, _, hf⟩ := h.at_
  rcases hf with ⟨_, e⟩ | ⟨g', o', cur, e, _, hb, _, hx⟩
  · omega
  · exact ⟨g', o', e⟩

/-- The cells of the three rows. -/
def ptrs (ds : List Mu) : List Value := ds.map (fun d => .pointer (some ⟨d.x, 0, none⟩))
def kvs (ds : List Mu) : List Value := ds.map (fun d => d.kv)
def lvs (ds : List Mu) : List Value := ds.map (fun d => .int .i64 d.M.level)
/-- What the law knows of its machines. -/
def Know (w0 : World) (A : Ar) (c : Nat) (ds : List Mu) : Prop := ∀ d ∈ ds, Kn A d.M ∧ d.M.le c ∧ Byts w0 (fun b => b < w0.heap.size) d.kv d.M.key
section
variable {w0 : World} {A A' : Ar} {c c' n : Nat} {ds : List Mu} {d d' : Mu}
theorem Know.rel (h : Know w0 A c ds) (r : Rel A A') (hc : c ≤ c') : Know w0 A' c' ds := fun d hd => ⟨(h d hd).1.rel r, (h d hd).2.1.mono hc, (h d hd).2.2⟩
theorem Know.snoc (h : Know w0 A c ds) (hd : Kn A d.M ∧ d.M.le c ∧ Byts w0 (fun b => b < w0.heap.size) d.kv d.M.key) : Know w0 A c (ds ++ [d]) := fun e he => by
  rcases List.mem_append.1 he with he | he
  · exact h e he
  · simp at he; subst he; exact hd
theorem Know.set (h : Know w0 A c ds) (hc : c ≤ c') (hd : Kn A d.M ∧ d.M.le c' ∧ Byts w0 (fun b => b < w0.heap.size) d.kv d.M.key) : Know w0 A c' (ds.set n d) := fun e he => by
  rcases List.mem_or_eq_of_mem_set he with he | rfl
  · exact ⟨(h e he).1, (h e he).2.1.mono hc, (h e he).2.2⟩
  · exact hd
theorem map_set_same {α β : Type} (f : α → β) (l : List α) (n : Nat) (x y : α) (hx : l[n]? = some x) (hf : f y = f x) : (l.set n y).map f = l.map f := by
  rw [List.map_set, hf]
  obtain ⟨hn, rfl⟩ := List.getElem?_eq_some_iff.1 hx
  rw [← List.getElem_map (f := f) (h := by simpa using hn)]
  exact List.set_getElem_self _
variable {a1 a2 a3 a4 : Ob} {f : Mu → Ob}
theorem mu_at (hd : ds[n]? = some d) : (a1 :: a2 :: a3 :: a4 :: ds.map f)[n + 4]? = some (f d) := by
  show (ds.map f)[n]? = _
  rw [List.getElem?_map, hd]; rfl
theorem mu_set : (a1 :: a2 :: a3 :: a4 :: ds.map f).set (n + 4) (f d') = a1 :: a2 :: a3 :: a4 :: (ds.set n d').map f := by
  show a1 :: a2 :: a3 :: a4 :: (ds.map f).set n (f d') = _
  rw [← List.map_set]
end
theorem Try.inf_mach : (Try.prog.info? 43).map (fun i => (i.zero, i.size, i.bytes)) = some (some (.pointer none), 1, 8) := by kernel_rfl

section
variable {w : World} {os : List O12} {v : Value}
set_option maxRecDepth 100000 in
set_option maxHeartbeats 6400000 in
theorem dtrue_ok (h : O12At w w.heap.size v os) : Calls Try.prog 3 #[v] w fun e w' => e = .returned (.bool true) ∧ Keeps Nob w w' := by
  have HO := Lib.hid h
  obtain ⟨A, c, hv, hc1, hc2, hc3, _⟩ := h
  subst hv
  have HH := Lib.hid (head12 w)
  have HB := fun wx => begunJ (n := 40) wx (by decide) (by decide)
  have hos : os.length < 800000000000 := by omega
  clear hc1 hc2 hc3
  unfold iV pV at *
  go_enter Try.func3, Try.ntmps3
  go_wp2_with (first
    | (go_at_call 9; refine HH.out.mono ?_; rintro e w1 ⟨rfl, hk⟩; have K := Lib.hid hk; clear hk)
    | (go_at_call 10; refine (HB _).mono ?_; rintro e w2 ⟨b, p, q, rfl, hj, hk⟩; have HS := Lib.hid (((((Su.begin (w0 := w) hj (fun x hx => Nat.le_trans K.out.size hx) (K.out.trans hk (fun _ _ h => h))).nilRow 43 1).nilRow 30 1).nilRow 3 1).addNo); clear hj hk))
  clear HB HH K
  go_loopw [6, 7, 8, 9] (fun lv kvv vv i wr => ∃ k : Nat, k ≤ os.length ∧ i = .int .i64 k ∧ ∃ A ds, ∃ o1 : Ob, ds.length ≤ k ∧ WB (2 * k + 1) A ∧ Know w A k ds ∧ Su w wr b p q A A (rowOb 43 1 lv ds.length (ptrs ds) :: rowOb 30 1 kvv ds.length (kvs ds) :: rowOb 3 1 vv ds.length (lvs ds) :: o1 :: ds.map (muOb p))) (fun _ _ _ i _ => os.length - (intOf i).toNat)
  case atStart => exact ⟨0, Nat.zero_le _, rfl, _, [], _, Nat.le_refl _, (fun s hs => by simp [ar0] at hs; subst hs; decide), fun d hd => by simp at hd, HS.out⟩
  clear HS
  obtain ⟨k, hk, rfl, AR, ds, o1, hdl, hwb, hkn, hs⟩ := hrel
  rcases Nat.lt_or_ge k os.length with hlt | hlt
  · obtain ⟨o, ho⟩ : ∃ o, os[k]? = some o := ⟨_, List.getElem?_eq_getElem hlt⟩
    obtain ⟨ad, cs, rfl, hlo, hop, hcs⟩ := HO.out.at_ ho
    obtain ⟨kv, c0, c1, c2, c3, c4, c5, rfl, hkey, hraw, i1, i2, i3, hsm⟩ := hop
    obtain ⟨KA, kc, ek, _, _⟩ := hkey.form
    subst ek
    have hnd := hraw
    obtain ⟨⟨_, _, _, _, _, _, ec, hn⟩, _⟩ := hnd
    injection ec with ec
    simp only [List.cons.injEq, and_true] at ec
    obtain ⟨_, _, _, _, _, ec0, ec1, ec2, ec3, ec4, ec5⟩ := ec
    subst ec0 ec1 ec2 ec3 ec4 ec5
    obtain ⟨X1, k1, e1, _, _⟩ := hn.1.high.form
    obtain ⟨X3, k3, e3, _, _⟩ := hn.2.keys.form
    obtain ⟨X4, k4, e4, _, _⟩ := hn.2.vals.form
    obtain ⟨X5, k5, e5, _, _⟩ := hn.2.kids.form
    have e0 := hn.1.lvl
    have e2 := hn.1.right
    unfold iV at e0 e2
    subst e0 e1 e2 e3 e4 e5
    clear hn
    obtain ⟨lA, lc, el⟩ := (hs.get (i := 0) rfl : Own wr _ _ 1 _ _ _).form
    obtain ⟨yA, yc, ey⟩ := (hs.get (i := 1) rfl : Own wr _ _ 1 _ _ _).form
    obtain ⟨vA, vc, ev⟩ := (hs.get (i := 2) rfl : Own wr _ _ 1 _ _ _).form
    subst el ey ev
    have q0 := hs.kept.cell (hcs 0 _ rfl) id
    have q1 := hs.kept.cell (hcs 1 _ rfl) id
    have q2 := hs.kept.cell (hcs 2 _ rfl) id
    have q3 := hs.kept.cell (hcs 3 _ rfl) id
    have q4 := hs.kept.cell (hcs 4 _ rfl) id
    have q5 := hs.kept.cell (hcs 5 _ rfl) id
    have q6 := hs.kept.cell (hcs 6 _ rfl) id
    have q7 := hs.kept.cell (hcs 7 _ rfl) id
    have q8 := hs.kept.cell (hcs 8 _ rfl) id
    have q9 := hs.kept.cell (hcs 9 _ rfl) id
    have q10 := hs.kept.cell (hcs 10 _ rfl) id
    have q11 := hs.kept.cell (hcs 11 _ rfl) id
    have q12 := hs.kept.cell (hcs 12 _ rfl) id
    have q13 := hs.kept.cell (hcs 13 _ rfl) id
    have q14 := hs.kept.cell (hcs 14 _ rfl) id
    simp only [sub_] at q0 q1 q2 q3 q4 q5 q6 q7 q8 q9 q10 q11 q12 q13 q14
    clear hcs hlo ho
    have HS := Lib.hid hs
    have HKN := Lib.hid hkn
    have HWB := Lib.hid hwb
    have HKEY := Lib.hid hkey
    have HRAW := Lib.hid hraw
    have HSM : Hid (Sm 0 1 o.key.length) := hsm
    have PK := fun wx => pick12_ (n := 4) wx i1 (by decide)
    have PA := fun wx => pick12_ (n := 4) wx i2 (by decide)
    obtain ⟨hpk1, hpk2⟩ := pk_range o.kd 4 (by decide)
    have PI := fun wx (hn : 1 ≤ (ds.length : Int)) => pick12_ (n := (ds.length : Int)) wx i2 hn
    clear hs hkn hkey hraw hsm hwb
    unfold iV at PK PA PI
    generalize pk o.kd 4 = kind at *
    generalize pk o.a 4 = lev at *
    have hk64 : k < 9223372036854775807 := by omega
    go_wp2_with fail
    clear q0 q1 q2 q3 q4 q5 q6 q7 q8 q9 q10 q11 q12 q13 q14
    refine calls_at (fun w1 hw => ?_)
    have hk1 : Keeps Nob wr w1 := by rw [hw]; exact Keeps.alloc _ _ _
    obtain ⟨P8, hP8⟩ : ∃ N, wr.heap.size = N := ⟨_, rfl⟩
    rw [hP8]
    have hb8 : Blk w1 P8 41 #[.int .i64 o.kd, .int .i64 o.a, .int .i64 o.b, .slice KA o.key.length kc, .int .i64 o.raw.kd, .int .i64 o.raw.a, .int .i64 o.raw.b, .int .u64 o.raw.w, .bool o.raw.ch, .int .i64 o.raw.nd.lvl, .slice X1 o.raw.nd.high.length k1, .int .i64 o.raw.nd.right, .slice X3 o.raw.nd.keys.length k3, .slice X4 o.raw.nd.vals.length k4, .slice X5 o.raw.nd.kids.length k5] := by rw [hw, ← hP8]; exact Blk.new _ _ _
    clear hw
    replace HS := Lib.hid (HS.out.muPut (i := 3) rfl hk1 hb8 (by rw [hP8]; exact Nat.le_refl _))
    have hs0 := HS.out
    simp only [List.set_cons_zero, List.set_cons_succ] at hs0
    replace HS := Lib.hid hs0
    clear hs0
    have b0 : w1.cell? ⟨P8, 0, none⟩ = some (.int .i64 o.kd) := hb8.cell 0
    have b1 : w1.cell? ⟨P8, 1, none⟩ = some (.int .i64 o.a) := hb8.cell 1
    have b3 : w1.cell? ⟨P8, 3, none⟩ = some (.slice KA o.key.length kc) := hb8.cell 3
    have lt8 := hb8.lt
    clear hk1 hb8 hP8
    refine (PK w1).mono ?_
    rintro e w' ⟨rfl, rfl⟩
    by_cases e0 : kind = 0
    · as_aux_lemma =>
        subst e0
        have s0 := HS.out.blk.cell 0
        unfold pV at s0
        go_wp2
        refine wp_region_canon [0, 1, 2, 3, 4, 5, 6, 7, 8, 9, 10, 11, 12, 13] 14 (fun W => W.cell? ⟨b, 0, none⟩ = some (.pointer (some ⟨p, 0, none⟩)) ∧ W.cell? ⟨P8, 1, none⟩ = some (.int .i64 o.a) ∧ W.cell? ⟨P8, 3, none⟩ = some (.slice KA o.key.length kc)) (by kernel_rfl) (by kernel_rfl) rfl (by kernel_rfl) (fun _ _ d _ _ h => by cases d <;> exact h) ⟨s0, b1, b3⟩ ?_
        refine canon_at (fun v0 hw => ?_)
        have hk : Keeps Nob w1 v0 := by rw [hw]; exact Keeps.drew _ _
        replace HS := Lib.hid (HS.out.nob hk)
        have HC : Hid (v0.cell? ⟨b, 0, none⟩ = some (.pointer (some ⟨p, 0, none⟩)) ∧ v0.cell? ⟨P8, 1, none⟩ = some (.int .i64 o.a) ∧ v0.cell? ⟨P8, 3, none⟩ = some (.slice KA o.key.length kc)) := by
          refine ⟨?_, (HS.out.get (i := 3) rfl : Blk v0 P8 _ _).cell 1, (HS.out.get (i := 3) rfl : Blk v0 P8 _ _).cell 3⟩
          have h := HS.out.blk.cell 0
          unfold pV at h
          exact h
        clear hk hw s0 b0 b1 b3 lt8 HRAW PK PI
        have FX := fun wx (h : Byts wx (fun b => b < w.heap.size) (.slice KA o.key.length kc) o.key) => newX (p := p) (level := lev) h HSM.out
        unfold pV iV at FX
        iterate 9
          refine wpCanon_read (v := ?_) rfl (by kernel_rfl) (by rfl) ?_ ?_
          rotate_left
          · intro W hW
            try (obtain ⟨g1, g2, g3⟩ : _ ∧ _ ∧ _ := hW)
            go_simp
            try rfl
          simp only [Act.put, List.setIfInBounds_toArray, List.set_cons_zero, List.set_cons_succ]
        refine wpCanon_act rfl (by kernel_rfl) ?_
        go_wp2_with (go_at_call 11; refine (PA _).mono ?_; rintro e wk ⟨rfl, rfl⟩)
        refine ⟨.inr HC.out, ?_⟩
        refine wpCanon_act rfl (by kernel_rfl) ?_
        go_wp2_with (go_at_call 12; refine (FX _ (HKEY.out.keeps HS.out.kept (fun _ _ _ => id))).mono ?_; rintro e v1 ⟨mx, rfl, hf, hX, hk⟩)
        replace HS := Lib.hid (HS.out.push (o := muOb p ⟨mx, fun x => Fresh v0 v1 x ∧ x ≠ mx, Mc.new o.key lev, .slice KA o.key.length kc⟩) hk ⟨hX, fun h => h.2 rfl⟩ (fun x hx => by rcases hx with rfl | hx; exact hf; exact hx.1) (fun x hx => .inl hx))
        have HD : Hid (Know w AR k (ds ++ [⟨mx, fun x => Fresh v0 v1 x ∧ x ≠ mx, Mc.new o.key lev, .slice KA o.key.length kc⟩])) := HKN.out.snoc ⟨Kn.new _ _ _, Mc.le.new _ _ _, HKEY.out⟩
        have HV : Hid ((Mc.new o.key lev).level = lev) := rfl
        rw [show (Mc.new o.key lev).level = lev from rfl] at HV
        generalize hdn : (⟨mx, fun x => Fresh v0 v1 x ∧ x ≠ mx, Mc.new o.key lev, .slice KA o.key.length kc⟩ : Mu) = dn at *
        have hdx : dn.x = mx := by rw [← hdn]
        have hdk : dn.kv = .slice KA o.key.length kc := by rw [← hdn]
        have hdv : dn.M.level = lev := by rw [← hdn]; rfl
        clear hdn hX hf hk HC HV FX
        have HC : Hid (v1.cell? ⟨b, 0, none⟩ = some (.pointer (some ⟨p, 0, none⟩)) ∧ v1.cell? ⟨P8, 1, none⟩ = some (.int .i64 o.a) ∧ v1.cell? ⟨P8, 3, none⟩ = some (.slice KA o.key.length kc)) := by
          refine ⟨?_, (HS.out.get (i := 3) rfl : Blk v1 P8 _ _).cell 1, (HS.out.get (i := 3) rfl : Blk v1 P8 _ _).cell 3⟩
          have h := HS.out.blk.cell 0
          unfold pV at h
          exact h
        refine ⟨.inr HC.out, ?_⟩
        refine wpCanon_act rfl (by kernel_rfl) ?_
        go_wp2
        refine ⟨.inr ?_, ?_⟩
        · exact ⟨(Keeps.alloc Nob _ _).cell HC.out.1 id, (Keeps.alloc Nob _ _).cell HC.out.2.1 id, (Keeps.alloc Nob _ _).cell HC.out.2.2 id⟩
        refine wpCanon_act rfl (by kernel_rfl) ?_
        obtain ⟨i0, hi, hz0, hz1, hz2⟩ := info_parts Try.inf_mach
        refine wpList_app rfl (.tmp 173) (.tmp 184) 27 rfl Try.underlying27 hi hz0 hz1 hz2 rfl (by decide) (v := .slice lA ds.length lc) (n := ds.length) (m := 1) (S := fun x => (Value.slice lA ds.length lc).ownBlock = some x) (T := fun _ => True) (xs := ptrs ds) (news := [.pointer (some ⟨mx, 0, none⟩)]) rfl ?c10 (y := .slice (some ⟨v1.heap.size, 0, none⟩) 1 1) rfl ?c20 ?c30 ?c40 ?c50 ?c60
        case c10 => exact (HS.out.nob (Keeps.alloc Nob _ _)).get (i := 0) rfl
        case c20 => exact (SlG.lit1 _ _ _ _ (by simp)).mono (fun _ _ _ => trivial)
        case c30 => intro u hu; simp at hu; subst hu; rfl
        case c40 => unfold maxLen; omega
        case c50 => omega
        case c60 =>
        intro v' w6 ho hk6 _
        obtain ⟨Av0, cv0, ev⟩ := ho.form
        subst ev
        replace HS := Lib.hid ((HS.out.nob (Keeps.alloc Nob _ _)).app (i := 0) rfl hk6 (ho.mono (fun b _ hb => hb.imp id (fun h => ⟨by simpa using h.1, h.2⟩))))
        clear ho hk6 HC hi hz0 hz1 hz2
        have HC : Hid (w6.cell? ⟨b, 0, none⟩ = some (.pointer (some ⟨p, 0, none⟩)) ∧ w6.cell? ⟨P8, 1, none⟩ = some (.int .i64 o.a) ∧ w6.cell? ⟨P8, 3, none⟩ = some (.slice KA o.key.length kc)) := by
          refine ⟨?_, (HS.out.get (i := 3) rfl : Blk w6 P8 _ _).cell 1, (HS.out.get (i := 3) rfl : Blk w6 P8 _ _).cell 3⟩
          have h := HS.out.blk.cell 0
          unfold pV at h
          exact h
        refine ⟨.inr HC.out, ?_⟩
        refine wpCanon_read (v := ?_) rfl (by kernel_rfl) (by rfl) ?_ ?_
        rotate_left
        · intro W hW
          go_simp
          try rfl
        simp only [Act.put, List.setIfInBounds_toArray, List.set_cons_zero, List.set_cons_succ]
        refine wpCanon_nil ?_
        obtain ⟨b1, b3⟩ := HC.out.2
        have lt8 := (HS.out.get (i := 3) rfl : Blk w6 P8 _ _).lt
        clear HC
        obtain ⟨i0, hi, hz0, hz1, hz2⟩ := info_parts Try.inf_text
        go_wp2_with (at_builtin; refine wpList_app rfl (.tmp 186) (.tmp 189) 28 rfl Try.underlying28 hi hz0 hz1 hz2 rfl (by decide) (v := .slice yA ds.length yc) (n := ds.length) (m := 1) (S := fun x => (Value.slice yA ds.length yc).ownBlock = some x) (T := fun _ => True) (xs := kvs ds) (news := [.slice KA o.key.length kc]) rfl ?c11 (y := .slice (some ⟨w6.heap.size, 0, none⟩) 1 1) rfl ?c21 ?c31 ?c41 ?c51 ?c61)
        case c11 => exact (HS.out.nob (Keeps.alloc Nob _ _)).get (i := 1) rfl
        case c21 => exact (SlG.lit1 _ _ _ _ (by simp)).mono (fun _ _ _ => trivial)
        case c31 => intro u hu; simp at hu; subst hu; rfl
        case c41 => unfold maxLen; omega
        case c51 => omega
        case c61 =>
        intro v' w7 ho hk6 _
        obtain ⟨Av1, cv1, ev⟩ := ho.form
        subst ev
        replace HS := Lib.hid ((HS.out.nob (Keeps.alloc Nob _ _)).app (i := 1) rfl hk6 (ho.mono (fun b _ hb => hb.imp id (fun h => ⟨by simpa using h.1, h.2⟩))))
        clear ho hk6 hi hz0 hz1 hz2 b1 b3 lt8
        have b1 : w7.cell? ⟨P8, 1, none⟩ = some (.int .i64 o.a) := (HS.out.get (i := 3) rfl : Blk w7 P8 _ _).cell 1
        obtain ⟨i0, hi, hz0, hz1, hz2⟩ := info_parts Try.inf_int
        go_wp2_with (first | (go_at_call 11; refine (PA _).mono ?_; rintro e wk ⟨rfl, rfl⟩) | (at_builtin; refine wpList_app rfl (.tmp 191) (.tmp 195) 29 rfl Try.underlying29 hi hz0 hz1 hz2 rfl (by decide) (v := .slice vA ds.length vc) (n := ds.length) (m := 1) (S := fun x => (Value.slice vA ds.length vc).ownBlock = some x) (T := fun _ => True) (xs := lvs ds) (news := [.int .i64 lev]) rfl ?c12 (y := .slice (some ⟨w7.heap.size, 0, none⟩) 1 1) rfl ?c22 ?c32 ?c42 ?c52 ?c62))
        case c12 => exact (HS.out.nob (Keeps.alloc Nob _ _)).get (i := 2) rfl
        case c22 => exact (SlG.lit1 _ _ _ _ (by simp)).mono (fun _ _ _ => trivial)
        case c32 => intro u hu; simp at hu; subst hu; rfl
        case c42 => unfold maxLen; omega
        case c52 => omega
        case c62 =>
        intro v' w8 ho hk6 _
        obtain ⟨Av2, cv2, ev⟩ := ho.form
        subst ev
        replace HS := Lib.hid ((HS.out.nob (Keeps.alloc Nob _ _)).app (i := 2) rfl hk6 (ho.mono (fun b _ hb => hb.imp id (fun h => ⟨by simpa using h.1, h.2⟩))))
        clear ho hk6 hi hz0 hz1 hz2 b1
        go_wp2
        go_roundw
        case rel =>
          have h := HS.out
          simp only [List.set_cons_zero, List.set_cons_succ, List.cons_append] at h
          exact ⟨k + 1, by omega, by go_num, AR, ds ++ [dn], muBlk P8 41 #[.int .i64 o.kd, .int .i64 o.a, .int .i64 o.b, .slice KA o.key.length kc, .int .i64 o.raw.kd, .int .i64 o.raw.a, .int .i64 o.raw.b, .int .u64 o.raw.w, .bool o.raw.ch, .int .i64 o.raw.nd.lvl, .slice X1 o.raw.nd.high.length k1, .int .i64 o.raw.nd.right, .slice X3 o.raw.nd.keys.length k3, .slice X4 o.raw.nd.vals.length k4, .slice X5 o.raw.nd.kids.length k5], by simp; omega, HWB.out.mono (by omega), HD.out.rel (Rel.refl _) (by omega), by rw [List.length_append, List.length_singleton]; unfold ptrs kvs lvs; rw [List.map_append, List.map_append, List.map_append, List.map_append, List.map_singleton, List.map_singleton, List.map_singleton, List.map_singleton, hdx, hdk, hdv]; exact h⟩
        case measure => simp [intOf]; omega
    by_cases e3 : kind = 3
    · as_aux_lemma =>
        subst e3
        have hb8 : Blk w1 P8 41 #[.int .i64 o.kd, .int .i64 o.a, .int .i64 o.b, .slice KA o.key.length kc, .int .i64 o.raw.kd, .int .i64 o.raw.a, .int .i64 o.raw.b, .int .u64 o.raw.w, .bool o.raw.ch, .int .i64 o.raw.nd.lvl, .slice X1 o.raw.nd.high.length k1, .int .i64 o.raw.nd.right, .slice X3 o.raw.nd.keys.length k3, .slice X4 o.raw.nd.vals.length k4, .slice X5 o.raw.nd.kids.length k5] := HS.out.get (i := 3) rfl
        have r4 := hb8.cell 4
        have r5 := hb8.cell 5
        have r6 := hb8.cell 6
        have r7 := hb8.cell 7
        have r8 := hb8.cell 8
        have r9 := hb8.cell 9
        have r10 := hb8.cell 10
        have r11 := hb8.cell 11
        have r12 := hb8.cell 12
        have r13 := hb8.cell 13
        have r14 := hb8.cell 14
        have f8 := hb8.frozen 8
        clear hb8 b0 b1 b3 PK PA PI HKEY HSM
        go_wp2_with fail
        clear r4 r5 r6 r7 r8 r9 r10 r11 r12 r13 r14 f8
        refine calls_at (fun w2 hw => ?_)
        replace HS := Lib.hid (HS.out.muSet (i := 3) rfl 8 (.bool true))
        rw [← hw] at HS
        clear hw
        obtain ⟨G, hJ, hG, hback⟩ := HS.out.arena
        have RW := rawJ hJ (HRAW.out.tru HS.out.kept) (fun x hx hg => absurd hx (Nat.not_lt.2 (hG x hg)))
        unfold pV at RW
        clear hJ hG
        have HBK := Lib.hid hback
        clear hback HS
        refine RW.mono ?_
        rintro e w4 ⟨rfl, hj4, hk4⟩
        have HS4 := Lib.hid (HBK.out _ _ _ hj4 hk4)
        clear hj4 hk4 RW HBK
        go_wp2
        go_roundw
        case rel => exact ⟨k + 1, by omega, by go_num, _, ds, _, by omega, (wb_step HWB.out (by omega) _).mono (by omega), HKN.out.rel (rel_step HWB.out (by omega) (by omega) rfl) (by omega), HS4.out⟩
        case measure => simp [intOf]; omega
    have hne0 : (kind == 0) = false := by simpa using e0
    have hne3 : (kind == 3) = false := by simpa using e3
    clear HRAW PK PA HKEY HSM
    rcases Nat.eq_zero_or_pos ds.length with hz | hpos
    · obtain rfl : ds = [] := List.length_eq_zero_iff.1 hz
      have HSE := Lib.hid HS.out
      clear HS b0 b1 b3 hz
      go_wp2
      go_roundw
      case rel => exact ⟨k + 1, by omega, by go_num, AR, [], muBlk P8 41 #[.int .i64 o.kd, .int .i64 o.a, .int .i64 o.b, .slice KA o.key.length kc, .int .i64 o.raw.kd, .int .i64 o.raw.a, .int .i64 o.raw.b, .int .u64 o.raw.w, .bool o.raw.ch, .int .i64 o.raw.nd.lvl, .slice X1 o.raw.nd.high.length k1, .int .i64 o.raw.nd.right, .slice X3 o.raw.nd.keys.length k3, .slice X4 o.raw.nd.vals.length k4, .slice X5 o.raw.nd.kids.length k5], by omega, HWB.out.mono (by omega), HKN.out.rel (Rel.refl _) (by omega), HSE.out⟩
      case measure => simp [intOf]; omega
    obtain ⟨hx1, hx2⟩ := pk_range o.a (ds.length : Int) (by omega)
    replace PI := fun wx => PI wx (by omega)
    obtain ⟨n, hn⟩ : ∃ n : Nat, pk o.a (ds.length : Int) = (n : Int) := ⟨(pk o.a (ds.length : Int)).toNat, by omega⟩
    rw [hn] at PI hx1 hx2
    have hnl : n < ds.length := by omega
    clear hn hx1 hx2
    obtain ⟨d, hd⟩ : ∃ d, ds[n]? = some d := ⟨_, List.getElem?_eq_getElem hnl⟩
    obtain ⟨g1, o1', rfl⟩ := rowOb_some (HS.out.get (i := 0) rfl) hpos
    obtain ⟨g2, o2', rfl⟩ := rowOb_some (HS.out.get (i := 1) rfl) hpos
    obtain ⟨g3, o3', rfl⟩ := rowOb_some (HS.out.get (i := 2) rfl) hpos
    have HC1 : Hid ((ptrs ds)[n]? = some (.pointer (some ⟨d.x, 0, none⟩))) := by show (ds.map _)[n]? = _; rw [List.getElem?_map, hd]; rfl
    have HC2 : Hid ((kvs ds)[n]? = some d.kv) := by show (ds.map _)[n]? = _; rw [List.getElem?_map, hd]; rfl
    have HC3 : Hid ((lvs ds)[n]? = some (.int .i64 d.M.level)) := by show (ds.map _)[n]? = _; rw [List.getElem?_map, hd]; rfl
    obtain ⟨hk1, hk2, hk3⟩ := HKN.out d (List.mem_of_getElem? hd)
    have HK1 := Lib.hid hk1
    have HK2 := Lib.hid hk2
    have HK3 := Lib.hid hk3
    have HDS := Lib.hid hd
    have HNL : Hid (n < ds.length) := hnl
    have hll : ds.length ≤ 9223372036854775807 := by omega
    have hpos' : ¬ (ds.length : Int) = 0 := by omega
    have hne : ((ds.length : Int) == 0) = false := by simpa using hpos'
    clear hk1 hk2 hk3 hd
    have c1 := rowOb_cell (HS.out.get (i := 0) rfl) HC1.out
    have FA := atX (HS.out.get (i := n + 4) (mu_at HDS.out)).1
    unfold pV iV at FA
    go_wp2_with (go_at_call 11; refine (PI w1).mono ?_; rintro e w' ⟨rfl, rfl⟩)
    clear b0 b1 b3 c1
    refine FA.mono ?_
    rintro e w2 ⟨d0, d1, d2, d3, d4, d5, rfl, hO, hk⟩
    obtain ⟨D1, dj1, f1⟩ := Own.form hO.1.high
    obtain ⟨D3, dj3, f3⟩ := OTx.form hO.2.keys
    obtain ⟨D4, dj4, f4⟩ := OTx.form hO.2.vals
    obtain ⟨D5, dj5, f5⟩ := Own.form hO.2.kids
    have f0 := hO.1.lvl
    have f2 := hO.1.right
    unfold iV at f0 f2
    subst f0 f1 f2 f3 f4 f5
    replace HS := Lib.hid (HS.out.nob hk)
    clear hO hk FA lt8
    have c1 := rowOb_cell (HS.out.get (i := 0) rfl) HC1.out
    have l1 := World.block_lt_of_cell? _ _ c1
    go_wp2_with fail
    clear c1 l1
    refine calls_at (fun w3 hw => ?_)
    have hk : Keeps Nob w2 w3 := by rw [hw]; exact Keeps.alloc _ _ _
    replace HS := Lib.hid (HS.out.nob hk)
    clear hw hk
    have FS := HS.out.stepMu (i := n + 4) (mu_at HDS.out) (HK2.out.low (by omega))
    unfold pV at FS
    refine FS.mono ?_
    rintro e w4 ⟨rfl, _, S, hs⟩
    rw [mu_set] at hs
    obtain ⟨d', hd'⟩ : ∃ d' : Mu, d' = { d with M := stepM AR d.M, S := S } := ⟨_, rfl⟩
    rw [← hd'] at hs
    have hdx : d'.x = d.x := by rw [hd']
    have hdM : d'.M = stepM AR d.M := by rw [hd']
    have hdk : d'.kv = d.kv := by rw [hd']
    replace HS := Lib.hid hs
    have HD2 : Hid ((ds.set n d')[n]? = some d') := by show _ = _; rw [List.getElem?_set, if_pos rfl, if_pos HNL.out]
    have HKN2 : Hid (Know w AR (k + 1) (ds.set n d')) := HKN.out.set (by omega) ⟨by rw [hdM]; exact HK1.out.step, by rw [hdM]; exact HK2.out.step AR, by rw [hdk, hdM, (stepM_key AR d.M).1]; exact HK3.out⟩
    have HP1 : Hid (ptrs (ds.set n d') = ptrs ds) := map_set_same _ _ _ _ _ HDS.out (by simp only [hdx])
    have HP2 : Hid (kvs (ds.set n d') = kvs ds) := map_set_same _ _ _ _ _ HDS.out hdk
    have HP3 : Hid (lvs (ds.set n d') = lvs ds) := map_set_same _ _ _ _ _ HDS.out (by simp only [hdM, (stepM_key AR d.M).2])
    clear hs FS hd'
    have c1 := rowOb_cell (HS.out.get (i := 0) rfl) HC1.out
    have FA := atX (HS.out.get (i := n + 4) (mu_at HD2.out)).1
    rw [hdx, hdM] at FA
    unfold pV iV at FA
    have HT := Lib.hid (HK1.out.tells)
    generalize hM' : stepM AR d.M = M' at *
    clear hM'
    go_wp2_with fail
    clear c1
    refine FA.mono ?_
    rintro e w5 ⟨d0, d1, d2, d3, d4, d5, rfl, hO, hk⟩
    obtain ⟨E1, ej1, f1⟩ := Own.form hO.1.high
    obtain ⟨E3, ej3, f3⟩ := OTx.form hO.2.keys
    obtain ⟨E4, ej4, f4⟩ := OTx.form hO.2.vals
    obtain ⟨E5, ej5, f5⟩ := Own.form hO.2.kids
    have f0 := hO.1.lvl
    have f2 := hO.1.right
    unfold iV at f0 f2
    subst f0 f1 f2 f3 f4 f5
    replace HS := Lib.hid (HS.out.nob hk)
    have HN := Lib.hid hO
    clear hO hk FA
    by_cases h1 : 0 < d.M.outId
    · clear HN
      go_wp2
      go_roundw
      case rel =>
        exact ⟨k + 1, by omega, by go_num, AR, ds.set n d', muBlk P8 41 #[.int .i64 o.kd, .int .i64 o.a, .int .i64 o.b, .slice KA o.key.length kc, .int .i64 o.raw.kd, .int .i64 o.raw.a, .int .i64 o.raw.b, .int .u64 o.raw.w, .bool o.raw.ch, .int .i64 o.raw.nd.lvl, .slice X1 o.raw.nd.high.length k1, .int .i64 o.raw.nd.right, .slice X3 o.raw.nd.keys.length k3, .slice X4 o.raw.nd.vals.length k4, .slice X5 o.raw.nd.kids.length k5], by simp; omega, HWB.out.mono (by omega), HKN2.out, by rw [List.length_set, HP1.out, HP2.out, HP3.out]; exact HS.out.nob (Keeps.alloc Nob _ _)⟩
      case measure => simp [intOf]; omega
    by_cases h2 : M'.nx = .done
    rotate_left
    · have h2' : decide (M'.nx = .done) = false := decide_eq_false h2
      rw [h2']
      clear h2
      clear HN
      go_wp2
      go_roundw
      case rel =>
        exact ⟨k + 1, by omega, by go_num, AR, ds.set n d', muBlk P8 41 #[.int .i64 o.kd, .int .i64 o.a, .int .i64 o.b, .slice KA o.key.length kc, .int .i64 o.raw.kd, .int .i64 o.raw.a, .int .i64 o.raw.b, .int .u64 o.raw.w, .bool o.raw.ch, .int .i64 o.raw.nd.lvl, .slice X1 o.raw.nd.high.length k1, .int .i64 o.raw.nd.right, .slice X3 o.raw.nd.keys.length k3, .slice X4 o.raw.nd.vals.length k4, .slice X5 o.raw.nd.kids.length k5], by simp; omega, HWB.out.mono (by omega), HKN2.out, by rw [List.length_set, HP1.out, HP2.out, HP3.out]; exact HS.out.nob (Keeps.alloc Nob _ _)⟩
      case measure => simp [intOf]; omega
    have h2' : decide (M'.nx = .done) = true := decide_eq_true h2
    rw [h2']
    by_cases h3 : M'.outId = 0
    · rw [h3]
      clear HN h2
      go_wp2
      go_roundw
      case rel =>
        exact ⟨k + 1, by omega, by go_num, AR, ds.set n d', muBlk P8 41 #[.int .i64 o.kd, .int .i64 o.a, .int .i64 o.b, .slice KA o.key.length kc, .int .i64 o.raw.kd, .int .i64 o.raw.a, .int .i64 o.raw.b, .int .u64 o.raw.w, .bool o.raw.ch, .int .i64 o.raw.nd.lvl, .slice X1 o.raw.nd.high.length k1, .int .i64 o.raw.nd.right, .slice X3 o.raw.nd.keys.length k3, .slice X4 o.raw.nd.vals.length k4, .slice X5 o.raw.nd.kids.length k5], by simp; omega, HWB.out.mono (by omega), HKN2.out, by rw [List.length_set, HP1.out, HP2.out, HP3.out]; exact HS.out.nob (Keeps.alloc Nob _ _)⟩
      case measure => simp [intOf]; omega
    obtain ⟨s, hs1, hs2, hs3, hs4, hs5, hs6⟩ := HT.out (Int.not_lt.1 h1) h2 h3
    obtain ⟨G, hJ, -, -⟩ := HS.out.arena
    have HJ := Lib.hid hJ
    have FW := fun wx (hj : J wx G b p q AR AR) => hj.wordX (ix := M'.outId)
    have FH := fun wx (hj : J wx G b p q AR AR) => hj.headX (ix := M'.outId)
    have FB := fun wx (hj : J wx G b p q AR AR) => hj.bodyX (ix := M'.outId)
    rw [opErr_some hs1, opWord_some hs1, hs2] at FW
    rw [opErr_some hs1, opNd_some hs1, hs3] at FH FB
    unfold pV iV at FW FH FB
    have hw64 : U64 M'.outWord := by
      have h := (HS.out.get (i := n + 4) (mu_at HD2.out)).1.u64
      rw [hdM] at h
      unfold Mc.outWord
      split
      · exact h
      · unfold U64; decide
    obtain ⟨KA2, kc2, ek, _, _⟩ := HK3.out.form
    rw [ek] at HC2
    have HKD := Lib.hid HK3.out
    rw [ek] at HKD
    clear hs1 hs2 hs3 hJ h2 HT ek HK3
    generalize M'.outId = ix at *
    generalize M'.outWord = wd at *
    generalize M'.outNd = nd at *
    have hwd : (wd : Int) < 18446744073709551616 := by unfold U64 at hw64; omega
    have hwd0 : (0 : Int) ≤ wd := by omega
    have hev : (wd : Int) % 2 = 0 := by omega
    have HB5 : Hid (beyond nd.high d.M.key = false) := hs5
    have HFW := Lib.hid FW
    have HFH := Lib.hid FH
    have HFB := Lib.hid FB
    have HWD : Hid ((wd : Int) < 18446744073709551616 ∧ (0 : Int) ≤ wd) := ⟨hwd, hwd0⟩
    clear FW FH FB hdM hdx hdk hwd hwd0
    have h3' : (ix == 0) = false := by simpa using h3
    have HLV := Lib.hid hs6
    have HEV := Lib.hid hev
    clear hs4 hs5 hs6 hw64 hev
    have r0 := HJ.out.blk.cell 0
    have rl := HJ.out.blk.lt
    unfold pV at r0
    go_wp2_with fail
    clear r0 rl
    refine calls_at (fun w6 hw => ?_)
    obtain ⟨NN, hN⟩ : ∃ N, w5.heap.size = N := ⟨_, rfl⟩
    have hk : Keeps Nob w5 w6 := by rw [hw]; exact Keeps.alloc _ _ _
    have BN : Hid (Blk w6 NN 37 #[.int .i64 nd.lvl, .slice E1 nd.high.length ej1, .int .i64 nd.right, .slice E3 nd.keys.length ej3, .slice E4 nd.vals.length ej4, .slice E5 nd.kids.length ej5]) := by rw [hw, ← hN]; exact Blk.new _ _ _
    rw [hN]
    replace HN := Lib.hid (HN.out.keeps hk (fun _ _ _ => id))
    replace HJ := Lib.hid (HJ.out.nob hk)
    have K := Lib.hid hk
    clear hw hN hk
    refine (HFW.out _ HJ.out).mono ?_
    rintro e w' ⟨rfl, rfl⟩
    have r0 := HJ.out.blk.cell 0
    unfold pV at r0
    go_wp2_with fail
    clear r0
    refine (HFH.out _ HJ.out).mono ?_
    rintro e w7 ⟨d0, d1, d2, rfl, ho, hj, hk⟩
    have f0 := ho.lvl
    obtain ⟨A1, j1, f1⟩ := Own.form ho.high
    have f2 := ho.right
    unfold iV at f0 f2
    subst f0 f1 f2
    have HH := Lib.hid ho
    replace BN := Lib.hid (BN.out.keeps hk id)
    replace HN := Lib.hid (HN.out.keeps hk (fun _ _ _ => id))
    replace K := Lib.hid (K.out.trans hk (fun _ _ h => h))
    replace HJ := Lib.hid hj
    clear ho hj hk
    have r0 := HJ.out.blk.cell 0
    have rl := HJ.out.blk.lt
    unfold pV at r0
    go_wp2_with fail
    clear r0 rl
    refine calls_at (fun w8 hw => ?_)
    obtain ⟨NH, hN⟩ : ∃ N, w7.heap.size = N := ⟨_, rfl⟩
    have hk : Keeps Nob w7 w8 := by rw [hw]; exact Keeps.alloc _ _ _
    have BH : Hid (Blk w8 NH 33 #[.int .i64 nd.lvl, .slice A1 nd.high.length j1, .int .i64 nd.right]) := by rw [hw, ← hN]; exact Blk.new _ _ _
    rw [hN]
    replace HH := Lib.hid (HH.out.keeps hk (fun _ _ _ => id))
    replace BN := Lib.hid (BN.out.keeps hk id)
    replace HN := Lib.hid (HN.out.keeps hk (fun _ _ _ => id))
    replace K := Lib.hid (K.out.trans hk (fun _ _ h => h))
    replace HJ := Lib.hid (HJ.out.nob hk)
    clear hw hN hk
    refine (HFB.out _ HJ.out).mono ?_
    rintro e w9 ⟨d0, d1, d2, rfl, ho, hj, hk⟩
    obtain ⟨B3, j3, f0⟩ := OTx.form ho.keys
    obtain ⟨B4, j4, f1⟩ := OTx.form ho.vals
    obtain ⟨B5, j5, f2⟩ := Own.form ho.kids
    subst f0 f1 f2
    have HC := Lib.hid ho
    replace HH := Lib.hid (HH.out.keeps hk (fun _ _ _ => id))
    replace BH := Lib.hid (BH.out.keeps hk id)
    replace BN := Lib.hid (BN.out.keeps hk id)
    replace HN := Lib.hid (HN.out.keeps hk (fun _ _ _ => id))
    replace K := Lib.hid (K.out.trans hk (fun _ _ h => h))
    clear ho hj hk HJ HFW HFH HFB
    have q1 := fun i => BH.out.cell i
    have q2 := fun i => BN.out.cell i
    have l1 := BH.out.lt
    have l2 := BN.out.lt
    go_wp2_with fail
    clear q1 q2 l1 l2
    refine calls_at (fun w10 hw => ?_)
    have hk : Keeps Nob w9 w10 := by rw [hw]; exact Keeps.alloc _ _ _
    have hhc : ONd w9 (fun _ => True) _ _ _ _ _ _ nd := ⟨HH.out.mono (fun _ _ _ => trivial), HC.out.mono (fun _ _ _ => trivial)⟩
    have HM := Lib.hid (hhc.keeps hk (fun _ _ _ => id))
    replace BN := Lib.hid (BN.out.keeps hk id)
    replace HN := Lib.hid (HN.out.keeps hk (fun _ _ _ => id))
    replace K := Lib.hid (K.out.trans hk (fun _ _ h => h))
    clear hw hk hhc HH HC BH
    refine (sameN HN.out.r HM.out.r).mono ?_
    rintro e w11 ⟨rfl, hk⟩
    rw [sameNd_self]
    replace BN := Lib.hid (BN.out.keeps hk id)
    replace HN := Lib.hid (HN.out.keeps hk (fun _ _ _ => id))
    replace K := Lib.hid (K.out.trans hk (fun _ _ h => h))
    clear hk HM
    have q := fun i => BN.out.cell i
    have kc1 := rowOb_cell ((HS.out.nob K.out).get (i := 1) rfl) HC2.out
    go_wp2
    clear q
    refine wp_region_canon [0, 1, 2, 3, 4, 5, 6] 7 (fun W => W.cell? ⟨NN, 0, none⟩ = some (.int .i64 nd.lvl) ∧ W.cell? ⟨NN, 1, none⟩ = some (.slice E1 nd.high.length ej1) ∧ W.cell? ⟨NN, 2, none⟩ = some (.int .i64 nd.right) ∧ W.cell? ⟨NN, 3, none⟩ = some (.slice E3 nd.keys.length ej3) ∧ W.cell? ⟨NN, 4, none⟩ = some (.slice E4 nd.vals.length ej4) ∧ W.cell? ⟨NN, 5, none⟩ = some (.slice E5 nd.kids.length ej5) ∧ W.cell? ⟨g2, o2' + n, none⟩ = some (.slice KA2 d.M.key.length kc2)) (by kernel_rfl) (by kernel_rfl) rfl (by kernel_rfl) (fun _ _ d _ _ h => by cases d <;> exact h) ?_ ?_
    · exact ⟨BN.out.cell 0, BN.out.cell 1, BN.out.cell 2, BN.out.cell 3, BN.out.cell 4, BN.out.cell 5, kc1⟩
    refine canon_at (fun v0 hw => ?_)
    have hk : Keeps Nob w11 v0 := by rw [hw]; exact Keeps.drew _ _
    replace BN := Lib.hid (BN.out.keeps hk id)
    replace HN := Lib.hid (HN.out.keeps hk (fun _ _ _ => id))
    replace K := Lib.hid (K.out.trans hk (fun _ _ h => h))
    clear hw hk kc1
    iterate 5
      refine wpCanon_read (v := ?_) rfl (by kernel_rfl) (by rfl) ?_ ?_
      rotate_left
      · intro W hW
        try (obtain ⟨g1, g2, g3, g4, g5, g6, g7⟩ : _ ∧ _ ∧ _ ∧ _ ∧ _ ∧ _ ∧ _ := hW)
        go_simp
        try rfl
      simp only [Act.put, List.setIfInBounds_toArray, List.set_cons_zero, List.set_cons_succ]
    refine wpCanon_act rfl (by kernel_rfl) ?_
    go_wp2_with (go_at_call 20; refine (beyondR HN.out.1.high.r (HKD.out.keeps (HS.out.nob K.out).kept (fun _ _ _ => id))).mono ?_; rintro e w12 ⟨rfl, hk⟩; rw [HB5.out])
    replace BN := Lib.hid (BN.out.keeps hk id)
    replace K := Lib.hid (K.out.trans hk (fun _ _ h => h))
    clear hk
    refine ⟨.inr ⟨BN.out.cell 0, BN.out.cell 1, BN.out.cell 2, BN.out.cell 3, BN.out.cell 4, BN.out.cell 5, rowOb_cell ((HS.out.nob K.out).get (i := 1) rfl) HC2.out⟩, ?_⟩
    refine wpCanon_read (v := ?_) rfl (by kernel_rfl) (by rfl) ?_ ?_
    rotate_left
    · intro W hW
      go_simp
      try rfl
    simp only [Act.put, List.setIfInBounds_toArray, List.set_cons_zero, List.set_cons_succ]
    refine wpCanon_nil ?_
    have q0 : w12.cell? ⟨NN, 0, none⟩ = some (.int .i64 d.M.level) := by rw [← HLV.out]; exact BN.out.cell 0
    have hev := HEV.out
    obtain ⟨hwd, hwd0⟩ := HWD.out
    have v0 := rowOb_cell ((HS.out.nob K.out).get (i := 2) rfl) HC3.out
    have hwd' : (((wd : Int) : Int) == wd) = true := by simp
    have hev' : (wd : Int).tmod 2 = 0 := by rw [Int.tmod_eq_emod_of_nonneg hwd0]; exact hev
    go_wp2
    refine wp_region_canon [0, 1, 2, 3, 4, 5, 6, 7, 8, 9, 10, 11, 12, 13, 14, 15, 16, 17, 18, 19, 20, 21, 22, 23, 24, 25, 26, 27, 28, 29, 30, 31, 32, 33, 34, 35, 36] 99 (fun W => W.cell? ⟨NN, 0, none⟩ = some (.int .i64 d.M.level) ∧ W.cell? ⟨g3, o3' + n, none⟩ = some (.int .i64 d.M.level)) (by kernel_rfl) (by kernel_rfl) rfl (by kernel_rfl) (fun _ _ d _ _ h => by cases d <;> exact h) ⟨q0, v0⟩ ?_
    refine canon_at (fun v9 hw => ?_)
    have hk : Keeps Nob w12 v9 := by rw [hw]; exact Keeps.drew _ _
    replace K := Lib.hid (K.out.trans hk (fun _ _ h => h))
    clear hw hk
    iterate 37
      refine wpCanon_read (v := ?_) rfl (by kernel_rfl) (by rfl) ?_ ?_
      rotate_left
      · intro W hW
        try (obtain ⟨g1, g2⟩ : _ ∧ _ := hW)
        go_simp
        try rfl
      simp only [Act.put, List.setIfInBounds_toArray, List.set_cons_zero, List.set_cons_succ]
    refine wpCanon_nil ?_
    clear q0 v0
    go_wp2
    go_roundw
    case rel =>
      exact ⟨k + 1, by omega, by go_num, AR, ds.set n d', muBlk P8 41 #[.int .i64 o.kd, .int .i64 o.a, .int .i64 o.b, .slice KA o.key.length kc, .int .i64 o.raw.kd, .int .i64 o.raw.a, .int .i64 o.raw.b, .int .u64 o.raw.w, .bool o.raw.ch, .int .i64 o.raw.nd.lvl, .slice X1 o.raw.nd.high.length k1, .int .i64 o.raw.nd.right, .slice X3 o.raw.nd.keys.length k3, .slice X4 o.raw.nd.vals.length k4, .slice X5 o.raw.nd.kids.length k5], by simp; omega, HWB.out.mono (by omega), HKN2.out, by rw [List.length_set, HP1.out, HP2.out, HP3.out]; exact HS.out.nob K.out⟩
    case measure => simp [intOf]; omega

  obtain rfl : k = os.length := by omega
  have K := Lib.hid hs.kept
  clear hs hkn hdl
  go_wp2
  go_ret
  exact ⟨rfl, K.out⟩
end
end Go.Proofs.Ytbhohohgojcapaa

/- DescentPlays walked: machines of both kinds, step by step, on arenas that others turn. -/
import Derived.Test.YtbhohohgojcapaaFam
import Derived.Test.YtbhohohgojcapaaTree
import Derived.Test.YtbhohohgojcapaaHead12
import Derived.Test.YtbhohohgojcapaaPick12
import Derived.Test.YtbhohohgojcapaaRowAt
import Derived.Test.YtbhohohgojcapaaSame10
import Derived.Test.YtbhohohgojcapaaSame
namespace Go.Proofs.Ytbhohohgojcapaa
open Go.RowKit

theorem Su.begin {w0 w : World} {G : Nat → Prop} {b p q : Nat} {A B : Ar} (hJ : J w G b p q A B) (hg : ∀ x, G x → w0.heap.size ≤ x) (hk : Keeps Nob w0 w) : Su w0 w b p q A B [] :=
  ⟨G, hJ, Fam.nil, hg, fun i o h => by simp at h, hk.mono (fun _ _ h => h.elim)⟩
theorem Su.addNo {w0 w : World} {b p q : Nat} {A B : Ar} {l : List Ob} (h : Su w0 w b p q A B l) : Su w0 w b p q A B (l ++ [noOb]) :=
  h.push (Keeps.refl _ _) trivial (fun x h => h.elim) (fun x h => h.elim)
theorem Su.nilRow {w0 w : World} {b p q : Nat} {A B : Ar} {l : List Ob} (h : Su w0 w b p q A B l) (e : TypeId) (size : Nat) : Su w0 w b p q A B (l ++ [rowOb e size (.slice none 0 0) 0 []]) :=
  h.push (Keeps.refl _ _) (Own.nil _ _ _ _) (fun x hx => by cases hx) (fun x h => h)
theorem Su.drop {w0 w : World} {b p q : Nat} {A B : Ar} {l : List Ob} {i : Nat} {o : Ob} (h : Su w0 w b p q A B l) (hi : l[i]? = some o) : Su w0 w b p q A B (l.set i noOb) :=
  h.put hi (Keeps.refl _ _) trivial (fun x h => h.elim) (fun x h => h.elim)

theorem Try.inf_pair : (Try.prog.info? 66).map (fun i => (i.zero, i.size, i.bytes)) = some (some (.agg #[.pointer none, .pointer none]), 2, 16) := by kernel_rfl
theorem run_strN {w : World} {S : Nat → Prop} {v : Value} {l : List UInt8} (h : Byts w S v l) (n : Nat) : (convert 30 9 v).run Try.prog (w.drewN n) = .ok (.string ⟨l.toArray⟩) (w.drewN n) :=
  run_str (h.keeps (Keeps.drewN Nob w n) (fun _ _ _ => id))
/-- A row of bytes. -/
abbrev byOb (v : Value) (l : List UInt8) : Ob := rowOb 5 1 v l.length (l.map bV)
/-- A byte of a row is written. -/
theorem Su.byte {w0 w : World} {b p q : Nat} {A B : Ar} {l : List Ob} {i g o c j : Nat} {kl : List UInt8} (h : Su w0 w b p q A B l) (hi : l[i]? = some (byOb (.slice (some ⟨g, o, none⟩) kl.length c) kl)) (hj : j < kl.length) (u : UInt8) : Su w0 (w.setCell ⟨g, o + j, none⟩ (bV u)) b p q A B (l.set i (byOb (.slice (some ⟨g, o, none⟩) (kl.set j u).length c) (kl.set j u))) := by
  have ho : Own w _ 5 1 _ _ _ := h.get hi
  have h2 := ho.putC (j := j) (by simpa using hj) (bV u)
  rw [← List.map_set] at h2
  have hlen : (kl.set j u).length = kl.length := by simp
  refine h.set (N := fun x => x = g) hi (Keeps.setCell w (p := ⟨g, o + j, none⟩) (M := fun x => x = g) rfl _) (fun x _ e => ?_) ?_ (fun x hx => .inl ?_) (fun x hx => .inl ?_) (fun _ hx => hx)
  · rw [show x = g from e]; rfl
  · show Own (w.setCell _ _) (fun b => (Value.slice (some ⟨g, o, none⟩) (kl.set j u).length c).ownBlock = some b) 5 1 (.slice (some ⟨g, o, none⟩) (kl.set j u).length c) (kl.set j u).length _
    rw [hlen]; exact h2
  · rw [hlen] at hx; exact hx
  · rw [hlen] at hx; exact hx

/-- The cells of a row of pairs. -/
def prs (ds : List Du) : List Value := ds.flatMap (fun d => [.pointer (some ⟨d.x, 0, none⟩), .pointer (some ⟨d.y, 0, none⟩)])
theorem prs_len (ds : List Du) : (prs ds).length = ds.length * 2 := by
  induction ds with
  | nil => rfl
  | cons d l ih => simp only [prs, List.flatMap_cons, List.length_append, List.length_cons, List.length_nil] at *; omega
theorem prs_at : ∀ (ds : List Du) (i : Nat) (d : Du), ds[i]? = some d → (prs ds)[i * 2]? = some (.pointer (some ⟨d.x, 0, none⟩)) ∧ (prs ds)[i * 2 + 1]? = some (.pointer (some ⟨d.y, 0, none⟩))
  | [], i, d, h => by simp at h
  | e :: l, 0, d, h => by simp at h; subst h; exact ⟨rfl, rfl⟩
  | e :: l, i + 1, d, h => by
    have := prs_at l i d (by simpa using h)
    rw [show (i + 1) * 2 = i * 2 + 1 + 1 by omega]
    exact this
theorem prs_set : ∀ (ds : List Du) (i : Nat) (d e : Du), ds[i]? = some d → e.x = d.x → e.y = d.y → prs (ds.set i e) = prs ds
  | [], i, d, e, h, _, _ => rfl
  | c :: l, 0, d, e, h, h1, h2 => by simp at h; subst h; simp only [prs, List.set_cons_zero, List.flatMap_cons, h1, h2]
  | c :: l, i + 1, d, e, h, h1, h2 => by
    have := prs_set l i d e (by simpa using h) h1 h2
    simp only [prs, List.set_cons_succ, List.flatMap_cons] at *
    rw [this]
theorem prs_snoc (ds : List Du) (d : Du) : prs (ds ++ [d]) = prs ds ++ [.pointer (some ⟨d.x, 0, none⟩), .pointer (some ⟨d.y, 0, none⟩)] := by simp [prs]
/-- Both sides of a pair stand alike; their counts are at most c. -/
def Even (c : Nat) (ds : List Du) : Prop := ∀ d ∈ ds, d.A = d.B ∧ d.A.le c
theorem Even.set {c c' : Nat} {ds : List Du} {i : Nat} {d : Du} (h : Even c ds) (hc : c ≤ c') (h1 : d.A = d.B) (h2 : d.A.le c') : Even c' (ds.set i d) := fun e he => by
  rcases List.mem_or_eq_of_mem_set he with he | rfl
  · exact ⟨(h e he).1, (h e he).2.mono hc⟩
  · exact ⟨h1, h2⟩
theorem Even.snoc {c : Nat} {ds : List Du} {d : Du} (h : Even c ds) (h1 : d.A = d.B) (h2 : d.A.le c) : Even c (ds ++ [d]) := fun e he => by
  rcases List.mem_append.1 he with he | he
  · exact h e he
  · simp at he; subst he; exact ⟨h1, h2⟩
theorem Even.mono {c c' : Nat} {ds : List Du} (h : Even c ds) (hc : c ≤ c') : Even c' ds := fun e he => ⟨(h e he).1, (h e he).2.mono hc⟩

section
variable {a1 a2 a3 a4 : Ob} {f : Du → Ob} {ds : List Du} {n : Nat} {d d' : Du}
theorem du_at (h : n < ds.length) : (a1 :: a2 :: a3 :: a4 :: (ds.set n d).map f)[n + 4]? = some (f d) := by
  show ((ds.set n d).map f)[n]? = _
  rw [List.getElem?_map, List.getElem?_set, if_pos rfl, if_pos h]; rfl
theorem du_set : (a1 :: a2 :: a3 :: a4 :: (ds.set n d).map f).set (n + 4) (f d') = a1 :: a2 :: a3 :: a4 :: (ds.set n d').map f := by
  show a1 :: a2 :: a3 :: a4 :: ((ds.set n d).map f).set n (f d') = _
  rw [← List.map_set, List.set_set]
variable {w0 w : World} {b p q : Nat} {A B : Ar}
theorem Su.duX (h : Su w0 w b p q A B (a1 :: a2 :: a3 :: a4 :: (ds.set n d).map (duOb p q))) (hn : n < ds.length) (hlow : d.A.low) : Calls Try.prog 15 #[pV d.x] w fun e w' => e = .returned (.bool (decide ((stepM A d.A).nx = .done))) ∧ ∃ S, Su w0 w' b p q A B (a1 :: a2 :: a3 :: a4 :: (ds.set n { d with A := stepM A d.A, Sx := S }).map (duOb p q)) := by
  refine (h.stepX (du_at hn) hlow).mono ?_
  rintro e w' ⟨rfl, S, hs⟩
  rw [du_set] at hs
  exact ⟨rfl, S, hs⟩
theorem Su.duR (h : Su w0 w b p q A B (a1 :: a2 :: a3 :: a4 :: (ds.set n d).map (duOb p q))) (hn : n < ds.length) (hlow : d.B.low) : Calls Try.prog 22 #[pV d.y] w fun e w' => e = .returned (.bool (decide ((stepM B d.B).nx = .done))) ∧ ∃ S, Su w0 w' b p q A B (a1 :: a2 :: a3 :: a4 :: (ds.set n { d with B := stepM B d.B, Sy := S }).map (duOb p q)) := by
  refine (h.stepR (du_at hn) hlow).mono ?_
  rintro e w' ⟨rfl, S, hs⟩
  rw [du_set] at hs
  exact ⟨rfl, S, hs⟩
theorem set_self {α : Type} {l : List α} {n : Nat} {x : α} (h : l[n]? = some x) : l.set n x = l := by
  obtain ⟨hn, rfl⟩ := List.getElem?_eq_some_iff.1 h
  exact List.set_getElem_self hn
end

section
variable {w : World} {os : List O12} {v : Value}
set_option maxRecDepth 100000 in
set_option maxHeartbeats 6400000 in
theorem dplays_ok (h : O12At w w.heap.size v os) : Calls Try.prog 4 #[v] w fun e w' => e = .returned (.bool true) ∧ Keeps Nob w w' := by
  have HO := Lib.hid h
  obtain ⟨A, c, hv, hc1, hc2, hc3, _⟩ := h
  subst hv
  have HH := Lib.hid (head12 w)
  have HB := fun wx => begunJ (n := 40) wx (by decide) (by decide)
  have hos : os.length < 800000000000 := by omega
  clear hc1 hc2 hc3
  unfold iV pV at *
  go_enter Try.func4, Try.ntmps4
  go_wp2_with (first
    | (go_at_call 9; refine HH.out.mono ?_; rintro e w1 ⟨rfl, hk⟩; have K := Lib.hid hk; clear hk)
    | (go_at_call 10; refine (HB _).mono ?_; rintro e w2 ⟨b, p, q, rfl, hj, hk⟩; have HS := Lib.hid ((((Su.begin (w0 := w) hj (fun x hx => Nat.le_trans K.out.size hx) (K.out.trans hk (fun _ _ h => h))).nilRow 66 2).addNo.addNo.addNo)); clear hj hk))
  clear HB HH K
  go_loopw [5, 6, 7] (fun okv lv i wr => ∃ k : Nat, k ≤ os.length ∧ i = .int .i64 k ∧ okv = .bool true ∧ ∃ A ds, ∃ o1 o2 o3 : Ob, ds.length ≤ k ∧ Even (12 * k) ds ∧ Su w wr b p q A A (rowOb 66 2 lv ds.length (prs ds) :: o1 :: o2 :: o3 :: ds.map (duOb p q))) (fun _ _ i _ => os.length - (intOf i).toNat)
  case atStart => exact ⟨0, Nat.zero_le _, rfl, rfl, _, [], _, _, _, Nat.le_refl _, fun d hd => by simp at hd, HS.out⟩
  clear HS
  obtain ⟨k, hk, rfl, rfl, AR, ds, o1, o2, o3, hdl, hev, hs⟩ := hrel
  rcases Nat.lt_or_ge k os.length with hlt | hlt
  · obtain ⟨o, ho⟩ : ∃ o, os[k]? = some o := ⟨_, List.getElem?_eq_getElem hlt⟩
    obtain ⟨ad, cs, rfl, hlo, hop, hcs⟩ := (HO.out.keeps hs.kept (fun _ _ => id) (fun _ _ h => h.keeps hs.kept (fun _ _ => id))).at_ ho
    obtain ⟨kv, c0, c1, c2, c3, c4, c5, rfl, hkey, hraw, i1, i2, i3, hsm⟩ := hop
    obtain ⟨KA, kc, ek, _, _⟩ := hkey.form
    subst ek
    have hnd := hraw
    obtain ⟨⟨_, _, _, _, _, _, ec, hn⟩, _⟩ := hnd
    injection ec with ec
    simp only [List.cons.injEq, and_true] at ec
    obtain ⟨_, _, _, _, _, ec0, ec1, ec2, ec3, ec4, ec5⟩ := ec
    subst ec0 ec1 ec2 ec3 ec4 ec5
    obtain ⟨X1, k1, e1, _, _⟩ := hn.1.high.form
    obtain ⟨X3, k3, e3, _, _⟩ := hn.2.keys.form
    obtain ⟨X4, k4, e4, _, _⟩ := hn.2.vals.form
    obtain ⟨X5, k5, e5, _, _⟩ := hn.2.kids.form
    have e0 := hn.1.lvl
    have e2 := hn.1.right
    unfold iV at e0 e2
    subst e0 e1 e2 e3 e4 e5
    clear hn
    obtain ⟨lA, lc, el⟩ := (hs.get (i := 0) rfl : Own wr _ _ 2 _ _ _).form
    subst el
    have q0 := hcs 0 _ rfl
    have q1 := hcs 1 _ rfl
    have q2 := hcs 2 _ rfl
    have q3 := hcs 3 _ rfl
    have q4 := hcs 4 _ rfl
    have q5 := hcs 5 _ rfl
    have q6 := hcs 6 _ rfl
    have q7 := hcs 7 _ rfl
    have q8 := hcs 8 _ rfl
    have q9 := hcs 9 _ rfl
    have q10 := hcs 10 _ rfl
    have q11 := hcs 11 _ rfl
    have q12 := hcs 12 _ rfl
    have q13 := hcs 13 _ rfl
    have q14 := hcs 14 _ rfl
    simp only [sub_] at q0 q1 q2 q3 q4 q5 q6 q7 q8 q9 q10 q11 q12 q13 q14
    clear hcs hlo ho
    have HS := Lib.hid hs
    have HEV := Lib.hid hev
    have HKEY := Lib.hid hkey
    have HRAW := Lib.hid hraw
    have HSM : Hid (Sm 0 1 o.key.length) := hsm
    have PK := fun wx => pick12_ (n := 4) wx i1 (by decide)
    have PA := fun wx => pick12_ (n := 4) wx i2 (by decide)
    have PB := fun wx => pick12_ (n := 12) wx i3 (by decide)
    obtain ⟨hpk1, hpk2⟩ := pk_range o.kd 4 (by decide)
    obtain ⟨hpb1, hpb2⟩ := pk_range o.b 12 (by decide)
    have PI := fun wx (hn : 1 ≤ (ds.length : Int)) => pick12_ (n := (ds.length : Int)) wx i2 hn
    clear hs hev hkey hraw hsm
    unfold iV at PK PA PB PI
    generalize pk o.kd 4 = kind at *
    generalize pk o.a 4 = lev at *
    generalize pk o.b 12 = most at *
    have hk64 : k < 9223372036854775807 := by omega
    go_wp2_with fail
    clear q0 q1 q2 q3 q4 q5 q6 q7 q8 q9 q10 q11 q12 q13 q14
    refine calls_at (fun w1 hw => ?_)
    have hk1 : Keeps Nob wr w1 := by rw [hw]; exact Keeps.alloc _ _ _
    obtain ⟨P8, hP8⟩ : ∃ N, wr.heap.size = N := ⟨_, rfl⟩
    rw [hP8]
    have hb8 : Blk w1 P8 41 #[.int .i64 o.kd, .int .i64 o.a, .int .i64 o.b, .slice KA o.key.length kc, .int .i64 o.raw.kd, .int .i64 o.raw.a, .int .i64 o.raw.b, .int .u64 o.raw.w, .bool o.raw.ch, .int .i64 o.raw.nd.lvl, .slice X1 o.raw.nd.high.length k1, .int .i64 o.raw.nd.right, .slice X3 o.raw.nd.keys.length k3, .slice X4 o.raw.nd.vals.length k4, .slice X5 o.raw.nd.kids.length k5] := by rw [hw, ← hP8]; exact Blk.new _ _ _
    clear hw
    replace HS := Lib.hid (HS.out.blkPut (i := 2) rfl hk1 hb8 (by rw [hP8]; exact Nat.le_refl _))
    replace HKEY := Lib.hid (HKEY.out.keeps hk1 (fun _ _ _ => id))
    replace HRAW := Lib.hid (HRAW.out.keeps hk1 (fun _ _ => id))
    have b0 : w1.cell? ⟨P8, 0, none⟩ = some (.int .i64 o.kd) := hb8.cell 0
    have b1 : w1.cell? ⟨P8, 1, none⟩ = some (.int .i64 o.a) := hb8.cell 1
    have b2 : w1.cell? ⟨P8, 2, none⟩ = some (.int .i64 o.b) := hb8.cell 2
    have b3 : w1.cell? ⟨P8, 3, none⟩ = some (.slice KA o.key.length kc) := hb8.cell 3
    have lt8 := hb8.lt
    clear hk1 hb8 hP8
    refine (PK w1).mono ?_
    rintro e w' ⟨rfl, rfl⟩
    by_cases e0 : kind = 0
    · subst e0
      obtain ⟨i0, hi, hz0, hz1, hz2⟩ := info_parts Try.inf_u8
      go_wp2_with (at_builtin; refine wpList_app rfl (.tmp 89) (.tmp 91) 30 rfl Try.underlying30 hi hz0 hz1 hz2 rfl (by decide) (v := .slice (some ⟨w1.heap.size, 0, none⟩) 0 0) (n := 0) (m := o.key.length) (S := From w1.heap.size) (T := fun b => b < w.heap.size) (xs := []) (news := o.key.map bV) rfl ?c1 (y := .slice KA o.key.length kc) rfl ?c2 ?c3 ?c4 ?c5 ?c6)
      case c1 => exact Own.empty w1 _ _ _ (Nat.le_refl _)
      case c2 => exact HKEY.out.g.keeps (Keeps.alloc Nob _ _) (fun _ _ _ => id)
      case c3 => exact bV_one o.key
      case c4 => have := HSM.out; unfold Sm at this; unfold maxLen; omega
      case c5 => have := HSM.out; unfold Sm at this; omega
      case c6 =>
      intro v' w2 hown hk2 _
      try simp only [Nat.zero_add, List.nil_append] at hown
      obtain ⟨B1, d1, hf⟩ := hown.form
      subst hf
      have hk12 : Keeps Nob w1 w2 := (Keeps.alloc Nob w1 _).trans hk2 (fun b hb e => by simp [Value.ownBlock] at e; omega)
      have ho2 : Own w2 (Fresh w1 w2) 5 1 (.slice B1 o.key.length d1) o.key.length (o.key.map bV) := hown.mono (fun b _ hb => by
        rcases hb with hb | hb
        · simp [Value.ownBlock] at hb; subst hb; exact ⟨Nat.le_refl _, by have := hk2.size; simp at this; omega⟩
        · have h1 := hb.1; exact ⟨by first | omega | (simp at h1; omega), hb.2⟩)
      replace HS := Lib.hid (HS.out.rowPut (i := 1) rfl hk12 ho2)
      replace HKEY := Lib.hid (HKEY.out.keeps hk12 (fun _ _ _ => id))
      replace b0 := hk12.cell b0 id
      replace b1 := hk12.cell b1 id
      replace b2 := hk12.cell b2 id
      replace b3 := hk12.cell b3 id
      clear hown hk2 hk12 ho2 HRAW PK PB PI
      have HKB : Hid (Byts w2 (fun x => (Value.slice B1 o.key.length d1).ownBlock = some x) (.slice B1 o.key.length d1) o.key) := (HS.out.get (i := 1) rfl : Own w2 _ _ 1 _ _ _).r
      have s0 := HS.out.blk.cell 0
      have s1 := HS.out.blk.cell 1
      unfold pV at s0 s1
      go_wp2
      obtain ⟨wr, hwr⟩ : ∃ x, x = w2 := ⟨_, rfl⟩
      subst hwr
      refine wp_region_treeV (X := Nat × Nat × Nat) (fun x => [(some 93, .pointer (some ⟨b, 0, none⟩)), (some 94, .pointer (some ⟨b, 0, none⟩)), (some 95, .pointer (some ⟨b, 0, none⟩)), (some 96, .pointer (some ⟨p, 0, none⟩)), (some 97, .slice B1 o.key.length d1), (some 98, .pointer (some ⟨P8, 1, none⟩)), (some 99, .int .i64 o.a), (some 100, .int .i64 lev), (some 101, .pointer (some ⟨x.1, 0, none⟩)), (some 102, .pointer (some ⟨b, 0, none⟩)), (some 103, .pointer (some ⟨b, 0, none⟩)), (some 104, .pointer (some ⟨b, 1, none⟩)), (some 105, .pointer (some ⟨q, 0, none⟩)), (some 106, .pointer (some ⟨P8, 3, none⟩)), (some 107, .slice KA o.key.length kc), (some 108, .pointer (some ⟨P8, 1, none⟩)), (some 109, .int .i64 o.a), (some 110, .int .i64 lev), (some 111, .pointer (some ⟨x.2.1, 0, none⟩)), (some 112, .agg #[.pointer (some ⟨x.1, 0, none⟩), .pointer (some ⟨x.2.1, 0, none⟩)]), (some 10, .pointer (some ⟨x.2.2, 0, none⟩))]) (fun x w' => XYNew wr w' (fun y => y = x.2.2) p q (Mc.new o.key lev) x.1 x.2.1 ∧ Blk w' x.2.2 66 #[.pointer (some ⟨x.1, 0, none⟩), .pointer (some ⟨x.2.1, 0, none⟩)] ∧ wr.heap.size ≤ x.2.2 ∧ Keeps Nob wr w') (Walk.reads [0, 1, 2, 3, 4, 5, 6, 9, 10, 11, 12, 13, 14, 15, 16] (.two 7 (.two 8 (.two 17 (.two 18 (Walk.reads [19] (.act 20 (.act 21 (.nil)))) 20 (.act 18 (Walk.reads [19] (.act 21 (.nil))))) 20 (.act 17 (.act 18 (Walk.reads [19] (.act 21 (.nil)))))) 20 (.act 8 (.act 17 (.act 18 (Walk.reads [19] (.act 21 (.nil))))))) 20 (.act 7 (.act 8 (.act 17 (.act 18 (Walk.reads [19] (.act 21 (.nil))))))))) 21 (fun W => W.cell? ⟨b, 0, none⟩ = some (.pointer (some ⟨p, 0, none⟩)) ∧ W.cell? ⟨b, 1, none⟩ = some (.pointer (some ⟨q, 0, none⟩)) ∧ W.cell? ⟨P8, 1, none⟩ = some (.int .i64 o.a) ∧ W.cell? ⟨P8, 3, none⟩ = some (.slice KA o.key.length kc)) (by kernel_rfl) (by kernel_rfl) (of_decide_eq_true (by kernel_rfl)) (by kernel_rfl) (fun _ _ d _ _ h => by cases d <;> exact h) ?_ ?_ ?_
      · exact ⟨s0, s1, b1, b3⟩
      · refine tree_at (fun v0 hw => ?_)
        have hk : Keeps Nob wr v0 := by rw [hw]; exact Keeps.drew _ _
        clear hw
        have HC : Hid (v0.cell? ⟨b, 0, none⟩ = some (.pointer (some ⟨p, 0, none⟩)) ∧ v0.cell? ⟨b, 1, none⟩ = some (.pointer (some ⟨q, 0, none⟩)) ∧ v0.cell? ⟨P8, 1, none⟩ = some (.int .i64 o.a) ∧ v0.cell? ⟨P8, 3, none⟩ = some (.slice KA o.key.length kc)) := ⟨hk.cell s0 id, hk.cell s1 id, hk.cell b1 id, hk.cell b3 id⟩
        replace HKB := Lib.hid (HKB.out.keeps hk (fun _ _ _ => id))
        replace HKEY := Lib.hid (HKEY.out.keeps hk (fun _ _ _ => id))
        have K := Lib.hid hk
        have FX := fun wx S (h : Byts wx S (.slice B1 o.key.length d1) o.key) => newX (p := p) (level := lev) h HSM.out
        have FR := fun wx S (h : Byts wx S (.slice KA o.key.length kc) o.key) => newR (q := q) (level := lev) h HSM.out
        unfold pV iV at FX FR
        clear hk s0 s1 b0 b1 b2 b3 HS
        unfold Walk.reads
        iterate 15
          refine wpTree_read (v := ?_) rfl (by rfl) ?_ ?_
          rotate_left
          · intro W hW
            try (obtain ⟨g1, g2, g3, g4⟩ : _ ∧ _ ∧ _ ∧ _ := hW)
            go_simp
            try rfl
          simp only [Act.put, List.setIfInBounds_toArray, List.set_cons_zero, List.set_cons_succ]
        refine wpTree_two rfl rfl ?_ ?_
        · go_wp2_with (go_at_call 11; refine (PA _).mono ?_; rintro e wk ⟨rfl, rfl⟩)
          refine ⟨.inr HC.out, ?_⟩
          refine wpTree_two rfl rfl ?_ ?_
          · go_wp2_with (go_at_call 12; refine (FX _ _ HKB.out).mono ?_; rintro e v2 ⟨mx, rfl, hf, hX, hk⟩)
            have HX := Lib.hid (XNew.made (Z := fun _ => False) K.out hf hX (fun _ h => h.elim))
            replace HC : Hid (_ ∧ _ ∧ _ ∧ _) := ⟨hk.cell HC.out.1 id, hk.cell HC.out.2.1 id, hk.cell HC.out.2.2.1 id, hk.cell HC.out.2.2.2 id⟩
            replace HKB := Lib.hid (HKB.out.keeps hk (fun _ _ _ => id))
            replace HKEY := Lib.hid (HKEY.out.keeps hk (fun _ _ _ => id))
            clear hf hX
            replace K := Lib.hid (K.out.trans hk (fun _ _ h => h))
            clear hk
            refine ⟨.inr HC.out, ?_⟩
            refine wpTree_two rfl rfl ?_ ?_
            · go_wp2_with (go_at_call 11; refine (PA _).mono ?_; rintro e wk ⟨rfl, rfl⟩)
              refine ⟨.inr HC.out, ?_⟩
              refine wpTree_two rfl rfl ?_ ?_
              · go_wp2_with (go_at_call 21; refine (FR _ _ HKEY.out).mono ?_; rintro e v4 ⟨my, rfl, hf, hY, hk⟩)
                replace HX := Lib.hid (HX.out.both hk hf hY (fun _ h => h.elim))
                replace HC : Hid (_ ∧ _ ∧ _ ∧ _) := ⟨hk.cell HC.out.1 id, hk.cell HC.out.2.1 id, hk.cell HC.out.2.2.1 id, hk.cell HC.out.2.2.2 id⟩
                replace HKB := Lib.hid (HKB.out.keeps hk (fun _ _ _ => id))
                replace HKEY := Lib.hid (HKEY.out.keeps hk (fun _ _ _ => id))
                clear hf hY
                replace K := Lib.hid (K.out.trans hk (fun _ _ h => h))
                clear hk
                refine ⟨.inr HC.out, ?_⟩
                iterate 1
                  refine wpTree_read (v := ?_) rfl (by rfl) ?_ ?_
                  rotate_left
                  · intro W hW
                    try (obtain ⟨g1, g2, g3, g4⟩ : _ ∧ _ ∧ _ ∧ _ := hW)
                    go_simp
                    try rfl
                  simp only [Act.put, List.setIfInBounds_toArray, List.set_cons_zero, List.set_cons_succ]
                refine wpTree_act rfl ?_
                go_wp2
                refine tree_at' (fun v5 hw => ?_)
                obtain ⟨N, hN⟩ : ∃ N, v4.heap.size = N := ⟨_, rfl⟩
                have hk : Keeps Nob v4 v5 := by rw [hw]; exact Keeps.alloc _ _ _
                have HN : Hid (wr.heap.size ≤ N) := by rw [← hN]; exact K.out.size
                have HB := Lib.hid (Blk.new v4 66 #[.pointer none, .pointer none])
                rw [← hw, hN] at HB
                replace HX := Lib.hid ((HX.out.avoid N (Nat.le_of_eq hN)).keeps hk (fun _ _ h => h.elim))
                rw [hN]
                clear hw hN
                replace HC : Hid (_ ∧ _ ∧ _ ∧ _) := ⟨hk.cell HC.out.1 id, hk.cell HC.out.2.1 id, hk.cell HC.out.2.2.1 id, hk.cell HC.out.2.2.2 id⟩
                replace HKB := Lib.hid (HKB.out.keeps hk (fun _ _ _ => id))
                replace HKEY := Lib.hid (HKEY.out.keeps hk (fun _ _ _ => id))
                replace K := Lib.hid (K.out.trans hk (fun _ _ h => h))
                clear hk
                refine ⟨.inr HC.out, ?_⟩
                refine wpTree_act rfl ?_
                have q0 := HB.out.cell 0
                have q1 := HB.out.cell 1
                have f0 := HB.out.frozen 0
                have f1 := HB.out.frozen 1
                go_wp2
                clear q0 q1 f0 f1
                refine tree_at' (fun v6 hw => ?_)
                have hk : Keeps (fun x => x = N) v5 v6 := by rw [hw]; exact (Keeps.setCell _ (M := fun x => x = N) rfl _).setCell' (fun _ => rfl) _
                replace HB : Hid (Blk v6 N 66 #[.pointer (some ⟨mx, 0, none⟩), .pointer (some ⟨my, 0, none⟩)]) := by rw [hw]; exact (HB.out.set_ 0 _).set_ 1 _
                replace HX := Lib.hid (HX.out.keeps hk (fun _ _ h => h))
                replace K := Lib.hid (K.out.trans hk (fun x hx e => by have h := HN.out; have e' : x = N := e; omega))
                clear hk hw
                refine ⟨.inl (by rfl), ?_⟩
                refine wpTree_nil ?_
                exact ⟨(mx, my, N), by simp only [putsA, Act.put, List.setIfInBounds_toArray, List.set_cons_zero, List.set_cons_succ], HX.out, HB.out, HN.out, K.out⟩
              · go_wp2
                refine tree_at' (fun v7 hw => ?_)
                obtain ⟨N, hN⟩ : ∃ N, v2.heap.size = N := ⟨_, rfl⟩
                have hk : Keeps Nob v2 v7 := by rw [hw]; exact Keeps.alloc _ _ _
                have HN : Hid (wr.heap.size ≤ N) := by rw [← hN]; exact K.out.size
                have HB := Lib.hid (Blk.new v2 66 #[.pointer none, .pointer none])
                rw [← hw, hN] at HB
                replace HX := Lib.hid ((HX.out.avoid N (Nat.le_of_eq hN)).keeps hk (fun _ _ h => h.elim))
                rw [hN]
                clear hw hN
                replace HC : Hid (_ ∧ _ ∧ _ ∧ _) := ⟨hk.cell HC.out.1 id, hk.cell HC.out.2.1 id, hk.cell HC.out.2.2.1 id, hk.cell HC.out.2.2.2 id⟩
                replace HKB := Lib.hid (HKB.out.keeps hk (fun _ _ _ => id))
                replace HKEY := Lib.hid (HKEY.out.keeps hk (fun _ _ _ => id))
                replace K := Lib.hid (K.out.trans hk (fun _ _ h => h))
                clear hk
                refine ⟨.inr HC.out, ?_⟩
                refine wpTree_act rfl ?_
                go_wp2_with (go_at_call 21; refine (FR _ _ HKEY.out).mono ?_; rintro e v8 ⟨my, rfl, hf, hY, hk⟩)
                replace HX := Lib.hid (HX.out.both hk hf hY (fun x e => by rw [show x = N from e]; exact HB.out.lt))
                replace HC : Hid (_ ∧ _ ∧ _ ∧ _) := ⟨hk.cell HC.out.1 id, hk.cell HC.out.2.1 id, hk.cell HC.out.2.2.1 id, hk.cell HC.out.2.2.2 id⟩
                replace HKB := Lib.hid (HKB.out.keeps hk (fun _ _ _ => id))
                replace HKEY := Lib.hid (HKEY.out.keeps hk (fun _ _ _ => id))
                replace HB := Lib.hid (HB.out.keeps hk id)
                clear hf hY
                replace K := Lib.hid (K.out.trans hk (fun _ _ h => h))
                clear hk
                refine ⟨.inr HC.out, ?_⟩
                iterate 1
                  refine wpTree_read (v := ?_) rfl (by rfl) ?_ ?_
                  rotate_left
                  · intro W hW
                    try (obtain ⟨g1, g2, g3, g4⟩ : _ ∧ _ ∧ _ ∧ _ := hW)
                    go_simp
                    try rfl
                  simp only [Act.put, List.setIfInBounds_toArray, List.set_cons_zero, List.set_cons_succ]
                refine wpTree_act rfl ?_
                have q0 := HB.out.cell 0
                have q1 := HB.out.cell 1
                have f0 := HB.out.frozen 0
                have f1 := HB.out.frozen 1
                go_wp2
                clear q0 q1 f0 f1
                refine tree_at' (fun v9 hw => ?_)
                have hk : Keeps (fun x => x = N) v8 v9 := by rw [hw]; exact (Keeps.setCell _ (M := fun x => x = N) rfl _).setCell' (fun _ => rfl) _
                replace HB : Hid (Blk v9 N 66 #[.pointer (some ⟨mx, 0, none⟩), .pointer (some ⟨my, 0, none⟩)]) := by rw [hw]; exact (HB.out.set_ 0 _).set_ 1 _
                replace HX := Lib.hid (HX.out.keeps hk (fun _ _ h => h))
                replace K := Lib.hid (K.out.trans hk (fun x hx e => by have h := HN.out; have e' : x = N := e; omega))
                clear hk hw
                refine ⟨.inl (by rfl), ?_⟩
                refine wpTree_nil ?_
                exact ⟨(mx, my, N), by simp only [putsA, Act.put, List.setIfInBounds_toArray, List.set_cons_zero, List.set_cons_succ], HX.out, HB.out, HN.out, K.out⟩
            · go_wp2
              refine tree_at' (fun v10 hw => ?_)
              obtain ⟨N, hN⟩ : ∃ N, v2.heap.size = N := ⟨_, rfl⟩
              have hk : Keeps Nob v2 v10 := by rw [hw]; exact Keeps.alloc _ _ _
              have HN : Hid (wr.heap.size ≤ N) := by rw [← hN]; exact K.out.size
              have HB := Lib.hid (Blk.new v2 66 #[.pointer none, .pointer none])
              rw [← hw, hN] at HB
              replace HX := Lib.hid ((HX.out.avoid N (Nat.le_of_eq hN)).keeps hk (fun _ _ h => h.elim))
              rw [hN]
              clear hw hN
              replace HC : Hid (_ ∧ _ ∧ _ ∧ _) := ⟨hk.cell HC.out.1 id, hk.cell HC.out.2.1 id, hk.cell HC.out.2.2.1 id, hk.cell HC.out.2.2.2 id⟩
              replace HKB := Lib.hid (HKB.out.keeps hk (fun _ _ _ => id))
              replace HKEY := Lib.hid (HKEY.out.keeps hk (fun _ _ _ => id))
              replace K := Lib.hid (K.out.trans hk (fun _ _ h => h))
              clear hk
              refine ⟨.inr HC.out, ?_⟩
              refine wpTree_act rfl ?_
              go_wp2_with (go_at_call 11; refine (PA _).mono ?_; rintro e wk ⟨rfl, rfl⟩)
              refine ⟨.inr HC.out, ?_⟩
              refine wpTree_act rfl ?_
              go_wp2_with (go_at_call 21; refine (FR _ _ HKEY.out).mono ?_; rintro e v12 ⟨my, rfl, hf, hY, hk⟩)
              replace HX := Lib.hid (HX.out.both hk hf hY (fun x e => by rw [show x = N from e]; exact HB.out.lt))
              replace HC : Hid (_ ∧ _ ∧ _ ∧ _) := ⟨hk.cell HC.out.1 id, hk.cell HC.out.2.1 id, hk.cell HC.out.2.2.1 id, hk.cell HC.out.2.2.2 id⟩
              replace HKB := Lib.hid (HKB.out.keeps hk (fun _ _ _ => id))
              replace HKEY := Lib.hid (HKEY.out.keeps hk (fun _ _ _ => id))
              replace HB := Lib.hid (HB.out.keeps hk id)
              clear hf hY
              replace K := Lib.hid (K.out.trans hk (fun _ _ h => h))
              clear hk
              refine ⟨.inr HC.out, ?_⟩
              iterate 1
                refine wpTree_read (v := ?_) rfl (by rfl) ?_ ?_
                rotate_left
                · intro W hW
                  try (obtain ⟨g1, g2, g3, g4⟩ : _ ∧ _ ∧ _ ∧ _ := hW)
                  go_simp
                  try rfl
                simp only [Act.put, List.setIfInBounds_toArray, List.set_cons_zero, List.set_cons_succ]
              refine wpTree_act rfl ?_
              have q0 := HB.out.cell 0
              have q1 := HB.out.cell 1
              have f0 := HB.out.frozen 0
              have f1 := HB.out.frozen 1
              go_wp2
              clear q0 q1 f0 f1
              refine tree_at' (fun v13 hw => ?_)
              have hk : Keeps (fun x => x = N) v12 v13 := by rw [hw]; exact (Keeps.setCell _ (M := fun x => x = N) rfl _).setCell' (fun _ => rfl) _
              replace HB : Hid (Blk v13 N 66 #[.pointer (some ⟨mx, 0, none⟩), .pointer (some ⟨my, 0, none⟩)]) := by rw [hw]; exact (HB.out.set_ 0 _).set_ 1 _
              replace HX := Lib.hid (HX.out.keeps hk (fun _ _ h => h))
              replace K := Lib.hid (K.out.trans hk (fun x hx e => by have h := HN.out; have e' : x = N := e; omega))
              clear hk hw
              refine ⟨.inl (by rfl), ?_⟩
              refine wpTree_nil ?_
              exact ⟨(mx, my, N), by simp only [putsA, Act.put, List.setIfInBounds_toArray, List.set_cons_zero, List.set_cons_succ], HX.out, HB.out, HN.out, K.out⟩
          · go_wp2
            refine tree_at' (fun v14 hw => ?_)
            obtain ⟨N, hN⟩ : ∃ N, v0.heap.size = N := ⟨_, rfl⟩
            have hk : Keeps Nob v0 v14 := by rw [hw]; exact Keeps.alloc _ _ _
            have HN : Hid (wr.heap.size ≤ N) := by rw [← hN]; exact K.out.size
            have HB := Lib.hid (Blk.new v0 66 #[.pointer none, .pointer none])
            rw [← hw, hN] at HB
            rw [hN]
            clear hw hN
            replace HC : Hid (_ ∧ _ ∧ _ ∧ _) := ⟨hk.cell HC.out.1 id, hk.cell HC.out.2.1 id, hk.cell HC.out.2.2.1 id, hk.cell HC.out.2.2.2 id⟩
            replace HKB := Lib.hid (HKB.out.keeps hk (fun _ _ _ => id))
            replace HKEY := Lib.hid (HKEY.out.keeps hk (fun _ _ _ => id))
            replace K := Lib.hid (K.out.trans hk (fun _ _ h => h))
            clear hk
            refine ⟨.inr HC.out, ?_⟩
            refine wpTree_act rfl ?_
            go_wp2_with (go_at_call 12; refine (FX _ _ HKB.out).mono ?_; rintro e v15 ⟨mx, rfl, hf, hX, hk⟩)
            have HX := Lib.hid (XNew.made (Z := fun x => x = N) K.out hf hX (fun x e => by rw [show x = N from e]; exact HB.out.lt))
            replace HC : Hid (_ ∧ _ ∧ _ ∧ _) := ⟨hk.cell HC.out.1 id, hk.cell HC.out.2.1 id, hk.cell HC.out.2.2.1 id, hk.cell HC.out.2.2.2 id⟩
            replace HKB := Lib.hid (HKB.out.keeps hk (fun _ _ _ => id))
            replace HKEY := Lib.hid (HKEY.out.keeps hk (fun _ _ _ => id))
            replace HB := Lib.hid (HB.out.keeps hk id)
            clear hf hX
            replace K := Lib.hid (K.out.trans hk (fun _ _ h => h))
            clear hk
            refine ⟨.inr HC.out, ?_⟩
            refine wpTree_act rfl ?_
            go_wp2_with (go_at_call 11; refine (PA _).mono ?_; rintro e wk ⟨rfl, rfl⟩)
            refine ⟨.inr HC.out, ?_⟩
            refine wpTree_act rfl ?_
            go_wp2_with (go_at_call 21; refine (FR _ _ HKEY.out).mono ?_; rintro e v17 ⟨my, rfl, hf, hY, hk⟩)
            replace HX := Lib.hid (HX.out.both hk hf hY (fun x e => by rw [show x = N from e]; exact HB.out.lt))
            replace HC : Hid (_ ∧ _ ∧ _ ∧ _) := ⟨hk.cell HC.out.1 id, hk.cell HC.out.2.1 id, hk.cell HC.out.2.2.1 id, hk.cell HC.out.2.2.2 id⟩
            replace HKB := Lib.hid (HKB.out.keeps hk (fun _ _ _ => id))
            replace HKEY := Lib.hid (HKEY.out.keeps hk (fun _ _ _ => id))
            replace HB := Lib.hid (HB.out.keeps hk id)
            clear hf hY
            replace K := Lib.hid (K.out.trans hk (fun _ _ h => h))
            clear hk
            refine ⟨.inr HC.out, ?_⟩
            iterate 1
              refine wpTree_read (v := ?_) rfl (by rfl) ?_ ?_
              rotate_left
              · intro W hW
                try (obtain ⟨g1, g2, g3, g4⟩ : _ ∧ _ ∧ _ ∧ _ := hW)
                go_simp
                try rfl
              simp only [Act.put, List.setIfInBounds_toArray, List.set_cons_zero, List.set_cons_succ]
            refine wpTree_act rfl ?_
            have q0 := HB.out.cell 0
            have q1 := HB.out.cell 1
            have f0 := HB.out.frozen 0
            have f1 := HB.out.frozen 1
            go_wp2
            clear q0 q1 f0 f1
            refine tree_at' (fun v18 hw => ?_)
            have hk : Keeps (fun x => x = N) v17 v18 := by rw [hw]; exact (Keeps.setCell _ (M := fun x => x = N) rfl _).setCell' (fun _ => rfl) _
            replace HB : Hid (Blk v18 N 66 #[.pointer (some ⟨mx, 0, none⟩), .pointer (some ⟨my, 0, none⟩)]) := by rw [hw]; exact (HB.out.set_ 0 _).set_ 1 _
            replace HX := Lib.hid (HX.out.keeps hk (fun _ _ h => h))
            replace K := Lib.hid (K.out.trans hk (fun x hx e => by have h := HN.out; have e' : x = N := e; omega))
            clear hk hw
            refine ⟨.inl (by rfl), ?_⟩
            refine wpTree_nil ?_
            exact ⟨(mx, my, N), by simp only [putsA, Act.put, List.setIfInBounds_toArray, List.set_cons_zero, List.set_cons_succ], HX.out, HB.out, HN.out, K.out⟩
        · go_wp2
          refine tree_at' (fun v19 hw => ?_)
          obtain ⟨N, hN⟩ : ∃ N, v0.heap.size = N := ⟨_, rfl⟩
          have hk : Keeps Nob v0 v19 := by rw [hw]; exact Keeps.alloc _ _ _
          have HN : Hid (wr.heap.size ≤ N) := by rw [← hN]; exact K.out.size
          have HB := Lib.hid (Blk.new v0 66 #[.pointer none, .pointer none])
          rw [← hw, hN] at HB
          rw [hN]
          clear hw hN
          replace HC : Hid (_ ∧ _ ∧ _ ∧ _) := ⟨hk.cell HC.out.1 id, hk.cell HC.out.2.1 id, hk.cell HC.out.2.2.1 id, hk.cell HC.out.2.2.2 id⟩
          replace HKB := Lib.hid (HKB.out.keeps hk (fun _ _ _ => id))
          replace HKEY := Lib.hid (HKEY.out.keeps hk (fun _ _ _ => id))
          replace K := Lib.hid (K.out.trans hk (fun _ _ h => h))
          clear hk
          refine ⟨.inr HC.out, ?_⟩
          refine wpTree_act rfl ?_
          go_wp2_with (go_at_call 11; refine (PA _).mono ?_; rintro e wk ⟨rfl, rfl⟩)
          refine ⟨.inr HC.out, ?_⟩
          refine wpTree_act rfl ?_
          go_wp2_with (go_at_call 12; refine (FX _ _ HKB.out).mono ?_; rintro e v21 ⟨mx, rfl, hf, hX, hk⟩)
          have HX := Lib.hid (XNew.made (Z := fun x => x = N) K.out hf hX (fun x e => by rw [show x = N from e]; exact HB.out.lt))
          replace HC : Hid (_ ∧ _ ∧ _ ∧ _) := ⟨hk.cell HC.out.1 id, hk.cell HC.out.2.1 id, hk.cell HC.out.2.2.1 id, hk.cell HC.out.2.2.2 id⟩
          replace HKB := Lib.hid (HKB.out.keeps hk (fun _ _ _ => id))
          replace HKEY := Lib.hid (HKEY.out.keeps hk (fun _ _ _ => id))
          replace HB := Lib.hid (HB.out.keeps hk id)
          clear hf hX
          replace K := Lib.hid (K.out.trans hk (fun _ _ h => h))
          clear hk
          refine ⟨.inr HC.out, ?_⟩
          refine wpTree_act rfl ?_
          go_wp2_with (go_at_call 11; refine (PA _).mono ?_; rintro e wk ⟨rfl, rfl⟩)
          refine ⟨.inr HC.out, ?_⟩
          refine wpTree_act rfl ?_
          go_wp2_with (go_at_call 21; refine (FR _ _ HKEY.out).mono ?_; rintro e v23 ⟨my, rfl, hf, hY, hk⟩)
          replace HX := Lib.hid (HX.out.both hk hf hY (fun x e => by rw [show x = N from e]; exact HB.out.lt))
          replace HC : Hid (_ ∧ _ ∧ _ ∧ _) := ⟨hk.cell HC.out.1 id, hk.cell HC.out.2.1 id, hk.cell HC.out.2.2.1 id, hk.cell HC.out.2.2.2 id⟩
          replace HKB := Lib.hid (HKB.out.keeps hk (fun _ _ _ => id))
          replace HKEY := Lib.hid (HKEY.out.keeps hk (fun _ _ _ => id))
          replace HB := Lib.hid (HB.out.keeps hk id)
          clear hf hY
          replace K := Lib.hid (K.out.trans hk (fun _ _ h => h))
          clear hk
          refine ⟨.inr HC.out, ?_⟩
          iterate 1
            refine wpTree_read (v := ?_) rfl (by rfl) ?_ ?_
            rotate_left
            · intro W hW
              try (obtain ⟨g1, g2, g3, g4⟩ : _ ∧ _ ∧ _ ∧ _ := hW)
              go_simp
              try rfl
            simp only [Act.put, List.setIfInBounds_toArray, List.set_cons_zero, List.set_cons_succ]
          refine wpTree_act rfl ?_
          have q0 := HB.out.cell 0
          have q1 := HB.out.cell 1
          have f0 := HB.out.frozen 0
          have f1 := HB.out.frozen 1
          go_wp2
          clear q0 q1 f0 f1
          refine tree_at' (fun v24 hw => ?_)
          have hk : Keeps (fun x => x = N) v23 v24 := by rw [hw]; exact (Keeps.setCell _ (M := fun x => x = N) rfl _).setCell' (fun _ => rfl) _
          replace HB : Hid (Blk v24 N 66 #[.pointer (some ⟨mx, 0, none⟩), .pointer (some ⟨my, 0, none⟩)]) := by rw [hw]; exact (HB.out.set_ 0 _).set_ 1 _
          replace HX := Lib.hid (HX.out.keeps hk (fun _ _ h => h))
          replace K := Lib.hid (K.out.trans hk (fun x hx e => by have h := HN.out; have e' : x = N := e; omega))
          clear hk hw
          refine ⟨.inl (by rfl), ?_⟩
          refine wpTree_nil ?_
          exact ⟨(mx, my, N), by simp only [putsA, Act.put, List.setIfInBounds_toArray, List.set_cons_zero, List.set_cons_succ], HX.out, HB.out, HN.out, K.out⟩
      · rintro ⟨mx, my, N⟩ w3 ⟨hxy, hbn, hnw, hk3⟩
        simp only at hxy hbn hnw
        obtain ⟨Sx, Sy, hob, hfr⟩ := hxy
        replace HS := Lib.hid (HS.out.add2 (i := 3) (o1 := blkOb N 66 #[.pointer (some ⟨mx, 0, none⟩), .pointer (some ⟨my, 0, none⟩)]) (o2 := duOb p q ⟨mx, my, Sx, Sy, Mc.new o.key lev, Mc.new o.key lev⟩) rfl hk3 hbn (fun x e => by rw [show x = N from e]; exact ⟨hnw, hbn.lt⟩) (fun x h => h.elim) hob (fun x hx => (hfr x hx).1) (fun x hx => by rcases hx with h | h; exact .inl h; exact .inr (.inl h)) (fun x h => h.elim) (fun x hx e => (hfr x (by rcases hx with h | h; exact .inl h; exact .inr (.inl h))).2 e))
        have t1 := run_str (HKB.out.keeps hk3 (fun _ _ _ => id))
        have t2 := run_str (HKEY.out.keeps hk3 (fun _ _ _ => id))
        have n0 : w3.cell? ⟨N, 0, none⟩ = some (.pointer (some ⟨mx, 0, none⟩)) := hbn.cell 0
        have n3 : w3.cell? ⟨P8, 3, none⟩ = some (.slice KA o.key.length kc) := hk3.cell b3 id
        have HD : Hid (Even (12 * k) (ds ++ [⟨mx, my, Sx, Sy, Mc.new o.key lev, Mc.new o.key lev⟩])) := HEV.out.snoc rfl (Mc.le.new _ _ _)
        clear s0 s1 b0 b1 b2 b3 lt8 hob hfr hbn hnw hk3 HKB HKEY HEV
        generalize hdn : (⟨mx, my, Sx, Sy, Mc.new o.key lev, Mc.new o.key lev⟩ : Du) = dn at *
        have hdx : dn.x = mx := by rw [← hdn]
        have hdy : dn.y = my := by rw [← hdn]
        clear hdn
        simp only [putsA, Act.put, List.setIfInBounds_toArray, List.set_cons_zero, List.set_cons_succ]
        go_wp2
        clear t1 t2 n0 n3
        have hkl : o.key.length ≤ 9223372036854775807 := by have := HSM.out; unfold Sm at this; omega
        go_loopw [11] (fun i wz => ∃ j : Nat, j ≤ o.key.length ∧ i = .int .i64 j ∧ ∃ (kl : List UInt8) (o4 : Ob), kl.length = o.key.length ∧ Su w wz b p q AR AR (rowOb 66 2 (.slice lA ds.length lc) ds.length (prs ds) :: byOb (.slice B1 kl.length d1) kl :: o4 :: blkOb N 66 #[.pointer (some ⟨mx, 0, none⟩), .pointer (some ⟨my, 0, none⟩)] :: (ds ++ [dn]).map (duOb p q))) (fun i _ => o.key.length - (intOf i).toNat)
        case atStart =>
          refine ⟨0, Nat.zero_le _, rfl, o.key, blkOb P8 41 #[.int .i64 o.kd, .int .i64 o.a, .int .i64 o.b, .slice KA o.key.length kc, .int .i64 o.raw.kd, .int .i64 o.raw.a, .int .i64 o.raw.b, .int .u64 o.raw.w, .bool o.raw.ch, .int .i64 o.raw.nd.lvl, .slice X1 o.raw.nd.high.length k1, .int .i64 o.raw.nd.right, .slice X3 o.raw.nd.keys.length k3, .slice X4 o.raw.nd.vals.length k4, .slice X5 o.raw.nd.kids.length k5], rfl, ?_⟩
          have h := HS.out
          simp only [List.set_cons_zero, List.set_cons_succ, List.cons_append] at h
          rw [List.map_append]
          exact h
        clear HS
        obtain ⟨j, hj, rfl, kl, o4, hkl2, hsz⟩ := hrel
        rcases Nat.lt_or_ge j o.key.length with hjl | hjl
        · have how : Own wr _ 5 1 (.slice B1 kl.length d1) kl.length (kl.map bV) := hsz.get (i := 1) rfl
          obtain ⟨hd1, _, hf⟩ := how.at_
          rcases hf with ⟨_, hd0⟩ | ⟨g, o', cur, rfl, hg, hb, hcz, hx⟩
          · exact absurd hd1 (by omega)
          obtain ⟨y, hy⟩ : ∃ y, kl[j]? = some y := ⟨_, List.getElem?_eq_getElem (by omega)⟩
          have r0 : wr.cell? ⟨g, o' + j, none⟩ = some (bV y) := by rw [hb.cell]; exact hx j _ (by rw [List.getElem?_map, hy]; rfl)
          have f0 := hb.frozen (o' + j)
          have HSZ := Lib.hid hsz
          have HJK : Hid (j < kl.length) := by show j < kl.length; omega
          have HKL := Lib.hid hkl2
          clear how hd1 hg hb hcz hx hy hsz hkl2
          unfold bV at r0
          go_wp2
          clear r0 f0
          go_roundw
          case rel => exact ⟨j + 1, by omega, by go_num, kl.set j (y + 1), o4, by rw [List.length_set]; exact HKL.out, by rw [bV_inc]; exact HSZ.out.byte (i := 1) rfl HJK.out _⟩
          case measure => simp [intOf]; omega
        obtain rfl : j = o.key.length := by omega
        have n0 : wr.cell? ⟨N, 0, none⟩ = some (.pointer (some ⟨mx, 0, none⟩)) := (hsz.get (i := 3) rfl : Blk wr N _ _).cell 0
        have n1 : wr.cell? ⟨N, 1, none⟩ = some (.pointer (some ⟨my, 0, none⟩)) := (hsz.get (i := 3) rfl : Blk wr N _ _).cell 1
        have HSZ := Lib.hid hsz
        clear hsz hj hjl hkl2
        obtain ⟨i1, hi, hy0, hy1, hy2⟩ := info_parts Try.inf_pair
        go_wp2_with (at_builtin; refine wpList_app rfl (.tmp 136) (.tmp 138) 62 rfl Try.underlying62 hi hy0 hy1 hy2 rfl (by decide) (v := .slice lA ds.length lc) (n := ds.length) (m := 1) (S := fun x => (Value.slice lA ds.length lc).ownBlock = some x) (T := fun _ => True) (xs := prs ds) (news := [.pointer (some ⟨mx, 0, none⟩), .pointer (some ⟨my, 0, none⟩)]) rfl ?d1 (y := .slice (some ⟨wr.heap.size, 0, none⟩) 1 1) rfl ?d2 ?d3 ?d4 ?d5 ?d6)
        case d1 => exact (HSZ.out.nob (Keeps.alloc Nob _ _)).get (i := 0) rfl
        case d2 => exact (SlG.lit _ _ [.pointer (some ⟨mx, 0, none⟩), .pointer (some ⟨my, 0, none⟩)] 2 1 _ rfl rfl (by decide)).mono (fun _ _ _ => trivial)
        case d3 => intro u hu; simp only [List.mem_cons, List.not_mem_nil, or_false] at hu; rcases hu with h | h <;> subst h <;> rfl
        case d4 => unfold maxLen; omega
        case d5 => omega
        case d6 =>
        intro v' w6 ho hk6 _
        obtain ⟨Av, cv, ev⟩ := ho.form
        subst ev
        have HS6 := Lib.hid ((HSZ.out.nob (Keeps.alloc Nob _ _)).app (i := 0) rfl hk6 (ho.mono (fun b _ hb => hb.imp id (fun h => ⟨by simpa using h.1, h.2⟩))))
        clear ho hk6 HSZ n0 n1
        go_wp2
        go_roundw
        case rel =>
          have h := HS6.out
          simp only [List.set_cons_zero] at h
          exact ⟨k + 1, by omega, by go_num, rfl, AR, ds ++ [dn], byOb (.slice B1 kl.length d1) kl, o4, blkOb N 66 #[.pointer (some ⟨mx, 0, none⟩), .pointer (some ⟨my, 0, none⟩)], by simp; omega, HD.out.mono (by omega), by rw [List.length_append, List.length_singleton, prs_snoc, hdx, hdy]; exact h⟩
        case measure => simp [intOf]; omega
    by_cases e3 : kind = 3
    · subst e3
      obtain ⟨G, hJ, hG, hback⟩ := HS.out.arena
      have RW := rawJ hJ HRAW.out (fun x hx hg => absurd hx (Nat.not_lt.2 (hG x hg)))
      have hb8 : Blk w1 P8 41 #[.int .i64 o.kd, .int .i64 o.a, .int .i64 o.b, .slice KA o.key.length kc, .int .i64 o.raw.kd, .int .i64 o.raw.a, .int .i64 o.raw.b, .int .u64 o.raw.w, .bool o.raw.ch, .int .i64 o.raw.nd.lvl, .slice X1 o.raw.nd.high.length k1, .int .i64 o.raw.nd.right, .slice X3 o.raw.nd.keys.length k3, .slice X4 o.raw.nd.vals.length k4, .slice X5 o.raw.nd.kids.length k5] := HS.out.get (i := 2) rfl
      have r4 := hb8.cell 4
      have r5 := hb8.cell 5
      have r6 := hb8.cell 6
      have r7 := hb8.cell 7
      have r8 := hb8.cell 8
      have r9 := hb8.cell 9
      have r10 := hb8.cell 10
      have r11 := hb8.cell 11
      have r12 := hb8.cell 12
      have r13 := hb8.cell 13
      have r14 := hb8.cell 14
      unfold pV at RW
      clear hJ hG hb8 b0 b1 b2 b3
      have HBK := Lib.hid hback
      clear hback HS PK PA PB PI
      go_wp2_with fail
      refine RW.mono ?_
      rintro e w4 ⟨rfl, hj4, hk4⟩
      have HS4 := Lib.hid (HBK.out _ _ _ hj4 hk4)
      clear hj4 hk4 RW HBK r4 r5 r6 r7 r8 r9 r10 r11 r12 r13 r14
      go_wp2
      go_roundw
      case rel => exact ⟨k + 1, by omega, by go_num, rfl, _, ds, _, _, _, by omega, HEV.out.mono (by omega), HS4.out⟩
      case measure => simp [intOf]; omega
    have hne0 : (kind == 0) = false := by simpa using e0
    have hne3 : (kind == 3) = false := by simpa using e3
    clear HRAW PK PA
    rcases Nat.eq_zero_or_pos ds.length with hz | hpos
    · obtain rfl : ds = [] := List.length_eq_zero_iff.1 hz
      have HSE := Lib.hid HS.out
      clear HS b0 b1 b2 b3 hz
      go_wp2
      go_roundw
      case rel => exact ⟨k + 1, by omega, by go_num, rfl, AR, [], o1, blkOb P8 41 #[.int .i64 o.kd, .int .i64 o.a, .int .i64 o.b, .slice KA o.key.length kc, .int .i64 o.raw.kd, .int .i64 o.raw.a, .int .i64 o.raw.b, .int .u64 o.raw.w, .bool o.raw.ch, .int .i64 o.raw.nd.lvl, .slice X1 o.raw.nd.high.length k1, .int .i64 o.raw.nd.right, .slice X3 o.raw.nd.keys.length k3, .slice X4 o.raw.nd.vals.length k4, .slice X5 o.raw.nd.kids.length k5], o3, by omega, HEV.out.mono (by omega), HSE.out⟩
      case measure => simp [intOf]; omega
    obtain ⟨hx1, hx2⟩ := pk_range o.a (ds.length : Int) (by omega)
    replace PI := fun wx => PI wx (by omega)
    obtain ⟨n, hn⟩ : ∃ n : Nat, pk o.a (ds.length : Int) = (n : Int) := ⟨(pk o.a (ds.length : Int)).toNat, by omega⟩
    rw [hn] at PI hx1 hx2
    have hnl : n < ds.length := by omega
    clear hn hx1 hx2
    obtain ⟨d, hd⟩ : ∃ d, ds[n]? = some d := ⟨_, List.getElem?_eq_getElem hnl⟩
    obtain ⟨p0, p1⟩ := prs_at ds n d hd
    have how : Own w1 _ 66 2 _ _ _ := HS.out.get (i := 0) rfl
    obtain ⟨hd1, hd1', hf⟩ := how.at_
    rcases hf with ⟨_, hd0⟩ | ⟨g, o', cur, rfl, hg, hb, hcz, hx⟩
    · exact absurd hd1 (by omega)
    have r0 : w1.cell? ⟨g, o' + n * 2, none⟩ = some (.pointer (some ⟨d.x, 0, none⟩)) := by rw [hb.cell]; exact hx _ _ p0
    have r1 : w1.cell? ⟨g, o' + n * 2 + 1, none⟩ = some (.pointer (some ⟨d.y, 0, none⟩)) := by rw [hb.cell]; exact hx _ _ p1
    have hll : ds.length ≤ 9223372036854775807 := by omega
    have hpos' : ¬ (ds.length : Int) = 0 := by omega
    have hne : ((ds.length : Int) == 0) = false := by simpa using hpos'
    have EV := HEV.out d (List.mem_of_getElem? hd)
    have HDS := Lib.hid hd
    have HP : Hid (prs ds = prs ds) := rfl
    clear how hd1 hd1' hg hb hcz hx p0 p1 hd
    go_wp2_with fail
    refine (PI w1).mono ?_
    rintro e w' ⟨rfl, rfl⟩
    go_wp2_with fail
    clear r0 r1
    refine code_at (fun w2 hw => ?_)
    have hk2 : Keeps Nob w1 w2 := by rw [hw]; exact Keeps.alloc _ _ _
    obtain ⟨N, hN⟩ : ∃ N, w1.heap.size = N := ⟨_, rfl⟩
    have hb2 : Blk w2 N 66 #[.pointer (some ⟨d.x, 0, none⟩), .pointer (some ⟨d.y, 0, none⟩)] := by rw [hw, ← hN]; exact Blk.new _ _ _
    have h8 : Blk w1 P8 41 #[.int .i64 o.kd, .int .i64 o.a, .int .i64 o.b, .slice KA o.key.length kc, .int .i64 o.raw.kd, .int .i64 o.raw.a, .int .i64 o.raw.b, .int .u64 o.raw.w, .bool o.raw.ch, .int .i64 o.raw.nd.lvl, .slice X1 o.raw.nd.high.length k1, .int .i64 o.raw.nd.right, .slice X3 o.raw.nd.keys.length k3, .slice X4 o.raw.nd.vals.length k4, .slice X5 o.raw.nd.kids.length k5] := HS.out.get (i := 2) rfl
    clear hw
    replace HS := Lib.hid (HS.out.blkPut (i := 3) rfl hk2 hb2 (by rw [hN]; exact Nat.le_refl _))
    rw [hN]
    clear hk2 hb2 h8 hN b0 b1 b2 b3 lt8
    have HEVd := Lib.hid (HEV.out d (List.mem_of_getElem? HDS.out))
    go_wp2
    go_loopw [5, 13] (fun okv i wz => ∃ j : Nat, j ≤ 12 ∧ i = .int .i64 j ∧ okv = .bool true ∧ ∃ d' : Du, d'.x = d.x ∧ d'.y = d.y ∧ d'.A = d'.B ∧ d'.A.le (12 * k + j) ∧ Su w wz b p q AR AR (rowOb 66 2 (.slice (some ⟨g, o', none⟩) ds.length lc) ds.length (prs ds) :: o1 :: blkOb P8 41 #[.int .i64 o.kd, .int .i64 o.a, .int .i64 o.b, .slice KA o.key.length kc, .int .i64 o.raw.kd, .int .i64 o.raw.a, .int .i64 o.raw.b, .int .u64 o.raw.w, .bool o.raw.ch, .int .i64 o.raw.nd.lvl, .slice X1 o.raw.nd.high.length k1, .int .i64 o.raw.nd.right, .slice X3 o.raw.nd.keys.length k3, .slice X4 o.raw.nd.vals.length k4, .slice X5 o.raw.nd.kids.length k5] :: blkOb N 66 #[.pointer (some ⟨d.x, 0, none⟩), .pointer (some ⟨d.y, 0, none⟩)] :: (ds.set n d').map (duOb p q))) (fun _ i _ => 12 - (intOf i).toNat)
    case atStart =>
      refine ⟨0, Nat.zero_le _, rfl, rfl, d, rfl, rfl, HEVd.out.1, HEVd.out.2, ?_⟩
      have h := HS.out
      rw [set_self HDS.out]
      exact h
    clear HS
    obtain ⟨j, hj, rfl, rfl, d', hx', hy', hAB, hle, hs⟩ := hrel
    have HS := Lib.hid hs
    have b0 : wr.cell? ⟨P8, 0, none⟩ = some (.int .i64 o.kd) := (hs.get (i := 2) rfl : Blk wr P8 _ _).cell 0
    have b2 : wr.cell? ⟨P8, 2, none⟩ = some (.int .i64 o.b) := (hs.get (i := 2) rfl : Blk wr P8 _ _).cell 2
    have n0 : wr.cell? ⟨N, 0, none⟩ = some (.pointer (some ⟨d.x, 0, none⟩)) := (hs.get (i := 3) rfl : Blk wr N _ _).cell 0
    have n1 : wr.cell? ⟨N, 1, none⟩ = some (.pointer (some ⟨d.y, 0, none⟩)) := (hs.get (i := 3) rfl : Blk wr N _ _).cell 1
    have HLE := Lib.hid hle
    clear hs hle
    by_cases hgo : (j : Int) ≤ most ∧ ¬ o.kd.tmod 2 = 0
    · obtain ⟨hjm, hod⟩ := hgo
      have HNL : Hid (n < ds.length) := hnl
      have FX := HS.out.duX HNL.out (HLE.out.low (by omega))
      rw [hx'] at FX
      unfold pV at FX
      clear HS
      go_wp2_with (go_at_call 11; refine (PB _).mono ?_; rintro e wk ⟨rfl, rfl⟩)
      clear b0 b2 n0 n1
      refine FX.mono ?_
      rintro e w3 ⟨rfl, S, hs⟩
      have n1 : w3.cell? ⟨N, 1, none⟩ = some (.pointer (some ⟨d.y, 0, none⟩)) := (hs.get (i := 3) rfl : Blk w3 N _ _).cell 1
      have FR := hs.duR HNL.out (by rw [← hAB]; exact HLE.out.low (by omega))
      rw [← hAB] at FR
      simp only at FR
      rw [hy'] at FR
      unfold pV at FR
      clear hs FX
      generalize decide ((stepM AR d'.A).nx = .done) = z at *
      go_wp2_with fail
      clear n1
      refine FR.mono ?_
      rintro e w4 ⟨rfl, S', hs⟩
      have HS4 := Lib.hid hs
      clear hs FR
      go_wp2
      go_roundw
      case rel => exact ⟨j + 1, by omega, by go_num, by simp, ⟨d.x, d.y, S, S', stepM AR d'.A, stepM AR d'.A⟩, rfl, rfl, rfl, (HLE.out.step AR).mono (by omega), HS4.out⟩
      case measure => simp [intOf]; omega
    · have H2 : Hid (Even (12 * (k + 1)) (ds.set n d')) := (HEV.out.mono (by omega)).set (Nat.le_refl _) hAB (HLE.out.mono (by omega))
      have HD := Lib.hid (HS.out.get (i := n + 4) (du_at hnl))
      have HT := Lib.hid (told_ (p := p) (q := q) HD.out.1 (by rw [hAB]; exact HD.out.2.1))
      have HPR : Hid (prs ds = prs (ds.set n d')) := (prs_set ds n d d' HDS.out hx' hy').symm
      have HT2 := HT.out
      rw [hx', hy'] at HT2
      unfold pV at HT2
      rcases Int.lt_or_le most j with hjm | hjm
      · go_wp2_with (go_at_call 11; refine (PB _).mono ?_; rintro e wk ⟨rfl, rfl⟩)
        clear b0 b2
        refine HT2.mono ?_
        rintro e w5 ⟨rfl, hk5⟩
        have HS5 := Lib.hid (HS.out.nob hk5)
        clear n0 n1 hk5 HT2 HT HD HS
        go_wp2
        go_roundw
        case rel =>
          have h := HS5.out
          rw [HPR.out, show ds.length = (ds.set n d').length by simp] at h
          exact ⟨k + 1, by omega, by go_num, rfl, AR, ds.set n d', _, _, _, by simp; omega, H2.out, by simpa using h⟩
        case measure => simp [intOf]; omega
      · have hod : o.kd.tmod 2 = 0 := by
          by_cases h : o.kd.tmod 2 = 0
          · exact h
          · exact absurd ⟨hjm, h⟩ hgo
        go_wp2_with (go_at_call 11; refine (PB _).mono ?_; rintro e wk ⟨rfl, rfl⟩)
        clear b0 b2
        refine HT2.mono ?_
        rintro e w5 ⟨rfl, hk5⟩
        have HS5 := Lib.hid (HS.out.nob hk5)
        clear n0 n1 hk5 HT2 HT HD HS
        go_wp2
        go_roundw
        case rel =>
          have h := HS5.out
          rw [HPR.out, show ds.length = (ds.set n d').length by simp] at h
          exact ⟨k + 1, by omega, by go_num, rfl, AR, ds.set n d', _, _, _, by simp; omega, H2.out, by simpa using h⟩
        case measure => simp [intOf]; omega
  obtain rfl : k = os.length := by omega
  have K := Lib.hid hs.kept
  obtain ⟨G, hJ, _, _⟩ := hs.arena
  have HN := Lib.hid (sameJ hJ)
  unfold pV at HN
  clear hs hJ hev hdl
  go_wp2_with fail
  refine HN.out.mono ?_
  rintro e wl ⟨rfl, _, hk2⟩
  have HK3 := Lib.hid (K.out.trans hk2 (fun _ _ h => h))
  clear hk2 HN
  go_wp2
  go_ret
  exact ⟨rfl, HK3.out⟩
end
end Go.Proofs.Ytbhohohgojcapaa

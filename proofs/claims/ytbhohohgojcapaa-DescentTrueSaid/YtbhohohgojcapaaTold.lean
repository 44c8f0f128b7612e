/- Law 12's told: both machines tell the same. -/
import Derived.Test.YtbhohohgojcapaaDesN
import Derived.Test.YtbhohohgojcapaaTexts
namespace Go.Proofs.Ytbhohohgojcapaa
open Go.RowKit

/-- What a round of told's loop keeps: the keys' form, the node's block, the pair's, old memory. -/
structure TolK (S : Nat → Prop) (w0 : World) (v : Value) (n N P : Nat) (cs ps : Array Value) (w : World) : Prop where
  sh : ShT w S v n
  nd : Blk w N 37 cs
  pr : Blk w P 66 ps
  kept : Keeps (From w0.heap.size) w0 w
section
variable {S : Nat → Prop} {w0 w : World} {v : Value} {n N P g i : Nat} {cs ps cs' : Array Value}
theorem TolK.byte (h : TolK S w0 v n N P cs ps w) (hS : ∀ x, S x → w0.heap.size ≤ x) (hs : S g) (hb : Blk w g 5 cs') (b : UInt8) : TolK S w0 v n N P cs ps (w.setCell ⟨g, i, none⟩ (bV b)) :=
  ⟨h.sh.byte hb b, h.nd.far (Blk.ne_ h.nd hb (by decide)) _, h.pr.far (Blk.ne_ h.pr hb (by decide)) _, h.kept.setCell' (fun _ => hS _ hs) _⟩
end

section
variable {w : World} {S T : Nat → Prop} {p q mx my : Nat} {M : Mc}
theorem MW.cnt {nv : Nx → Value} {t : TypeId} {m : Nat} (h : MW w t m p nv S M) : w.cell? ⟨m, 13, none⟩ = some (.int .i64 M.again) ∧ w.cell? ⟨m, 14, none⟩ = some (.int .i64 M.right) := by
  obtain ⟨kv, c0, c1, c2, c3, c4, c5, hb, hk, hn⟩ := h.cells
  exact ⟨hb.cell 13, hb.cell 14⟩

set_option maxRecDepth 100000 in
set_option maxHeartbeats 2000000 in
theorem told_ (hx : MX w mx p S M) (hy : MR w my q T M) : Calls Try.prog 23 #[.agg #[pV mx, pV my]] w fun e w' => e = .returned (.bool true) ∧ Keeps Nob w w' := by
  have HX := Lib.hid hx
  have HY := Lib.hid hy
  have HX0 := Lib.hid hx
  have HY0 := Lib.hid hy
  clear hx hy
  unfold pV
  go_enter Try.func23, Try.ntmps23
  go_wp2_with fail
  refine calls_at (fun w1 hw => ?_)
  have hk : Keeps Nob w w1 := by rw [hw]; exact Keeps.alloc _ _ _
  have BP : Hid (Blk w1 w.heap.size 66 #[.pointer (some ⟨mx, 0, none⟩), .pointer (some ⟨my, 0, none⟩)]) := by rw [hw]; exact Blk.new _ _ _
  clear hw
  replace HX := Lib.hid (HX.out.keeps hk id (fun _ _ _ => id))
  replace HY := Lib.hid (HY.out.keeps hk id (fun _ _ _ => id))
  have K := Lib.hid hk
  clear hk
  refine (atX HX.out).mono ?_
  rintro e w2 ⟨d0, d1, d2, d3, d4, d5, rfl, hO, hk⟩
  obtain ⟨D1, dj1, f1⟩ := Own.form hO.1.high
  obtain ⟨D3, dj3, f3⟩ := OTx.form hO.2.keys
  obtain ⟨D4, dj4, f4⟩ := OTx.form hO.2.vals
  obtain ⟨D5, dj5, f5⟩ := Own.form hO.2.kids
  have f0 := hO.1.lvl
  have f2 := hO.1.right
  unfold iV at f0 f2
  subst f0 f1 f2 f3 f4 f5
  have s1 := K.out.size
  have HN : Hid (ONd w2 (Fresh w w2) (.int .i64 M.outNd.lvl) (.slice D1 M.outNd.high.length dj1) (.int .i64 M.outNd.right) (.slice D3 M.outNd.keys.length dj3) (.slice D4 M.outNd.vals.length dj4) (.slice D5 M.outNd.kids.length dj5) M.outNd) := hO.mono (fun x _ hx => ⟨Nat.le_trans s1 hx.1, hx.2⟩)
  clear hO s1
  replace BP := Lib.hid (BP.out.keeps hk id)
  replace HX := Lib.hid (HX.out.keeps hk id (fun _ _ _ => id))
  replace HY := Lib.hid (HY.out.keeps hk id (fun _ _ _ => id))
  replace K := Lib.hid (K.out.trans hk (fun _ _ h => h))
  clear hk
  have q := fun i => BP.out.cell i
  have lq := BP.out.lt
  go_wp2_with fail
  clear q lq
  refine calls_at (fun w3 hw => ?_)
  have hk : Keeps Nob w2 w3 := by rw [hw]; exact Keeps.alloc _ _ _
  have BN : Hid (Blk w3 w2.heap.size 37 #[.int .i64 M.outNd.lvl, .slice D1 M.outNd.high.length dj1, .int .i64 M.outNd.right, .slice D3 M.outNd.keys.length dj3, .slice D4 M.outNd.vals.length dj4, .slice D5 M.outNd.kids.length dj5]) := by rw [hw]; exact Blk.new _ _ _
  clear hw
  have hs3 := hk.size
  replace HN := Lib.hid ((HN.out.keeps hk (fun _ _ _ => id)).mono (T := Fresh w w3) (fun x _ hx => ⟨hx.1, Nat.lt_of_lt_of_le hx.2 hs3⟩))
  clear hs3
  replace BP := Lib.hid (BP.out.keeps hk id)
  replace HX := Lib.hid (HX.out.keeps hk id (fun _ _ _ => id))
  replace HY := Lib.hid (HY.out.keeps hk id (fun _ _ _ => id))
  replace K := Lib.hid (K.out.trans hk (fun _ _ h => h))
  clear hk
  refine (atR HY.out).mono ?_
  rintro e w4 ⟨d0, d1, d2, d3, d4, d5, rfl, hO, hk⟩
  obtain ⟨E1, ej1, f1⟩ := Own.form hO.1.high
  obtain ⟨E3, ej3, f3⟩ := OTx.form hO.2.keys
  obtain ⟨E4, ej4, f4⟩ := OTx.form hO.2.vals
  obtain ⟨E5, ej5, f5⟩ := Own.form hO.2.kids
  have f0 := hO.1.lvl
  have f2 := hO.1.right
  unfold iV at f0 f2
  subst f0 f1 f2 f3 f4 f5
  have s1 := K.out.size
  have HN2 : Hid (ONd w4 (Fresh w w4) (.int .i64 M.outNd.lvl) (.slice E1 M.outNd.high.length ej1) (.int .i64 M.outNd.right) (.slice E3 M.outNd.keys.length ej3) (.slice E4 M.outNd.vals.length ej4) (.slice E5 M.outNd.kids.length ej5) M.outNd) := hO.mono (fun x _ hx => ⟨Nat.le_trans s1 hx.1, hx.2⟩)
  clear hO s1
  have hs3 := hk.size
  replace HN := Lib.hid ((HN.out.keeps hk (fun _ _ _ => id)).mono (T := Fresh w w4) (fun x _ hx => ⟨hx.1, Nat.lt_of_lt_of_le hx.2 hs3⟩))
  clear hs3
  replace BP := Lib.hid (BP.out.keeps hk id)
  replace BN := Lib.hid (BN.out.keeps hk id)
  replace HX := Lib.hid (HX.out.keeps hk id (fun _ _ _ => id))
  replace HY := Lib.hid (HY.out.keeps hk id (fun _ _ _ => id))
  replace K := Lib.hid (K.out.trans hk (fun _ _ h => h))
  clear hk
  have q := fun i => BN.out.cell i
  have lq := BN.out.lt
  go_wp2_with fail
  clear q lq
  refine calls_at (fun w5 hw => ?_)
  have hk : Keeps Nob w4 w5 := by rw [hw]; exact Keeps.alloc _ _ _
  clear hw
  replace HN2 := Lib.hid (HN2.out.keeps hk (fun _ _ _ => id))
  replace HN := Lib.hid (HN.out.keeps hk (fun _ _ _ => id))
  replace BP := Lib.hid (BP.out.keeps hk id)
  replace BN := Lib.hid (BN.out.keeps hk id)
  replace HX := Lib.hid (HX.out.keeps hk id (fun _ _ _ => id))
  replace HY := Lib.hid (HY.out.keeps hk id (fun _ _ _ => id))
  replace K := Lib.hid (K.out.trans hk (fun _ _ h => h))
  clear hk
  refine (sameN HN.out.r HN2.out.r).mono ?_
  rintro e w6 ⟨rfl, hk⟩
  rw [sameNd_self]
  replace HN := Lib.hid (HN.out.keeps hk (fun _ _ _ => id))
  replace BP := Lib.hid (BP.out.keeps hk id)
  replace BN := Lib.hid (BN.out.keeps hk id)
  replace HX := Lib.hid (HX.out.keeps hk id (fun _ _ _ => id))
  replace HY := Lib.hid (HY.out.keeps hk id (fun _ _ _ => id))
  replace K := Lib.hid (K.out.trans hk (fun _ _ h => h))
  clear hk
  clear HN2
  have z3 : M.outNd.keys.length ≤ 9223372036854775807 := by obtain ⟨_, _, _, _, m3⟩ := HN.out.2.keys.r.form; unfold maxLen at m3; omega
  have HS : Hid (∀ x, Fresh w w4 x → w.heap.size ≤ x) := fun x h => h.1
  have HP0 : Hid (TolK (Fresh w w4) w (.slice D3 M.outNd.keys.length dj3) M.outNd.keys.length w2.heap.size w.heap.size #[.int .i64 M.outNd.lvl, .slice D1 M.outNd.high.length dj1, .int .i64 M.outNd.right, .slice D3 M.outNd.keys.length dj3, .slice D4 M.outNd.vals.length dj4, .slice D5 M.outNd.kids.length dj5] #[.pointer (some ⟨mx, 0, none⟩), .pointer (some ⟨my, 0, none⟩)] w6) := ⟨HN.out.2.keys.sh, BN.out, BP.out, K.out.mono (fun _ _ h => h.elim)⟩
  clear HN
  clear HX HY
  go_wp2
  go_loopw [10] (fun i wr => ∃ k : Nat, k ≤ M.outNd.keys.length ∧ i = .int .i64 k ∧ TolK (Fresh w w4) w (.slice D3 M.outNd.keys.length dj3) M.outNd.keys.length w2.heap.size w.heap.size #[.int .i64 M.outNd.lvl, .slice D1 M.outNd.high.length dj1, .int .i64 M.outNd.right, .slice D3 M.outNd.keys.length dj3, .slice D4 M.outNd.vals.length dj4, .slice D5 M.outNd.kids.length dj5] #[.pointer (some ⟨mx, 0, none⟩), .pointer (some ⟨my, 0, none⟩)] wr) (fun i _ => M.outNd.keys.length - (intOf i).toNat)
  case atStart => exact ⟨0, Nat.zero_le _, rfl, HP0.out⟩
  obtain ⟨k, hk, rfl, hP⟩ := hrel
  have q := fun i => hP.nd.cell i
  rcases Nat.lt_or_ge k M.outNd.keys.length with hlt | hlt
  · obtain ⟨g, o, cs, A', m, c', rfl, hs, hb, hc, hsb, hm⟩ := hP.sh.get hlt
    have hm2 : m ≤ 9223372036854775807 := by unfold maxLen at hm; omega
    have HP := Lib.hid hP
    have HB := Lib.hid hb
    have HSg : Hid (Fresh w w4 g) := hs
    have HSB := Lib.hid hsb
    have CS : Hid (cs[o + k]? = some (.slice A' m c')) := by rw [← hb.cell]; exact hc
    clear hP hb hs hsb hm
    go_wp2
    clear q hc
    go_loopw [11] (fun i wz => ∃ j : Nat, j ≤ m ∧ i = .int .i64 j ∧ (TolK (Fresh w w4) w (.slice (some ⟨g, o, none⟩) M.outNd.keys.length dj3) M.outNd.keys.length w2.heap.size w.heap.size #[.int .i64 M.outNd.lvl, .slice D1 M.outNd.high.length dj1, .int .i64 M.outNd.right, .slice (some ⟨g, o, none⟩) M.outNd.keys.length dj3, .slice D4 M.outNd.vals.length dj4, .slice D5 M.outNd.kids.length dj5] #[.pointer (some ⟨mx, 0, none⟩), .pointer (some ⟨my, 0, none⟩)] wz ∧ Blk wz g 30 cs ∧ ShB wz (Fresh w w4) (.slice A' m c') m)) (fun i _ => m - (intOf i).toNat)
    case atStart => exact ⟨0, Nat.zero_le _, rfl, HP.out, HB.out, HSB.out⟩
    obtain ⟨j, hj, rfl, hP2, hb2, hsb2⟩ := hrel
    have q := fun i => hP2.nd.cell i
    have hc : cs[o + k]? = some (.slice A' m c') := CS.out
    have hcc := hb2.cell (o + k)
    rw [hc] at hcc
    clear hc
    rcases Nat.lt_or_ge j m with hjm | hjm
    · obtain ⟨g2, o2, cs2, b, rfl, hs2, hb3, hc3⟩ := hsb2.get hjm
      have hf2 := hb3.frozen (o2 + j)
      unfold bV at hc3
      have HP2 := Lib.hid hP2
      have HB2 := Lib.hid hb2
      have HB3 := Lib.hid hb3
      have HS2 : Hid (Fresh w w4 g2) := hs2
      have HSB2 := Lib.hid hsb2
      clear hP2 hb2 hb3 hs2 hsb2
      go_wp2
      go_roundw
      case rel => exact ⟨j + 1, by omega, by go_num, by rw [bV_inc]; exact ⟨HP2.out.byte HS.out HS2.out HB3.out _, HB2.out.far (Blk.ne_ HB2.out HB3.out (by decide)) _, HSB2.out.byte _⟩⟩
      case measure => simp [intOf]; omega
    · obtain rfl : j = m := by omega
      have HP2 := Lib.hid hP2
      clear hP2 hb2 hsb2
      go_wp2
      go_roundw
      case rel => exact ⟨k + 1, by omega, by go_num, HP2.out⟩
      case measure => simp [intOf]; omega
  obtain rfl : k = M.outNd.keys.length := by omega
  have HP := Lib.hid hP
  clear hP
  go_wp2_with fail
  clear q z3 hk hlt
  have HXr : Hid (MX wr mx p S M) := HX0.out.keeps HP.out.kept (fun h => absurd HX0.out.next.2.2 (Nat.not_lt.2 h)) (fun x hx _ h => absurd hx (Nat.not_lt.2 h))
  have HYr : Hid (MR wr my q T M) := HY0.out.keeps HP.out.kept (fun h => absurd HY0.out.next.2.2 (Nat.not_lt.2 h)) (fun x hx _ h => absurd hx (Nat.not_lt.2 h))
  refine wp_region_canon [0, 1, 2, 3, 4, 5, 6, 7, 8, 9, 10, 11, 12, 13, 15, 16, 17, 18, 19, 14, 20, 21, 22, 23, 24, 26, 27, 28, 29, 30, 25, 31, 32, 33] 99 (fun W => W.cell? ⟨w.heap.size, 0, none⟩ = some (.pointer (some ⟨mx, 0, none⟩)) ∧ W.cell? ⟨w.heap.size, 1, none⟩ = some (.pointer (some ⟨my, 0, none⟩)) ∧ W.cell? ⟨my, 13, none⟩ = some (.int .i64 M.again) ∧ W.cell? ⟨my, 14, none⟩ = some (.int .i64 M.right)) (by kernel_rfl) (by kernel_rfl) rfl (by kernel_rfl) (fun _ _ d _ _ h => by cases d <;> exact h) ?_ ?_
  · exact ⟨HP.out.pr.cell 0, HP.out.pr.cell 1, HYr.out.cnt.1, HYr.out.cnt.2⟩
  refine canon_at (fun wd hw => ?_)
  have hk : Keeps Nob wr wd := by rw [hw]; exact Keeps.drew _ _
  clear hw
  have HXd := Lib.hid (HXr.out.keeps hk id (fun _ _ _ => id))
  have HC : Hid (wd.cell? ⟨w.heap.size, 0, none⟩ = some (.pointer (some ⟨mx, 0, none⟩)) ∧ wd.cell? ⟨w.heap.size, 1, none⟩ = some (.pointer (some ⟨my, 0, none⟩)) ∧ wd.cell? ⟨my, 13, none⟩ = some (.int .i64 M.again) ∧ wd.cell? ⟨my, 14, none⟩ = some (.int .i64 M.right)) := ⟨(HP.out.pr.keeps hk id).cell 0, (HP.out.pr.keeps hk id).cell 1, (HYr.out.keeps hk id (fun _ _ _ => id)).cnt.1, (HYr.out.keeps hk id (fun _ _ _ => id)).cnt.2⟩
  have KF : Hid (Keeps Nob w wd) := (HP.out.kept.trans hk (fun _ _ h => h.elim)).mono (fun x hx h => absurd hx (Nat.not_lt.2 h))
  clear hk
  iterate 19
    refine wpCanon_read (v := ?_) rfl (by kernel_rfl) (by rfl) ?_ ?_
    rotate_left
    · intro W hW
      try (obtain ⟨h1, h2, h3, h4⟩ : _ ∧ _ ∧ _ ∧ _ := hW)
      go_simp
      try rfl
    simp only [Act.put, List.setIfInBounds_toArray, List.set_cons_zero, List.set_cons_succ]
  refine wpCanon_act rfl (by kernel_rfl) ?_
  go_wp2_with (go_at_call 27; refine (againX HXd.out).mono ?_; rintro e wk ⟨rfl, rfl⟩)
  unfold iV
  refine ⟨.inr HC.out, ?_⟩
  iterate 10
    refine wpCanon_read (v := ?_) rfl (by kernel_rfl) (by rfl) ?_ ?_
    rotate_left
    · intro W hW
      try (obtain ⟨h1, h2, h3, h4⟩ : _ ∧ _ ∧ _ ∧ _ := hW)
      go_simp
      try rfl
    simp only [Act.put, List.setIfInBounds_toArray, List.set_cons_zero, List.set_cons_succ]
  refine wpCanon_act rfl (by kernel_rfl) ?_
  go_wp2_with (go_at_call 28; refine (rightX HXd.out).mono ?_; rintro e wk ⟨rfl, rfl⟩)
  unfold iV
  refine ⟨.inr HC.out, ?_⟩
  iterate 3
    refine wpCanon_read (v := ?_) rfl (by kernel_rfl) (by rfl) ?_ ?_
    rotate_left
    · intro W hW
      try (obtain ⟨h1, h2, h3, h4⟩ : _ ∧ _ ∧ _ ∧ _ := hW)
      go_simp
      try rfl
    simp only [Act.put, List.setIfInBounds_toArray, List.set_cons_zero, List.set_cons_succ]
  refine wpCanon_nil ?_
  go_wp2
  go_ret
  exact ⟨rfl, KF.out⟩
end
end Go.Proofs.Ytbhohohgojcapaa

import Derived.Test.YtbhohohgojcapaaPkB8
namespace Go.Proofs.Ytbhohohgojcapaa
open Go.RowKit Go.Maps

def headOk (n : Nd) (nodes : Int) : Bool := decide (0 ≤ n.lvl ∧ n.lvl ≤ 32) && (decide (0 ≤ n.right ∧ n.right ≤ nodes) && ((((n.high.length : Int) == 0) == (n.right == 0)) && decide ((n.high.length : Int) ≤ 64)))
def keysOk (n : Nd) : Bool := rises n.keys && !(n.keys.any (keyBad n.high))
def formOk (n : Nd) (a0 a1 a2 : Int) : Bool := if n.lvl = 0 then leafOk n a1 else innerOk n a0 a2
def mayE (n : Nd) (a0 a1 a2 a3 a4 : Int) : Int := if confOk a0 a1 a2 a3 a4 then (if headOk n a0 && (keysOk n && formOk n a0 a1 a2) then 0 else 91) else 1

section
variable {S T : Nat → Prop} {w : World} {c0 c1 c2 c3 c4 c5 : Value} {n : Nd}

set_option maxRecDepth 100000 in
set_option maxHeartbeats 4000000 in
theorem checkP {a0 a1 a2 a3 a4 : Int} (h : IsNd w S c0 c1 c2 c3 c4 c5 n) (hw : ∀ k ∈ n.kids, K64 k) (hz : NdSm 0 n) : Calls Try.prog 122 #[.agg #[c0, c1, c2, c3, c4, c5], .agg #[.int .i64 a0, .int .i64 a1, .int .i64 a2, .int .i64 a3, .int .i64 a4]] w fun e w' => e = .returned (.int .i64 (mayE n a0 a1 a2 a3 a4)) ∧ Keeps Nob w w' := by
  obtain ⟨X1, k1, e1, y1, z1⟩ := h.1.high.form
  obtain ⟨X3, k3, e3, y3, z3⟩ := h.2.keys.form
  obtain ⟨X4, k4, e4, y4, z4⟩ := h.2.vals.form
  obtain ⟨X5, k5, e5, y5, z5⟩ := h.2.kids.form
  have e0 := h.1.lvl
  have e2 := h.1.right
  unfold iV at e0 e2
  subst e0 e1 e2 e3 e4 e5
  have HN0 := Lib.hid h
  have HL := fun wx (k : Keeps Nob w wx) => leafP (a0 := a0) (a1 := a1) (a2 := a2) (a3 := a3) (a4 := a4) (HN0.out.keeps k (fun _ _ _ => id))
  have HI := fun wx (k : Keeps Nob w wx) => innerP (a0 := a0) (a1 := a1) (a2 := a2) (a3 := a3) (a4 := a4) (HN0.out.keeps k (fun _ _ _ => id)) hw hz
  have HC := fun wx => confP a0 a1 a2 a3 a4 wx
  clear h y1 y3 y4 y5 z1 z3 z4 z5 hw hz
  unfold mayE headOk keysOk formOk
  unfold confE at HC
  obtain ⟨bc, hbc⟩ : ∃ b, confOk a0 a1 a2 a3 a4 = b := ⟨_, rfl⟩
  obtain ⟨b0, hb0⟩ : ∃ b, decide (0 ≤ n.lvl ∧ n.lvl ≤ 32) = b := ⟨_, rfl⟩
  obtain ⟨b1, hb1⟩ : ∃ b, decide (0 ≤ n.right ∧ n.right ≤ a0) = b := ⟨_, rfl⟩
  obtain ⟨b2, hb2⟩ : ∃ b, (((n.high.length : Int) == 0) == (n.right == 0)) = b := ⟨_, rfl⟩
  obtain ⟨b3, hb3⟩ : ∃ b, decide ((n.high.length : Int) ≤ 64) = b := ⟨_, rfl⟩
  obtain ⟨br, hbr⟩ : ∃ b, rises n.keys = b := ⟨_, rfl⟩
  obtain ⟨bk, hbk⟩ : ∃ b, n.keys.any (keyBad n.high) = b := ⟨_, rfl⟩
  obtain ⟨bl, hbl⟩ : ∃ b, leafOk n a1 = b := ⟨_, rfl⟩
  obtain ⟨bi, hbi⟩ : ∃ b, innerOk n a0 a2 = b := ⟨_, rfl⟩
  rw [hbc] at HC ⊢
  rw [hb0, hb1, hb2, hb3, hbr, hbk, hbl, hbi]
  rw [hbl] at HL
  rw [hbi] at HI
  have H0 := Lib.hid hb0
  have H1 := Lib.hid hb1
  have H2 := Lib.hid hb2
  have H3 := Lib.hid hb3
  have HRI : ∀ wx, Keeps Nob w wx → Calls Try.prog 129 #[.slice X3 n.keys.length k3] wx fun e w' => e = .returned (.bool br) ∧ Keeps Nob wx w' := fun wx k => by
    have := risingP (HN0.out.keeps k (fun _ _ _ => id)).2.keys
    rwa [hbr] at this
  have HCO : ∀ wx N, Keeps Nob w wx → Blk wx N 37 #[.int .i64 n.lvl, .slice X1 n.high.length k1, .int .i64 n.right, .slice X3 n.keys.length k3, .slice X4 n.vals.length k4, .slice X5 n.kids.length k5] → Calls Try.prog 130 #[.slice X3 n.keys.length k3, .func (.func 131) #[] #[.pointer (some ⟨N, 0, none⟩)]] wx fun e w' => e = .returned (.bool bk) ∧ Keeps Nob wx w' := fun wx N k hb => by
    have hn := HN0.out.keeps k (fun _ _ _ => id)
    have := containsC (p := keyBad n.high) (q := some ⟨N, 0, none⟩) hn.2.keys (fun W u x hkW hx => keyF (hb.keeps hkW id) (hn.keeps hkW (fun _ _ _ => id)).1.high hx)
    rwa [hbk] at this
  clear hbc hb0 hb1 hb2 hb3 hbr hbk hbl hbi
  cases bc
  · have HCC := Lib.hid HC
    clear HC HL HI HRI HCO H0 H1 H2 H3
    go_enter Try.func122, Try.ntmps122
    go_wp2_with fail
    refine calls_at (fun wa hw => ?_)
    have hka : Keeps Nob w wa := by rw [hw]; exact (Keeps.alloc _ _ _).alloc' _
    have HK := Lib.hid hka
    clear hw hka
    refine (HCC.out wa).mono ?_
    rintro e w1 ⟨rfl, hk1⟩
    have HK1 := Lib.hid (HK.out.trans hk1 (fun _ _ h => h))
    clear hk1
    go_wp2
    go_ret
    exact ⟨rfl, HK1.out⟩
  · have hmf : ∀ (fn : Fn) (first cap : Array Value) (w : World), (Instr.makeFunc fn first cap).run Try.prog w = .ok (.func fn first cap) w := fun _ _ _ _ => rfl
    have HCC := Lib.hid HC
    clear HC
    go_enter Try.func122, Try.ntmps122
    go_wp2_with fail
    refine calls_at (fun wa hw => ?_)
    obtain ⟨N, hN⟩ : ∃ N, w.heap.size = N := ⟨_, rfl⟩
    have hka : Keeps Nob w wa := by rw [hw]; exact (Keeps.alloc _ _ _).alloc' _
    have BN : Blk wa N 37 #[.int .i64 n.lvl, .slice X1 n.high.length k1, .int .i64 n.right, .slice X3 n.keys.length k3, .slice X4 n.vals.length k4, .slice X5 n.kids.length k5] := by rw [hw, ← hN]; exact (Blk.new w _ _).alloc _
    have BC : Blk wa (N + 1) 69 #[.int .i64 a0, .int .i64 a1, .int .i64 a2, .int .i64 a3, .int .i64 a4] := by rw [hw, ← hN]; exact Blk.new' (by simp) _ _
    rw [hN]
    have HBN := Lib.hid BN
    have HBC := Lib.hid BC
    have HK := Lib.hid hka
    clear hw hN BN BC hka
    refine (HCC.out wa).mono ?_
    rintro e w1 ⟨rfl, hk1⟩
    replace HBN := Lib.hid (HBN.out.keeps hk1 id)
    replace HBC := Lib.hid (HBC.out.keeps hk1 id)
    replace HK := Lib.hid (HK.out.trans hk1 (fun _ _ h => h))
    have q := fun i => HBN.out.cell i
    have q2 := fun i => HBC.out.cell i
    have hb2 := H2.out
    have hb3 := H3.out
    clear hk1 HCC
    go_wp2_with (first
      | (go_at_call 121; refine (betweenP _ _ _ _).mono ?_; rintro e w2 ⟨rfl, rfl⟩; (first | rw [H0.out] | rw [H1.out]))
      | (go_at_call 129; refine (HRI _ HK.out).mono ?_; rintro e w2 ⟨rfl, hk1⟩; replace HBN := Lib.hid (HBN.out.keeps hk1 id); replace HBC := Lib.hid (HBC.out.keeps hk1 id); replace HK := Lib.hid (HK.out.trans hk1 (fun _ _ h => h)); have q := fun i => HBN.out.cell i; have q2 := fun i => HBC.out.cell i; clear hk1)
      | (go_at_call 130; refine (HCO _ N HK.out HBN.out).mono ?_; rintro e w2 ⟨rfl, hk1⟩; replace HBN := Lib.hid (HBN.out.keeps hk1 id); replace HBC := Lib.hid (HBC.out.keeps hk1 id); replace HK := Lib.hid (HK.out.trans hk1 (fun _ _ h => h)); have q := fun i => HBN.out.cell i; have q2 := fun i => HBC.out.cell i; clear hk1)
      | (go_at_call 134; refine (HL _ HK.out).mono ?_; rintro e w2 ⟨rfl, hk1⟩; replace HK := Lib.hid (HK.out.trans hk1 (fun _ _ h => h)); clear hk1)
      | (go_at_call 133; refine (HI _ HK.out).mono ?_; rintro e w2 ⟨rfl, hk1⟩; replace HK := Lib.hid (HK.out.trans hk1 (fun _ _ h => h)); clear hk1))
    all_goals
      go_ret
      first
        | exact ⟨rfl, HK.out⟩
        | (refine ⟨?_, HK.out⟩; simp_all)
end
end Go.Proofs.Ytbhohohgojcapaa

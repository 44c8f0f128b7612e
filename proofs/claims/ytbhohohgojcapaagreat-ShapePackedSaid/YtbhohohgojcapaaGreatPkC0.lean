import Derived.Test.YtbhohohgojcapaaGreatPkB9
import Derived.Test.YtbhohohgojcapaaGreatPkA6
namespace Go.Proofs.YtbhohohgojcapaaGreat
open Go.RowKit Go.Maps

def headOk (n : Nd) (nodes : Int) : Bool := decide (0 ≤ n.lvl ∧ n.lvl ≤ 32) && (decide (0 ≤ n.right ∧ n.right ≤ nodes) && ((((n.high.length : Int) == 0) == (n.right == 0)) && decide ((n.high.length : Int) ≤ 64)))
def keysOk (n : Nd) : Bool := rises n.keys && !(n.keys.any (keyBad n.high))
def formOk (n : Nd) (a0 a1 a2 : Int) : Bool := if n.lvl = 0 then leafOk n a1 else innerOk n a0 a2
def mayE (n : Nd) (a0 a1 a2 a3 a4 : Int) : Int := if confOk a0 a1 a2 a3 a4 then (if headOk n a0 && (keysOk n && formOk n a0 a1 a2) then 0 else 91) else 1

section
variable {S T : Nat → Prop} {w : World} {c0 c1 c2 c3 c4 c5 : Value} {n : Nd}

set_option maxRecDepth 100000 in
set_option maxHeartbeats 4000000 in
theorem checkP {a0 a1 a2 a3 a4 : Int} (h : IsNd w S c0 c1 c2 c3 c4 c5 n) (hw : ∀ k ∈ n.kids, K64 k) (hz : NdSm 0 n) : Calls Tryz.prog 134 #[.agg #[c0, c1, c2, c3, c4, c5], .agg #[.int .i64 a0, .int .i64 a1, .int .i64 a2, .int .i64 a3, .int .i64 a4]] w fun e w' => e = .returned (.int .i64 (mayE n a0 a1 a2 a3 a4)) ∧ Keeps Nob w w' := by
  obtain ⟨X1, k1, e1, y1, z1⟩ := h.1.high.form
  obtain ⟨X3, k3, e3, y3, z3⟩ := h.2.keys.form
  obtain ⟨X4, k4, e4, y4, z4⟩ := h.2.vals.form
  obtain ⟨X5, k5, e5, y5, z5⟩ := h.2.kids.form
  have e0 := h.1.lvl
  have e2 := h.1.right
  unfold iV at e0 e2
  subst e0 e1 e2 e3 e4 e5
  have HN0 := Lib.hid h
  have HL := fun wx (k : Keeps Nob w wx) => leafP (a0 := a0) (a1 := a1) (a2 := a2) (a3 := a3) (a4 := a4) (HN0.out.keeps k (fun _ _ _ => id))
  have HI := fun wx (k : Keeps Nob w wx) => innerP (a0 := a0) (a1 := a1) (a2 := a2) (a3 := a3) (a4 := a4) (HN0.out.keeps k (fun _ _ _ => id)) hw hz
  have HC := fun wx => confP a0 a1 a2 a3 a4 wx
  clear h y1 y3 y4 y5 z1 z3 z4 z5 hw hz
  unfold mayE headOk keysOk formOk
  unfold confE at HC
  obtain ⟨bc, hbc⟩ : ∃ b, confOk a0 a1 a2 a3 a4 = b := ⟨_, rfl⟩
  obtain ⟨b0, hb0⟩ : ∃ b, decide (0 ≤ n.lvl ∧ n.lvl ≤ 32) = b := ⟨_, rfl⟩
  obtain ⟨b1, hb1⟩ : ∃ b, decide (0 ≤ n.right ∧ n.right ≤ a0) = b := ⟨_, rfl⟩
  obtain ⟨b2, hb2⟩ : ∃ b, (((n.high.length : Int) == 0) == (n.right == 0)) = b := ⟨_, rfl⟩
  obtain ⟨b3, hb3⟩ : ∃ b, decide ((n.high.length : Int) ≤ 64) = b := ⟨_, rfl⟩
  obtain ⟨br, hbr⟩ : ∃ b, rises n.keys = b := ⟨_, rfl⟩
  obtain ⟨bk, hbk⟩ : ∃ b, n.keys.any (keyBad n.high) = b := ⟨_, rfl⟩
  obtain ⟨bl, hbl⟩ : ∃ b, leafOk n a1 = b := ⟨_, rfl⟩
  obtain ⟨bi, hbi⟩ : ∃ b, innerOk n a0 a2 = b := ⟨_, rfl⟩
  rw [hbc] at HC ⊢
  rw [hb0, hb1, hb2, hb3, hbr, hbk, hbl, hbi]
  rw [hbl] at HL
  rw [hbi] at HI
  have H0 := Lib.hid hb0
  have H1 := Lib.hid hb1
  have H2 := Lib.hid hb2
  have H3 := Lib.hid hb3
  have HRI : ∀ wx, Keeps Nob w wx → Calls Tryz.prog 142 #[.slice X3 n.keys.length k3] wx fun e w' => e = .returned (.bool br) ∧ Keeps Nob wx w' := fun wx k => by
    have := risingP (HN0.out.keeps k (fun _ _ _ => id)).2.keys
    rwa [hbr] at this
  have HCO : ∀ wx N, Keeps Nob w wx → Blk wx N 35 #[.int .i64 n.lvl, .slice X1 n.high.length k1, .int .i64 n.right, .slice X3 n.keys.length k3, .slice X4 n.vals.length k4, .slice X5 n.kids.length k5] → Calls Tryz.prog 143 #[.slice X3 n.keys.length k3, .func (.func 144) #[] #[.pointer (some ⟨N, 0, none⟩)]] wx fun e w' => e = .returned (.bool bk) ∧ Keeps Nob wx w' := fun wx N k hb => by
    have hn := HN0.out.keeps k (fun _ _ _ => id)
    have := containsC (p := keyBad n.high) (q := some ⟨N, 0, none⟩) hn.2.keys (fun W u x hkW hx => keyF (hb.keeps hkW id) (hn.keeps hkW (fun _ _ _ => id)).1.high hx)
    rwa [hbk] at this
  clear hbc hb0 hb1 hb2 hb3 hbr hbk hbl hbi
  cases bc
  · have HCC := Lib.hid HC
    clear HC HL HI HRI HCO H0 H1 H2 H3
    go_enter Tryz.func134, Tryz.ntmps134
    go_wp2_with fail
    refine calls_at (fun wa hw => ?_)
    have hka : Keeps Nob w wa := by rw [hw]; exact (Keeps.alloc _ _ _).alloc' _
    have HK := Lib.hid hka
    clear hw hka
    refine (HCC.out wa).mono ?_
    rintro e w1 ⟨rfl, hk1⟩
    have HK1 := Lib.hid (HK.out.trans hk1 (fun _ _ h => h))
    clear hk1
    go_wp2
    go_ret
    exact ⟨rfl, HK1.out⟩
  · have hmf : ∀ (fn : Fn) (first cap : Array Value) (w : World), (Instr.makeFunc fn first cap).run Tryz.prog w = .ok (.func fn first cap) w := fun _ _ _ _ => rfl
    have HCC := Lib.hid HC
    clear HC
    go_enter Tryz.func134, Tryz.ntmps134
    go_wp2_with fail
    refine calls_at (fun wa hw => ?_)
    obtain ⟨N, hN⟩ : ∃ N, w.heap.size = N := ⟨_, rfl⟩
    have hka : Keeps Nob w wa := by rw [hw]; exact (Keeps.alloc _ _ _).alloc' _
    have BN : Blk wa N 35 #[.int .i64 n.lvl, .slice X1 n.high.length k1, .int .i64 n.right, .slice X3 n.keys.length k3, .slice X4 n.vals.length k4, .slice X5 n.kids.length k5] := by rw [hw, ← hN]; exact (Blk.new w _ _).alloc _
    have BC : Blk wa (N + 1) 49 #[.int .i64 a0, .int .i64 a1, .int .i64 a2, .int .i64 a3, .int .i64 a4] := by rw [hw, ← hN]; exact Blk.new' (by simp) _ _
    rw [hN]
    have HBN := Lib.hid BN
    have HBC := Lib.hid BC
    have HK := Lib.hid hka
    clear hw hN BN BC hka
    refine (HCC.out wa).mono ?_
    rintro e w1 ⟨rfl, hk1⟩
    replace HBN := Lib.hid (HBN.out.keeps hk1 id)
    replace HBC := Lib.hid (HBC.out.keeps hk1 id)
    replace HK := Lib.hid (HK.out.trans hk1 (fun _ _ h => h))
    have q := fun i => HBN.out.cell i
    have q2 := fun i => HBC.out.cell i
    have hb2 := H2.out
    have hb3 := H3.out
    clear hk1 HCC
    go_wp2_with (first
      | (go_at_call 133; refine (betweenP _ _ _ _).mono ?_; rintro e w2 ⟨rfl, rfl⟩; (first | rw [H0.out] | rw [H1.out]))
      | (go_at_call 142; refine (HRI _ HK.out).mono ?_; rintro e w2 ⟨rfl, hk1⟩; replace HBN := Lib.hid (HBN.out.keeps hk1 id); replace HBC := Lib.hid (HBC.out.keeps hk1 id); replace HK := Lib.hid (HK.out.trans hk1 (fun _ _ h => h)); have q := fun i => HBN.out.cell i; have q2 := fun i => HBC.out.cell i; clear hk1)
      | (go_at_call 143; refine (HCO _ N HK.out HBN.out).mono ?_; rintro e w2 ⟨rfl, hk1⟩; replace HBN := Lib.hid (HBN.out.keeps hk1 id); replace HBC := Lib.hid (HBC.out.keeps hk1 id); replace HK := Lib.hid (HK.out.trans hk1 (fun _ _ h => h)); have q := fun i => HBN.out.cell i; have q2 := fun i => HBC.out.cell i; clear hk1)
      | (go_at_call 147; refine (HL _ HK.out).mono ?_; rintro e w2 ⟨rfl, hk1⟩; replace HK := Lib.hid (HK.out.trans hk1 (fun _ _ h => h)); clear hk1)
      | (go_at_call 146; refine (HI _ HK.out).mono ?_; rintro e w2 ⟨rfl, hk1⟩; replace HK := Lib.hid (HK.out.trans hk1 (fun _ _ h => h)); clear hk1))
    all_goals
      go_ret
      first
        | exact ⟨rfl, HK.out⟩
        | (refine ⟨?_, HK.out⟩; simp_all)
end
end Go.Proofs.YtbhohohgojcapaaGreat

namespace Go.Proofs.YtbhohohgojcapaaGreat
open Go.RowKit

/-- A report. -/
structure Rp where
  sound : Bool
  node : Int
  err : Int
  levels : Int
  nodes : Int
  entries : Int
  deriving DecidableEq
def Rp.wrong (id e : Int) : Rp := ⟨false, id, e, 0, 0, 0⟩
def Rp.ok : Rp := ⟨true, 0, 0, 0, 0, 0⟩
/-- A chain: its nodes' numbers, and their lows. -/
abbrev Ch := List (Int × List UInt8)
/-- Is the first key below this low? -/
def keyBelow (low : List UInt8) : List (List UInt8) → Bool
  | [] => false
  | k :: _ => decide (cmp k low < 0)
/-- Does a node stand wrong behind this low? -/
def lowBad (low : List UInt8) (n : Nd) : Bool :=
  decide (0 < low.length) && (keyBelow low n.keys || (decide (0 < n.high.length) && decide (cmp n.high low ≤ 0)))
/-- A chain from a node on. -/
def chainM (A : Ar) (chk : Nd → Int) (level : Int) : Nat → Int → List UInt8 → List Int → Ch → Ch × List Int × Rp
  | 0, _, _, met, acc => (acc, met, .ok)
  | f + 1, id, low, met, acc => match A.get id with
    | none => (acc, met, .wrong id 101)
    | some s =>
      if met.contains id = true then (acc, met, .wrong id 112)
      else if s.nd.lvl ≠ level then (acc, met, .wrong id 111)
      else if chk s.nd ≠ 0 then (acc, met, .wrong id (chk s.nd))
      else if lowBad low s.nd = true then (acc, met, .wrong id 112)
      else if s.nd.right = 0 then (acc ++ [(id, low)], met ++ [id], .ok)
      else chainM A chk level f s.nd.right s.nd.high (met ++ [id]) (acc ++ [(id, low)])
/-- Is this kid in the chain below, with this low? -/
def kidOk (down : Ch) (kid : Int) (want : List UInt8) : Bool := down.any (fun d => d.1 == kid && d.2 == want)
/-- What a node's kid's low must be. -/
def wantLow (low : List UInt8) (n : Nd) (k : Nat) : List UInt8 := if k = 0 then low else n.keys.getD (k - 1) []
def nodeKids (down : Ch) (low : List UInt8) (n : Nd) : Bool := (List.range n.kids.length).all (fun k => kidOk down (n.kids.getD k 0) (wantLow low n k))
def kidsM (A : Ar) (down : Ch) : Ch → Rp
  | [] => .ok
  | (id, low) :: r => if nodeKids down low (opNd A id) = true then kidsM A down r else .wrong id 113
def firstKid (A : Ar) (l : Ch) : Int := match l with
  | [] => 0
  | e :: _ => (opNd A e.1).kids.getD 0 0
/-- The kids of the last chain so far. -/
def kidsLast (A : Ar) (out : List Ch) (l : Ch) : Rp := match out.getLast? with
  | none => .ok
  | some up => kidsM A l up
def levelsFrom (A : Ar) (chk : Nd → Int) : Nat → Int → Int → List Int → List Ch → List Ch × Rp
  | 0, _, _, _, out => (out, .ok)
  | f + 1, level, first, met, out =>
    let c := chainM A chk level (A.sl.length + 1 - met.length) first [] met []
    if c.2.2.sound = false then ([], c.2.2)
    else if (kidsLast A out c.1).sound = false then ([], kidsLast A out c.1)
    else if level = 0 then (out ++ [c.1], .ok)
    else levelsFrom A chk f (level - 1) (firstKid A c.1) c.2.1 (out ++ [c.1])
def chkM (a0 a1 a2 a3 a4 : Int) (n : Nd) : Int := mayE n a0 a1 a2 a3 a4
def levelsM (A : Ar) (a0 a1 a2 a3 a4 : Int) : List Ch × Rp :=
  if confOk a0 a1 a2 a3 a4 = false then ([], .wrong 0 1)
  else match heldFrom 1 A.sl with
  | h :: _ => ([], .wrong h 102)
  | [] => match A.get A.root with
    | none => ([], .wrong A.root 101)
    | some s => levelsFrom A (chkM a0 a1 a2 a3 a4) (s.nd.lvl.toNat + 1) s.nd.lvl A.root [] []

/-- Numbers that were met: each once, each there. -/
def MetA (A : Ar) (met : List Int) : Prop := met.Nodup ∧ ∀ x ∈ met, 1 ≤ x ∧ x ≤ A.sl.length

section
variable {A : Ar} {chk : Nd → Int} {level id : Int} {low : List UInt8} {met : List Int} {acc l : Ch} {s : Sl}
theorem nodup_le {α : Type} [BEq α] [LawfulBEq α] : ∀ (l m : List α), l.Nodup → (∀ x ∈ l, x ∈ m) → l.length ≤ m.length
  | [], _, _, _ => Nat.zero_le _
  | x :: l, m, hn, hs => by
    have hx := hs x (List.mem_cons_self ..)
    rw [List.nodup_cons] at hn
    have ih := nodup_le l (m.erase x) hn.2 (fun y hy => (List.mem_erase_of_ne (fun e : y = x => hn.1 (e ▸ hy))).2 (hs y (List.mem_cons_of_mem _ hy)))
    have h1 := List.length_erase_of_mem hx
    have h2 := List.length_pos_of_mem hx
    simp only [List.length_cons]
    omega
theorem MetA.len (h : MetA A met) : met.length ≤ A.sl.length := by
  obtain ⟨h1, h2⟩ := h
  have hsub : (met.map (fun x => x.toNat - 1)) ⊆ List.range A.sl.length := fun y hy => by
    obtain ⟨x, hx, rfl⟩ := List.mem_map.1 hy
    have := h2 x hx
    exact List.mem_range.2 (by omega)
  have hnd : (met.map (fun x => x.toNat - 1)).Nodup := by
    rw [List.nodup_iff_pairwise_ne, List.pairwise_map]
    refine List.Pairwise.imp_of_mem ?_ h1
    intro a b ha hb hab e
    have := h2 a ha; have := h2 b hb
    exact hab (by omega)
  have := nodup_le _ _ hnd (fun x hx => hsub hx)
  simpa using this
theorem MetA.snoc (h : MetA A met) (hs : A.get id = some s) (hm : met.contains id = false) : MetA A (met ++ [id]) := by
  obtain ⟨h1, h2⟩ := h
  refine ⟨?_, fun x hx => ?_⟩
  · rw [List.nodup_append]
    refine ⟨h1, by simp, fun a ha b hb e => ?_⟩
    simp at hb
    subst hb e
    have : met.contains a = true := by simpa using ha
    rw [hm] at this; cases this
  · rcases List.mem_append.1 hx with hx | hx
    · exact h2 x hx
    · simp at hx; subst hx; exact get_le hs
/-- One round of a chain. -/
theorem chainM_round (hmet : MetA A met) : chainM A chk level (A.sl.length + 1 - met.length) id low met acc = match A.get id with
    | none => (acc, met, .wrong id 101)
    | some s =>
      if met.contains id = true then (acc, met, .wrong id 112)
      else if s.nd.lvl ≠ level then (acc, met, .wrong id 111)
      else if chk s.nd ≠ 0 then (acc, met, .wrong id (chk s.nd))
      else if lowBad low s.nd = true then (acc, met, .wrong id 112)
      else if s.nd.right = 0 then (acc ++ [(id, low)], met ++ [id], .ok)
      else chainM A chk level (A.sl.length + 1 - (met ++ [id]).length) s.nd.right s.nd.high (met ++ [id]) (acc ++ [(id, low)]) := by
  have hl := hmet.len
  obtain ⟨f, hf⟩ : ∃ f, A.sl.length + 1 - met.length = f + 1 := ⟨A.sl.length - met.length, by omega⟩
  have hf2 : A.sl.length + 1 - (met ++ [id]).length = f := by simp; omega
  rw [hf, hf2]
  rfl
end
end Go.Proofs.YtbhohohgojcapaaGreat

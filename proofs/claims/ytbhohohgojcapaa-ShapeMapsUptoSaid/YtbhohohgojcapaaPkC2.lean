import Derived.Test.YtbhohohgojcapaaPkA6
import Derived.Test.YtbhohohgojcapaaPkC1
namespace Go.Proofs.Ytbhohohgojcapaa
open Go.RowKit

/-- A report. -/
structure Rp where
  sound : Bool
  node : Int
  err : Int
  levels : Int
  nodes : Int
  entries : Int
  deriving DecidableEq
def Rp.wrong (id e : Int) : Rp := ⟨false, id, e, 0, 0, 0⟩
def Rp.ok : Rp := ⟨true, 0, 0, 0, 0, 0⟩
/-- A chain: its nodes' numbers, and their lows. -/
abbrev Ch := List (Int × List UInt8)
/-- Is the first key below this low? -/
def keyBelow (low : List UInt8) : List (List UInt8) → Bool
  | [] => false
  | k :: _ => decide (cmp k low < 0)
/-- Does a node stand wrong behind this low? -/
def lowBad (low : List UInt8) (n : Nd) : Bool :=
  decide (0 < low.length) && (keyBelow low n.keys || (decide (0 < n.high.length) && decide (cmp n.high low ≤ 0)))
/-- A chain from a node on. -/
def chainM (A : Ar) (chk : Nd → Int) (level : Int) : Nat → Int → List UInt8 → List Int → Ch → Ch × List Int × Rp
  | 0, _, _, met, acc => (acc, met, .ok)
  | f + 1, id, low, met, acc => match A.get id with
    | none => (acc, met, .wrong id 101)
    | some s =>
      if met.contains id = true then (acc, met, .wrong id 112)
      else if s.nd.lvl ≠ level then (acc, met, .wrong id 111)
      else if chk s.nd ≠ 0 then (acc, met, .wrong id (chk s.nd))
      else if lowBad low s.nd = true then (acc, met, .wrong id 112)
      else if s.nd.right = 0 then (acc ++ [(id, low)], met ++ [id], .ok)
      else chainM A chk level f s.nd.right s.nd.high (met ++ [id]) (acc ++ [(id, low)])
/-- Is this kid in the chain below, with this low? -/
def kidOk (down : Ch) (kid : Int) (want : List UInt8) : Bool := down.any (fun d => d.1 == kid && d.2 == want)
/-- What a node's kid's low must be. -/
def wantLow (low : List UInt8) (n : Nd) (k : Nat) : List UInt8 := if k = 0 then low else n.keys.getD (k - 1) []
def nodeKids (down : Ch) (low : List UInt8) (n : Nd) : Bool := (List.range n.kids.length).all (fun k => kidOk down (n.kids.getD k 0) (wantLow low n k))
def kidsM (A : Ar) (down : Ch) : Ch → Rp
  | [] => .ok
  | (id, low) :: r => if nodeKids down low (opNd A id) = true then kidsM A down r else .wrong id 113
def firstKid (A : Ar) (l : Ch) : Int := match l with
  | [] => 0
  | e :: _ => (opNd A e.1).kids.getD 0 0
/-- The kids of the last chain so far. -/
def kidsLast (A : Ar) (out : List Ch) (l : Ch) : Rp := match out.getLast? with
  | none => .ok
  | some up => kidsM A l up
def levelsFrom (A : Ar) (chk : Nd → Int) : Nat → Int → Int → List Int → List Ch → List Ch × Rp
  | 0, _, _, _, out => (out, .ok)
  | f + 1, level, first, met, out =>
    let c := chainM A chk level (A.sl.length + 1 - met.length) first [] met []
    if c.2.2.sound = false then ([], c.2.2)
    else if (kidsLast A out c.1).sound = false then ([], kidsLast A out c.1)
    else if level = 0 then (out ++ [c.1], .ok)
    else levelsFrom A chk f (level - 1) (firstKid A c.1) c.2.1 (out ++ [c.1])
def chkM (a0 a1 a2 a3 a4 : Int) (n : Nd) : Int := mayE n a0 a1 a2 a3 a4
def levelsM (A : Ar) (a0 a1 a2 a3 a4 : Int) : List Ch × Rp :=
  if confOk a0 a1 a2 a3 a4 = false then ([], .wrong 0 1)
  else match heldFrom 1 A.sl with
  | h :: _ => ([], .wrong h 102)
  | [] => match A.get A.root with
    | none => ([], .wrong A.root 101)
    | some s => levelsFrom A (chkM a0 a1 a2 a3 a4) (s.nd.lvl.toNat + 1) s.nd.lvl A.root [] []

/-- Numbers that were met: each once, each there. -/
def MetA (A : Ar) (met : List Int) : Prop := met.Nodup ∧ ∀ x ∈ met, 1 ≤ x ∧ x ≤ A.sl.length

section
variable {A : Ar} {chk : Nd → Int} {level id : Int} {low : List UInt8} {met : List Int} {acc l : Ch} {s : Sl}
theorem nodup_le {α : Type} [BEq α] [LawfulBEq α] : ∀ (l m : List α), l.Nodup → (∀ x ∈ l, x ∈ m) → l.length ≤ m.length
  | [], _, _, _ => Nat.zero_le _
  | x :: l, m, hn, hs => by
    have hx := hs x (List.mem_cons_self ..)
    rw [List.nodup_cons] at hn
    have ih := nodup_le l (m.erase x) hn.2 (fun y hy => (List.mem_erase_of_ne (fun e : y = x => hn.1 (e ▸ hy))).2 (hs y (List.mem_cons_of_mem _ hy)))
    have h1 := List.length_erase_of_mem hx
    have h2 := List.length_pos_of_mem hx
    simp only [List.length_cons]
    omega
theorem MetA.len (h : MetA A met) : met.length ≤ A.sl.length := by
  obtain ⟨h1, h2⟩ := h
  have hsub : (met.map (fun x => x.toNat - 1)) ⊆ List.range A.sl.length := fun y hy => by
    obtain ⟨x, hx, rfl⟩ := List.mem_map.1 hy
    have := h2 x hx
    exact List.mem_range.2 (by omega)
  have hnd : (met.map (fun x => x.toNat - 1)).Nodup := by
    rw [List.nodup_iff_pairwise_ne, List.pairwise_map]
    refine List.Pairwise.imp_of_mem ?_ h1
    intro a b ha hb hab e
    have := h2 a ha; have := h2 b hb
    exact hab (by omega)
  have := nodup_le _ _ hnd (fun x hx => hsub hx)
  simpa using this
theorem MetA.snoc (h : MetA A met) (hs : A.get id = some s) (hm : met.contains id = false) : MetA A (met ++ [id]) := by
  obtain ⟨h1, h2⟩ := h
  refine ⟨?_, fun x hx => ?_⟩
  · rw [List.nodup_append]
    refine ⟨h1, by simp, fun a ha b hb e => ?_⟩
    simp at hb
    subst hb e
    have : met.contains a = true := by simpa using ha
    rw [hm] at this; cases this
  · rcases List.mem_append.1 hx with hx | hx
    · exact h2 x hx
    · simp at hx; subst hx; exact get_le hs
/-- One round of a chain. -/
theorem chainM_round (hmet : MetA A met) : chainM A chk level (A.sl.length + 1 - met.length) id low met acc = match A.get id with
    | none => (acc, met, .wrong id 101)
    | some s =>
      if met.contains id = true then (acc, met, .wrong id 112)
      else if s.nd.lvl ≠ level then (acc, met, .wrong id 111)
      else if chk s.nd ≠ 0 then (acc, met, .wrong id (chk s.nd))
      else if lowBad low s.nd = true then (acc, met, .wrong id 112)
      else if s.nd.right = 0 then (acc ++ [(id, low)], met ++ [id], .ok)
      else chainM A chk level (A.sl.length + 1 - (met ++ [id]).length) s.nd.right s.nd.high (met ++ [id]) (acc ++ [(id, low)]) := by
  have hl := hmet.len
  obtain ⟨f, hf⟩ : ∃ f, A.sl.length + 1 - met.length = f + 1 := ⟨A.sl.length - met.length, by omega⟩
  have hf2 : A.sl.length + 1 - (met ++ [id]).length = f := by simp; omega
  rw [hf, hf2]
  rfl
end
end Go.Proofs.Ytbhohohgojcapaa

namespace Go.Proofs.Ytbhohohgojcapaa
open Go.RowKit

def rpV (r : Rp) : Array Value := #[.bool r.sound, .int .i64 r.node, .int .i64 r.err, .int .i64 r.levels, .int .i64 r.nodes, .int .i64 r.entries]
section
variable {w : World} {S : Nat → Prop} {v : Value} {l : List Int} {x : Int}
theorem take_no {k : Nat} {y : Int} (h : (l.take k).contains x = false) (hy : l[k]? = some y) (hne : y ≠ x) : (l.take (k + 1)).contains x = false := by
  rw [List.take_add_one, hy]
  simp at h ⊢
  exact ⟨h, fun e => hne e.symm⟩
set_option maxRecDepth 100000 in
set_option maxHeartbeats 1000000 in
theorem hasR (h : Ints w S v l) : Calls Try.prog 83 #[v, .int .i64 x] w fun e w' => e = .returned (.bool (l.contains x)) ∧ Keeps Nob w w' := by
  obtain ⟨A, c, rfl, hn, hm⟩ := h.form
  have hz : l.length ≤ 9223372036854775807 := Nat.le_trans hn hm
  have H := Lib.hid h
  clear h hn hm
  go_enter Try.func83, Try.ntmps83
  go_wp2
  go_loopw [5] (fun i wr => ∃ k : Nat, k ≤ l.length ∧ i = .int .i64 k ∧ (l.take k).contains x = false ∧ Keeps Nob w wr) (fun i _ => l.length - (intOf i).toNat)
  case atStart => exact ⟨0, Nat.zero_le _, rfl, by simp, Keeps.refl _ _⟩
  obtain ⟨k, hk, rfl, hno, hkr⟩ := hrel
  have HNO := Lib.hid hno
  have K := Lib.hid hkr
  clear hno hkr
  rcases Nat.lt_or_ge k l.length with hlt | hlt
  · obtain ⟨y, hy⟩ : ∃ y, l[k]? = some y := ⟨_, List.getElem?_eq_getElem hlt⟩
    obtain ⟨ad, ea, _, hc⟩ := SlR.cells H.out (i := k) (by rw [List.length_map]; exact hlt)
    have q0 : wr.cell? (ad.add k) = some (.int .i64 y) := K.out.cell (hc k _ (by rw [List.getElem?_map, hy]; rfl)) id
    subst ea
    have HY := Lib.hid hy
    clear hc hy
    by_cases e : y = x
    · subst e
      go_wp2
      go_ret
      refine ⟨?_, K.out⟩
      rw [show l.contains y = true by simpa using List.mem_of_getElem? HY.out]; rfl
    · have e2 : (y == x) = false := by simpa using e
      have HE := Lib.hid e
      clear e
      go_wp2
      go_roundw
      case rel => exact ⟨k + 1, by omega, by go_num, take_no HNO.out HY.out HE.out, K.out⟩
      case measure => simp [intOf]; omega
  obtain rfl : k = l.length := by omega
  go_wp2
  go_ret
  refine ⟨?_, K.out⟩
  have h := HNO.out
  rw [List.take_length] at h
  rw [h]; rfl
end
end Go.Proofs.Ytbhohohgojcapaa

import Derived.Test.YtbhohohgojcapaaGreatPkC0
import Derived.Test.YtbhohohgojcapaaGreatPkB4
import Derived.Test.YtbhohohgojcapaaGreatPkA8
namespace Go.Proofs.YtbhohohgojcapaaGreat
open Go.RowKit

def rpV (r : Rp) : Array Value := #[.bool r.sound, .int .i64 r.node, .int .i64 r.err, .int .i64 r.levels, .int .i64 r.nodes, .int .i64 r.entries]
section
variable {w : World} {S : Nat → Prop} {v : Value} {l : List Int} {x : Int}
theorem take_no {k : Nat} {y : Int} (h : (l.take k).contains x = false) (hy : l[k]? = some y) (hne : y ≠ x) : (l.take (k + 1)).contains x = false := by
  rw [List.take_add_one, hy]
  simp at h ⊢
  exact ⟨h, fun e => hne e.symm⟩
set_option maxRecDepth 100000 in
set_option maxHeartbeats 1000000 in
theorem hasR (h : Ints w S v l) : Calls Tryz.prog 51 #[v, .int .i64 x] w fun e w' => e = .returned (.bool (l.contains x)) ∧ Keeps Nob w w' := by
  obtain ⟨A, c, rfl, hn, hm⟩ := h.form
  have hz : l.length ≤ 9223372036854775807 := Nat.le_trans hn hm
  have H := Lib.hid h
  clear h hn hm
  go_enter Tryz.func51, Tryz.ntmps51
  go_wp2
  go_loopw [5] (fun i wr => ∃ k : Nat, k ≤ l.length ∧ i = .int .i64 k ∧ (l.take k).contains x = false ∧ Keeps Nob w wr) (fun i _ => l.length - (intOf i).toNat)
  case atStart => exact ⟨0, Nat.zero_le _, rfl, by simp, Keeps.refl _ _⟩
  obtain ⟨k, hk, rfl, hno, hkr⟩ := hrel
  have HNO := Lib.hid hno
  have K := Lib.hid hkr
  clear hno hkr
  rcases Nat.lt_or_ge k l.length with hlt | hlt
  · obtain ⟨y, hy⟩ : ∃ y, l[k]? = some y := ⟨_, List.getElem?_eq_getElem hlt⟩
    obtain ⟨ad, ea, _, hc⟩ := SlR.cells H.out (i := k) (by rw [List.length_map]; exact hlt)
    have q0 : wr.cell? (ad.add k) = some (.int .i64 y) := K.out.cell (hc k _ (by rw [List.getElem?_map, hy]; rfl)) id
    subst ea
    have HY := Lib.hid hy
    clear hc hy
    by_cases e : y = x
    · subst e
      go_wp2
      go_ret
      refine ⟨?_, K.out⟩
      rw [show l.contains y = true by simpa using List.mem_of_getElem? HY.out]; rfl
    · have e2 : (y == x) = false := by simpa using e
      have HE := Lib.hid e
      clear e
      go_wp2
      go_roundw
      case rel => exact ⟨k + 1, by omega, by go_num, take_no HNO.out HY.out HE.out, K.out⟩
      case measure => simp [intOf]; omega
  obtain rfl : k = l.length := by omega
  go_wp2
  go_ret
  refine ⟨?_, K.out⟩
  have h := HNO.out
  rw [List.take_length] at h
  rw [h]; rfl
theorem wrongR (id e : Int) (w : World) : Calls Tryz.prog 94 #[.int .i64 id, .int .i64 e] w fun r w' => r = .returned (.agg #[.bool false, .int .i64 id, .int .i64 e, .int .i64 0, .int .i64 0, .int .i64 0]) ∧ Keeps Nob w w' := by
  go_enter Tryz.func94, Tryz.ntmps94
  go_wp2
  refine post_at (fun wb hw => ?_)
  have hk : Keeps Nob w wb := by rw [hw]; exact Keeps.alloc _ _ _
  have hb : Blk wb w.heap.size 42 #[.bool false, .int .i64 id, .int .i64 e, .int .i64 0, .int .i64 0, .int .i64 0] := by rw [hw]; exact Blk.new _ _ _
  clear hw
  have r0 := hb.cell 0
  have r1 := hb.cell 1
  have r2 := hb.cell 2
  have r3 := hb.cell 3
  have r4 := hb.cell 4
  have r5 := hb.cell 5
  refine bodyPost_ret (v := .agg #[.bool false, .int .i64 id, .int .i64 e, .int .i64 0, .int .i64 0, .int .i64 0]) (by simp [results, Tryz.results94, go_sem, r0, r1, r2, r3, r4, r5]) rfl ⟨rfl, hk⟩
end
end Go.Proofs.YtbhohohgojcapaaGreat

namespace Go.Proofs.YtbhohohgojcapaaGreat
open Go.RowKit

/-- What is next. -/
inductive Nx where
  | root | latch | head | body | valid | done
  deriving DecidableEq
/-- A machine. -/
structure Mc where
  key : List UInt8
  level : Int
  nx : Nx
  id : Int
  word : Nat
  nd : Nd
  there : Bool
  again : Int
  right : Int
def Mc.new (key : List UInt8) (level : Int) : Mc := ⟨key, level, .root, 0, 0, Nd.zero, false, 0, 0⟩
def rootM (A : Ar) (M : Mc) : Mc := { M with id := A.root, nx := .latch }
def latchM (A : Ar) (M : Mc) : Mc := { M with word := opWord A M.id, nx := if opWord A M.id % 2 = 0 then .head else M.nx }
def headM (A : Ar) (M : Mc) : Mc := { M with nd := withHd M.nd (opNd A M.id), nx := .body }
def bodyM (A : Ar) (M : Mc) : Mc := { M with nd := withHd (opNd A M.id) M.nd, nx := .valid }
/-- Behind VALID, where the slot is there and its word is now. -/
def decideM (now : Nat) (M : Mc) : Mc :=
  if now ≠ M.word then { M with again := M.again + 1, nx := .root }
  else if M.nd.lvl < M.level then { M with nx := .done }
  else if beyond M.nd.high M.key then { M with right := M.right + 1, id := M.nd.right, nx := .latch }
  else if M.nd.lvl = M.level then { M with there := true, nx := .done }
  else { M with id := childOf M.nd.kids M.nd.keys M.key, nx := .latch }
/-- One step. -/
def stepM (A : Ar) (M : Mc) : Mc :=
  match M.nx with
  | .done => M
  | .root => rootM A M
  | .latch => if opErr A M.id = 0 then latchM A M else { latchM A M with nx := .done }
  | .head => if opErr A M.id = 0 then headM A M else { headM A M with nx := .done }
  | .body => if opErr A M.id = 0 then bodyM A M else { bodyM A M with nx := .done }
  | .valid => if opErr A M.id = 0 then decideM (opWord A M.id) M else { M with nx := .done }
/-- Its counts may rise. -/
def Mc.low (M : Mc) : Prop := 0 ≤ M.again ∧ M.again < 9223372036854775807 ∧ 0 ≤ M.right ∧ M.right < 9223372036854775807

/-- A machine in memory: its block, its texts in blocks of S. -/
structure MW (w : World) (t : TypeId) (m a : Nat) (nv : Nx → Value) (S : Nat → Prop) (M : Mc) : Prop where
  cells : ∃ kv c0 c1 c2 c3 c4 c5, Blk w m t #[pV a, kv, iV M.level, nv M.nx, iV M.id, .int .u64 M.word, c0, c1, c2, c3, c4, c5, .bool M.there, iV M.again, iV M.right] ∧ Byts w S kv M.key ∧ IsNd w S c0 c1 c2 c3 c4 c5 M.nd
  u64 : U64 M.word
  sm : NdSm 0 M.nd

section
variable {w w' : World} {t : TypeId} {m a : Nat} {nv : Nx → Value} {S T N G G' : Nat → Prop} {M : Mc} {b p q : Nat} {A B : Ar}
theorem MW.keeps (h : MW w t m a nv S M) (k : Keeps N w w') (hm : ¬ N m) (hd : ∀ x, x < w.heap.size → S x → ¬ N x) : MW w' t m a nv S M := by
  obtain ⟨⟨kv, c0, c1, c2, c3, c4, c5, hb, hk, hn⟩, hu, hs⟩ := h
  exact ⟨⟨kv, c0, c1, c2, c3, c4, c5, hb.keeps k hm, hk.keeps k hd, hn.keeps k hd⟩, hu, hs⟩
theorem MW.mono (h : MW w t m a nv S M) (hd : ∀ x, x < w.heap.size → S x → T x) : MW w t m a nv T M := by
  obtain ⟨⟨kv, c0, c1, c2, c3, c4, c5, hb, hk, hn⟩, hu, hs⟩ := h
  exact ⟨⟨kv, c0, c1, c2, c3, c4, c5, hb, hk.mono hd, hn.mono hd⟩, hu, hs⟩
/-- The pair behind what wrote elsewhere and made new memory that is not its own. -/
theorem J.enterN (h : J w G b p q A B) (k : Keeps N w w') (hN : ∀ x, x < w.heap.size → G x → ¬ N x) (hg : ∀ x, x < w.heap.size → G x → G' x) (hn : ∀ x, w'.heap.size ≤ x → G' x) : J w' G' b p q A B := by
  have h' := h.keeps k hN
  obtain ⟨hb, ⟨M, D, M', D', ⟨sl, ids, hX⟩, ⟨L, xs, hY⟩, h1, h2, h3⟩, hl, hnew, hsA, hsB⟩ := h
  exact ⟨h'.blk, ⟨M, D, M', D', ⟨sl, ids, hX.keeps k (fun x hx hm => hN x hx (h1 x hm).1) (fun x hx hd => hN x hx (h3 x (.inl hd)))⟩, ⟨L, xs, hY.keeps k (fun x hx hm => hN x hx (h2 x hm).1) (fun x hx hd => hN x hx (h3 x (.inr hd)))⟩, fun x hx => ⟨hg x (hX.mlt x hx) (h1 x hx).1, (h1 x hx).2⟩, fun x hx => ⟨hg x (hY.mlt x hx) (h2 x hx).1, (h2 x hx).2⟩, fun x hx => hg x (hx.elim (hX.dlt x) (hY.dlt x)) (h3 x hx)⟩, hg b hb.lt hl, hn, hsA, hsB⟩
end
end Go.Proofs.YtbhohohgojcapaaGreat

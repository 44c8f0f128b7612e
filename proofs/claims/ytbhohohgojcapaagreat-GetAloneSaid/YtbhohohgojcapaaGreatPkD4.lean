import Derived.Test.YtbhohohgojcapaaGreatPkD3
import Derived.Test.YtbhohohgojcapaaGreatPkD2
import Derived.Test.YtbhohohgojcapaaGreatPkC5
import Derived.Test.YtbhohohgojcapaaGreatPkA8
import Derived.Test.YtbhohohgojcapaaGreatPkA6
import Derived.Lib.SlBytesConst
import Derived.Test.YtbhohohgojcapaaGreatPkA0
import Derived.BigQuiet
import Derived.Test.YtbhohohgojcapaaGreatPkB4
import Derived.Maps.OwnOps
import Derived.Maps.Views
namespace Go.Proofs.YtbhohohgojcapaaGreat
open Go.RowKit
section
variable {w : World} {G S : Nat -> Prop} {b p q m d : Nat} {A B : Ar} {g : Gc} {v : Value} {key : List UInt8}
end
end Go.Proofs.YtbhohohgojcapaaGreat

namespace Go.Proofs.YtbhohohgojcapaaGreat
open Go.RowKit
section
variable {w : World} {S T : Nat -> Prop} {p q mx dx my dy : Nat} {g : Gc} {KA : Option Addr} {kn kc : Nat}
end
end Go.Proofs.YtbhohohgojcapaaGreat
namespace Go.Proofs.YtbhohohgojcapaaGreat
open Go.RowKit
def hNd : Nd := ⟨0, [], 0, [[107]], [[118]], []⟩
def hA3 : Ar := ⟨3, [⟨2, hNd⟩], 1⟩
def hGc : Nat -> Gc
 | 0 => Gc.new [107]
 | k + 1 => (stepG hA3 (hGc k)).2
theorem hGc_go : ∀ k, k < 4 -> (stepG hA3 (hGc k)).1 = (false, false)
 | 0, _ => rfl | 1, _ => rfl | 2, _ => rfl | 3, _ => rfl
 | n + 4, h => by omega
theorem hGc_end : (stepG hA3 (hGc 4)).1 = (true, true) := rfl
theorem hGc_low : ∀ k, k <= 4 -> (hGc k).D.low
 | 0, _ => ⟨by decide, by decide, by decide, by decide⟩ | 1, _ => ⟨by decide, by decide, by decide, by decide⟩ | 2, _ => ⟨by decide, by decide, by decide, by decide⟩ | 3, _ => ⟨by decide, by decide, by decide, by decide⟩ | 4, _ => ⟨by decide, by decide, by decide, by decide⟩
 | n + 5, h => by omega
theorem hGc_out : (hGc 5).out = ⟨[118], true, 0⟩ := rfl
section
variable {w : World}
theorem heap_at {w : World} {N : Nat} {o : Obj} (h : N = w.heap.size) : (w.alloc o).heap[N]? = some o := by subst h; exact heap_alloc_new w o
theorem byts_at {w : World} {N : Nat} {x : UInt8} (h : w.heap[N]? = some (.cells #[bV x] 5 (1, 2))) : Byts w (λ b => b = N) (.slice (some ⟨N, 0, none⟩) 1 1) [x] := by
 refine ⟨some ⟨N, 0, none⟩, 1, rfl, by simp, by decide, λ _ => ⟨_, rfl, rfl, λ i y hy => ?_⟩⟩
 match i, hy with
 | 0, hy => cases hy; rw [add_lit]; exact cell_of_row _ _ 0 #[bV x] _ _ h
 | i + 1, hy => simp at hy
theorem txts_at {w : World} {S : Nat -> Prop} {N : Nat} {u : Value} {x : List UInt8} (h1 : Blk w N 23 #[u]) (h2 : Byts w S u x) : Txts w (λ b => b = N \/ S b) (.slice (some ⟨N, 0, none⟩) 1 1) [x] := by
 refine ⟨[u], ⟨some ⟨N, 0, none⟩, 1, rfl, by simp, by decide, λ _ => ⟨_, rfl, .inl rfl, λ i y hy => ?_⟩⟩, rfl, λ i a y ha hy => ?_⟩
 ·match i, hy with
  | 0, hy => cases hy; rw [add_lit, h1.cell]; rfl
  | i + 1, hy => simp at hy
 ·match i, ha, hy with
  | 0, ha, hy => cases ha; cases hy; exact h2.mono (λ _ _ h => .inr h)
  | i + 1, ha, hy => simp at ha
set_option maxRecDepth 100000 in
set_option maxHeartbeats 6400000 in
theorem head13 (w : World) : Calls Tryz.prog 8 #[] w λ e w' => e = .returned (.bool true) /\ Keeps Nob w w' := by
 have HBg := Hd_ (begunJ (n := 3) w (by decide) (by decide))
 unfold iV pV at *
 go_enter Tryz.func8, Tryz.ntmps8
 go_wp2_with fail
 refine HBg.out.mono ?_
 rintro e w1 ⟨b, p, q, rfl, hJ, hk⟩
 have HJ := Hd_ hJ
 have K : Hid (Keeps (From w.heap.size) w w1) := hk.mono (λ _ _ h => h.elim)
 have b0 := hJ.blk.cell 0
 unfold pV at b0
 clear hJ hk HBg
 have hcv : ∀ (w : World) (b : Nat) (C : Array Value) (n c : Nat), b = w.heap.size -> (convert 23 23 (.slice (some ⟨b, 0, none⟩) n c)).run Tryz.prog (w.alloc (.cells C 5)) = .ok (.slice (some ⟨b, 0, none⟩) n c) (w.alloc (.cells C 5 (C.size, C.size + 1))) := λ w b C n c hb => by
  subst hb; exact Lib.run_convert_bytes_const (P := Tryz.prog) w 23 5 C n c Tryz.underlying23 Tryz.underlying5
 have HCV := Hd_ hcv
 go_wp2_with fail
 refine (HJ.out.lockX (ix := 1) (wd := 0) (by unfold U64; decide)).mono ?_
 rintro e w2 ⟨rfl, hJ, hk⟩
 replace HJ : Hid (J w2 (From w.heap.size) b p q ⟨3, [⟨1, Nd.zero⟩], 1⟩ (ar0 3)) := hJ
 replace K := Hd_ (K.out.trans hk (λ _ _ h => h))
 clear hJ hk b0
 have b0 := HJ.out.blk.cell 0
 unfold pV at b0
 have lb := HJ.out.blk.lt
 go_wp2_with fail
 clear b0 hcv lb
 refine calls_at (λ w3 hw => ?_)
 have hk : Keeps Nob w2 w3 := by rw [hw]; exact (((Keeps.alloc _ _ _).alloc' _).alloc' _).alloc' _
 have h1 : w3.heap[w2.heap.size]? = some (.cells #[bV 107] 5 (1, 2)) := by
  rw [hw]
  exact ((((Keeps.alloc Nob _ _).alloc' _).alloc' _).block w2.heap.size (by simp) id).trans (heap_alloc_new w2 _)
 have h2 : Blk w3 (w2.heap.size + 1) 23 #[.slice (some ⟨w2.heap.size, 0, none⟩) 1 1] := by
  rw [hw]
  exact ((Blk.new' (by simp) _ _).alloc _).alloc _
 have h3 : w3.heap[w2.heap.size + 2]? = some (.cells #[bV 118] 5 (1, 2)) := by
  rw [hw]
  refine ((Keeps.alloc Nob _ _).block (w2.heap.size + 2) (by simp) id).trans ?_
  exact heap_at (by simp)
 have h4 : Blk w3 (w2.heap.size + 3) 23 #[.slice (some ⟨w2.heap.size + 2, 0, none⟩) 1 1] := by
  rw [hw]
  exact Blk.new' (by simp) _ _
 clear hw
 replace HJ := Hd_ (HJ.out.nob hk)
 replace K := Hd_ (K.out.trans hk (λ _ _ h => h.elim))
 have HBD : Hid (IsBd w3 (λ _ => True) (.slice (some ⟨w2.heap.size + 1, 0, none⟩) 1 1) (.slice (some ⟨w2.heap.size + 3, 0, none⟩) 1 1) (.slice none 0 0) hNd) := ⟨(txts_at h2 (byts_at h1)).mono (λ _ _ _ => trivial), (txts_at h4 (byts_at h3)).mono (λ _ _ _ => trivial), SlR.nil _ _ _ _ (by decide)⟩
 clear hk h1 h2 h3 h4
 refine (HJ.out.setBodyX (ix := 1) HBD.out ?_).mono ?_
 ·refine ⟨by unfold Sm; decide, ⟨by unfold Sm; decide, ?_⟩, ⟨by unfold Sm; decide, ?_⟩, by unfold Sm; decide⟩ <;> (intro x hx; simp [hNd] at hx; subst hx; unfold Sm; decide)
 rintro e w4 ⟨rfl, hJ, hk⟩
 replace HJ : Hid (J w4 (From w.heap.size) b p q ⟨3, [⟨1, hNd⟩], 1⟩ (ar0 3)) := hJ
 replace K := Hd_ (K.out.trans hk (λ _ _ h => h))
 clear hJ hk HBD
 have b0 := HJ.out.blk.cell 0
 unfold pV at b0
 go_wp2_with fail
 clear b0
 refine (HJ.out.unlockX (ix := 1) (c := true)).mono ?_
 rintro e w5 ⟨rfl, hJ, hk⟩
 replace HJ : Hid (J w5 (From w.heap.size) b p q hA3 (ar0 3)) := hJ
 replace K := Hd_ (K.out.trans hk (λ _ _ h => h))
 clear hJ hk
 have b0 := HJ.out.blk.cell 0
 unfold pV at b0
 have hcv := HCV.out
 go_wp2_with fail
 clear b0 hcv HCV
 refine calls_at (λ w6 hw => ?_)
 have hk : Keeps Nob w5 w6 := by rw [hw]; exact Keeps.alloc _ _ _
 have HBy : Hid (Byts w6 (λ b => b = w5.heap.size) (.slice (some ⟨w5.heap.size, 0, none⟩) 1 1) [107]) := by show Byts _ _ _ _; rw [hw]; exact byts_at (heap_alloc_new w5 _)
 clear hw
 replace HJ := Hd_ (HJ.out.nob hk)
 replace K := Hd_ (K.out.trans hk (λ _ _ h => h.elim))
 clear hk
 refine (getNewX (p := p) HBy.out (by unfold Sm; decide)).mono ?_
 rintro e w7 ⟨m, d, rfl, hf, hf2, hX, hk⟩
 have HM : Hid (w.heap.size <= m /\ w.heap.size <= d) := ⟨Nat.le_trans K.out.size hf.1, Nat.le_trans K.out.size hf2.1⟩
 have HP0 : Hid (∃ G' S', J w7 G' b p q hA3 (ar0 3) /\ (∀ x, x = m \/ x = d \/ S' x -> ¬ G' x) /\ GX w7 m d p S' (hGc 0) /\ Keeps (From w.heap.size) w w7) := ⟨_, _, HJ.out.shr hk (λ _ _ _ h => h), λ x hx hg => hg.2 (by rcases hx with rfl | rfl | hx; exact hf; exact hf2; exact hx.1), hX, K.out.trans hk (λ _ _ h => h.elim)⟩
 clear hf hf2 hX hk HBy HJ K
 unfold pV
 go_wp2
 go_loopw [4] (λ i wr => ∃ k : Nat, k <= 4 /\ i = .int .i64 k /\ ∃ G' S', J wr G' b p q hA3 (ar0 3) /\ (∀ x, x = m \/ x = d \/ S' x -> ¬ G' x) /\ GX wr m d p S' (hGc k) /\ Keeps (From w.heap.size) w wr) (λ i _ => 4 - (intOf i).toNat)
 case atStart => exact ⟨0, Nat.zero_le _, rfl, HP0.out⟩
 obtain ⟨k, hk, rfl, G', S', hJ, hoff, hX, hkk⟩ := hrel
 have HJ := Hd_ hJ
 have HOFF := Hd_ hoff
 have HX := Hd_ hX
 have K := Hd_ hkk
 clear hJ hX hkk hoff
 rcases Nat.lt_or_ge k 4 with hlt | hlt
 ·have hgo := hGc_go k hlt
  have FS := stepGX HJ.out HOFF.out HX.out (hGc_low k hk)
  rw [hgo] at FS
  unfold pV at FS
  go_wp2_with (go_at_call 17; refine FS.mono ?_; rintro e w4 ⟨rfl, hX, hkk⟩; have HP : Hid (∃ G' S', J w4 G' b p q hA3 (ar0 3) /\ (∀ x, x = m \/ x = d \/ S' x -> ¬ G' x) /\ GX w4 m d p S' (hGc (k + 1)) /\ Keeps (From w.heap.size) w w4) := ⟨_, _, HJ.out.shr hkk (λ x _ hg h => HOFF.out x (h.imp id .inl) hg), λ x hx hg => (by rcases hx with h | h | h | h; exact HOFF.out x (.inl h) hg.1; exact HOFF.out x (.inr (.inl h)) hg.1; exact HOFF.out x (.inr (.inr h)) hg.1; exact hg.2 h), hX, K.out.trans hkk (λ x hx e => by have h := HM.out; rcases e with e | e; rw [e]; exact h.1; rw [e]; exact h.2)⟩; clear hX hkk)
  go_roundw
  case rel => exact ⟨k + 1, by omega, by go_num, HP.out⟩
  case measure => simp [intOf]; omega
 obtain rfl : k = 4 := by omega
 clear hk hlt HP0
 have FS := stepGX HJ.out HOFF.out HX.out (hGc_low 4 (by decide))
 rw [hGc_end] at FS
 unfold pV at FS
 go_wp2_with fail
 refine FS.mono ?_
 rintro e w8 ⟨rfl, hX, hkk⟩
 clear FS
 have HX5 := Hd_ hX
 replace K := Hd_ (K.out.trans hkk (λ x hx e => by have h := HM.out; rcases e with e | e; rw [e]; exact h.1; rw [e]; exact h.2))
 clear hX hkk
 have FA := answerGX HX5.out
 rw [show (stepG hA3 (hGc 4)).2 = hGc 5 from rfl, hGc_out] at FA
 unfold pV iV at FA
 replace FA : Calls _ _ _ _ (λ e w' => ∃ VA vc, e = .returned (.tuple #[.slice VA (1 : Nat) vc, .bool true, .int .i64 0]) /\ OBy w' (Fresh w8 w') (.slice VA (1 : Nat) vc) [118] /\ Keeps Nob w8 w') := FA
 go_wp2_with fail
 refine FA.mono ?_
 rintro e w9 ⟨VA, vc, rfl, hO, hk⟩
 clear FA
 have t1 : (convert 23 9 (.slice VA (1 : Nat) vc)).run Tryz.prog w9 = .ok (.string ⟨#[118]⟩) w9 := run_str hO.r
 replace K := Hd_ (K.out.trans hk (λ _ _ h => h.elim))
 clear hk hO
 go_wp2
 go_ret
 exact ⟨rfl, K.out.mono (λ x hx h => absurd hx (Nat.not_lt.2 h))⟩
end
end Go.Proofs.YtbhohohgojcapaaGreat

namespace Go.Proofs.YtbhohohgojcapaaGreat
open Go.RowKit
def confOk (c0 c1 c2 c3 c4 : Int) : Bool := decide (1 <= c0 /\ c0 <= 65536) && (decide (2 <= c1 /\ c1 <= 64) && (decide (3 <= c2 /\ c2 <= 64) && (decide (1 <= c3 /\ c3 <= c1) && decide (1 <= c4 /\ c4 <= 64))))
def confE (c0 c1 c2 c3 c4 : Int) : Int := if confOk c0 c1 c2 c3 c4 then 0 else 1
set_option maxRecDepth 100000 in
set_option maxHeartbeats 1000000 in
theorem confR (c0 c1 c2 c3 c4 : Int) (w : World) : Calls Tryz.prog 93 #[.agg #[.int .i64 c0, .int .i64 c1, .int .i64 c2, .int .i64 c3, .int .i64 c4]] w λ e w' => e = .returned (.int .i64 (confE c0 c1 c2 c3 c4)) /\ Keeps Nob w w' := by
 generalize hE : confE c0 c1 c2 c3 c4 = E
 have HE := Hd_ hE
 clear hE
 go_enter Tryz.func93, Tryz.ntmps93
 go_wp2
 all_goals
  go_ret
  refine ⟨?_, Keeps.alloc _ _ _⟩
  rw [<- HE.out]
  unfold confE confOk
  clear HE
  simp
  omega
end Go.Proofs.YtbhohohgojcapaaGreat

namespace Go.Proofs.YtbhohohgojcapaaGreat
open Go.RowKit
section
variable {S T : Nat -> Prop} {w : World} {a : Value} {ls : List (List UInt8)}
end
end Go.Proofs.YtbhohohgojcapaaGreat

namespace Go.Proofs.YtbhohohgojcapaaGreat
open Go.RowKit
section
variable {S T : Nat -> Prop} {w : World} {a : Value} {ls : List (List UInt8)}
def keyBad (high x : List UInt8) : Bool := !(decide ((1 : Int) <= (x.length : Int) /\ (x.length : Int) <= 64)) || beyond high x
def valBad (x : List UInt8) : Bool := decide ((256 : Int) < (x.length : Int))
end
end Go.Proofs.YtbhohohgojcapaaGreat

namespace Go.Proofs.YtbhohohgojcapaaGreat
open Go.RowKit Go.Maps
def leafOk (n : Nd) (leaf : Int) : Bool := decide (n.vals.length = n.keys.length) && (decide ((n.keys.length : Int) <= leaf) && (decide (n.kids.length = 0) && !(n.vals.any valBad)))
def kidsFine (l : List Int) (nodes : Int) : Bool := decide (l.Nodup) && l.all (λ k => decide (1 <= k /\ k <= nodes))
def innerOk (n : Nd) (nodes inner : Int) : Bool := kidsFine n.kids nodes && (decide (n.vals.length = 0) && (decide (n.kids.length = n.keys.length + 1) && decide ((n.kids.length : Int) <= inner)))
section
variable {S T : Nat -> Prop} {w : World} {c0 c1 c2 c3 c4 c5 : Value} {n : Nd}
end
end Go.Proofs.YtbhohohgojcapaaGreat

namespace Go.Proofs.YtbhohohgojcapaaGreat
open Go.RowKit Go.Maps
theorem take_snocC {α : Type} (l : List α) (k : Nat) (x : α) (h : l[k]? = some x) : l.take (k + 1) = l.take k ++ [x] := by
 rw [List.take_add_one, h]; rfl
def Met (D : DataW Unit) (l : List Int) : Prop := IsMap D /\ ∀ x : Int, D.atKey (.int .i64 x) (.lit (.int .i64 0)) = .lit (.int .i64 (if x ∈ l then 1 else 0))
theorem Met.nil : Met (.map []) [] := ⟨isMap_empty, λ x => by simp; rfl⟩
theorem key_int (x : Int) : WideAt.IsKeyLit (.int .i64 x) := by simp [WideAt.IsKeyLit]
theorem Met.step {D : DataW Unit} {l : List Int} (h : Met D l) (x : Int) : Met (D.put (.int .i64 x) (.lit (.int .i64 1))) (l ++ [x]) := by
 refine ⟨h.1.put _ _, λ y => ?_⟩
 by_cases hy : y = x
 ·subst hy
  rw [atKey_put_same h.1 (key_int y)]
  simp
 ·rw [atKey_put_other (by intro e; injection e with _ e; exact hy e), h.2 y]
  simp [hy]
theorem nodup_snoc {l : List Int} {x : Int} (h : l.Nodup) (hx : x ∉ l) : (l ++ [x]).Nodup := by
 rw [List.nodup_append]
 refine ⟨h, by simp, λ a ha b hb => ?_⟩
 simp at hb; subst hb
 intro e; subst e; exact hx ha
theorem kidsFine_false {l : List Int} {nodes : Int} (h : ¬ (l.Nodup /\ ∀ k ∈ l, 1 <= k /\ k <= nodes)) : kidsFine l nodes = false := by
 cases hb : kidsFine l nodes with
 | false => rfl
 | true =>
  unfold kidsFine at hb
  simp only [Bool.and_eq_true, decide_eq_true_eq, List.all_eq_true] at hb
  exact absurd hb h
theorem kidsFine_true {l : List Int} {nodes : Int} (h1 : l.Nodup) (h2 : ∀ k ∈ l, 1 <= k /\ k <= nodes) : kidsFine l nodes = true := by
 unfold kidsFine
 simp only [Bool.and_eq_true, decide_eq_true_eq, List.all_eq_true]
 exact ⟨h1, h2⟩
section
variable {S T : Nat -> Prop} {w : World} {c0 c1 c2 c3 c4 c5 : Value} {n : Nd}
end
end Go.Proofs.YtbhohohgojcapaaGreat

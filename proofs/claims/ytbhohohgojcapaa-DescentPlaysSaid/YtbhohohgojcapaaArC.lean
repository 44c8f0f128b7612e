/- What the methods Head, Body, SetHead and SetBody of the program's arena do. -/
import Derived.Test.YtbhohohgojcapaaArB
namespace Go.Proofs.Ytbhohohgojcapaa
open Go.RowKit

theorem field_hd (a0 a1 a2 a3 a4 a5 : Value) (w : World) : (Instr.field 37 (.agg #[a0, a1, a2, a3, a4, a5]) 0).run Try.prog w = .ok (.agg #[a0, a1, a2]) w := by kernel_rfl
theorem field_bd (a0 a1 a2 a3 a4 a5 : Value) (w : World) : (Instr.field 37 (.agg #[a0, a1, a2, a3, a4, a5]) 1).run Try.prog w = .ok (.agg #[a3, a4, a5]) w := by kernel_rfl

section
variable {A : Ar} {ix : Int} {s : Sl}
theorem opErr_none (h : A.get ix = none) : opErr A ix = 101 := by unfold opErr; rw [h]
theorem opErr_some (h : A.get ix = some s) : opErr A ix = 0 := by unfold opErr; rw [h]
theorem opNd_none (h : A.get ix = none) : opNd A ix = Nd.zero := by unfold opNd; rw [h]
theorem opNd_some (h : A.get ix = some s) : opNd A ix = s.nd := by unfold opNd; rw [h]
theorem opWord_none (h : A.get ix = none) : opWord A ix = 0 := by unfold opWord; rw [h]
theorem opWord_some (h : A.get ix = some s) : opWord A ix = s.word := by unfold opWord; rw [h]
end

section
variable {M D : Nat → Prop} {w : World} {p : Nat} {slots : Value} {ids : List Nat} {A : Ar} {ix : Int}

set_option maxRecDepth 100000 in
set_option maxHeartbeats 800000 in
theorem headX (h : ArW w M D p slots ids A) (hsm : ∀ s ∈ A.sl, NdSm 0 s.nd) : Calls Try.prog 17 #[pV p, iV ix] w fun e w' => ∃ d0 d1 d2, e = .returned (.tuple #[.agg #[d0, d1, d2], iV (opErr A ix)]) ∧ OHd w' (Fresh w w') d0 d1 d2 (opNd A ix) ∧ Keeps Nob w w' := by
  cases hg : A.get ix with
  | none =>
    rw [opErr_none hg, opNd_none hg]
    have HA := Lib.hid h
    have HG := Lib.hid hg
    clear h hg hsm
    unfold pV iV
    go_enter Try.func17, Try.ntmps17
    go_wp2_with fail
    refine calls_at (fun wa hw => ?_)
    have hk : Keeps Nob w wa := by rw [hw]; exact Keeps.alloc _ _ _
    have hb : Blk wa w.heap.size 33 #[.int .i64 0, .slice none 0 0, .int .i64 0] := by rw [hw]; exact Blk.new _ _ _
    have H := Lib.hid (at_out (HA.out.keeps hk (fun _ _ _ => id) (fun _ _ _ => id)) (get_none HG.out))
    have HK := Lib.hid hk
    have HB := Lib.hid hb
    have q := fun i => hb.cell i
    have g := fun i => hb.frozen i
    have l := hb.lt
    clear hw hk hb
    unfold pV iV at H
    refine H.out.mono ?_
    rintro e w' ⟨rfl, rfl⟩
    go_wp2
    refine post_at (fun wb hw => ?_)
    have hk : Keeps (fun b => b = w.heap.size) wa wb := by rw [hw]; exact ((Keeps.setCell _ (M := fun b => b = w.heap.size) rfl _).setCell' (fun _ => rfl) _).setCell' (fun _ => rfl) _
    have hb : Blk wb w.heap.size 33 #[.int .i64 0, .slice none 0 0, .int .i64 0] := by rw [hw]; exact ((HB.out.set_ 0 _).set_ 1 _).set_ 2 _
    clear hw q g l
    have r0 := hb.cell 0
    have r1 := hb.cell 1
    have r2 := hb.cell 2
    refine bodyPost_ret (v := .tuple #[.agg #[.int .i64 0, .slice none 0 0, .int .i64 0], .int .i64 101]) (by simp [results, Try.results17, go_sem, r0, r1, r2]) rfl ⟨_, _, _, rfl, (ONd.zero _ _).1, HK.out.trans hk (fun b hb e => by have h2 : b = _ := e; omega)⟩
  | some s =>
    rw [opErr_some hg, opNd_some hg]
    obtain ⟨i, b, hid, hs, hi, hb⟩ := h.at_ hg
    have hS := hsm s (List.mem_of_getElem? hs)
    obtain ⟨c0, c1, c2, c3, c4, c5, hblk, hnd, _⟩ := h.blkOf hb hs
    obtain ⟨X1, k1, e1, _, _⟩ := hnd.1.high.form
    have e0 := hnd.1.lvl
    have e2 := hnd.1.right
    unfold iV at e0 e2
    subst e0 e1 e2
    have HS : Hid (NdSm 0 s.nd) := hS
    have HA := Lib.hid h
    have HID : Hid (ix = (i : Int) + 1) := hid
    have HBI : Hid (ids[i]? = some b) := hb
    have HBK := Lib.hid hblk
    have HN := Lib.hid hnd
    clear h hg hsm hS hid hs hi hb hblk hnd
    unfold pV iV
    go_enter Try.func17, Try.ntmps17
    go_wp2_with fail
    refine calls_at (fun wa hw => ?_)
    have hk : Keeps Nob w wa := by rw [hw]; exact Keeps.alloc _ _ _
    have BR : Hid (Blk wa w.heap.size 33 #[.int .i64 0, .slice none 0 0, .int .i64 0]) := by rw [hw]; exact Blk.new _ _ _
    have H := Lib.hid (at_in (HA.out.keeps hk (fun _ _ _ => id) (fun _ _ _ => id)) HID.out HBI.out)
    replace HBK := Lib.hid (HBK.out.keeps hk id)
    replace HN := Lib.hid (HN.out.keeps hk (fun _ _ _ => id))
    have K := Lib.hid hk
    have sza := hk.size
    have ltR := BR.out.lt
    clear hw hk HA HID HBI
    unfold pV iV at H
    refine H.out.mono ?_
    rintro e w' ⟨rfl, rfl⟩
    have q := fun i => HBK.out.cell i
    have l := HBK.out.lt
    go_wp2_with fail
    clear q l
    refine (cloneP (n := (⟨s.nd.lvl, s.nd.high, s.nd.right, [], [], []⟩ : Nd)) (S := D) ⟨⟨rfl, HN.out.1.high, rfl⟩, ⟨[], SlR.nil _ _ _ _ (by decide), rfl, fun i u x h => by simp at h⟩, ⟨[], SlR.nil _ _ _ _ (by decide), rfl, fun i u x h => by simp at h⟩, SlR.nil _ _ _ _ (by decide)⟩ ⟨HS.out.1, ⟨by simp [Sm], fun x hx => by simp at hx⟩, ⟨by simp [Sm], fun x hx => by simp at hx⟩, by simp [Sm]⟩).mono ?_
    rintro e wb ⟨d0, d1, d2, d3, d4, d5, rfl, hO, hk, _⟩
    have f0 := hO.1.lvl
    obtain ⟨Y1, j1, f1⟩ := Own.form hO.1.high
    have f2 := hO.1.right
    unfold iV at f0 f2
    subst f0 f1 f2
    replace BR := Lib.hid (BR.out.keeps hk id)
    replace K := Lib.hid (K.out.trans hk (fun _ _ h => h))
    have szb := hk.size
    have HO := Lib.hid hO
    clear hO hk
    have q := fun i => BR.out.cell i
    have g := fun i => BR.out.frozen i
    have l := BR.out.lt
    have hfd := field_hd
    go_wp2
    clear hfd
    refine post_at (fun wc hw => ?_)
    have hk : Keeps (fun b => b = w.heap.size) wb wc := by rw [hw]; exact ((Keeps.setCell _ (M := fun b => b = w.heap.size) rfl _).setCell' (fun _ => rfl) _).setCell' (fun _ => rfl) _
    have hb : Blk wc w.heap.size 33 #[.int .i64 s.nd.lvl, .slice Y1 s.nd.high.length j1, .int .i64 s.nd.right] := by rw [hw]; exact ((BR.out.set_ 0 _).set_ 1 _).set_ 2 _
    clear hw q g l
    have r0 := hb.cell 0
    have r1 := hb.cell 1
    have r2 := hb.cell 2
    have szc := hk.size
    have ha : Apart 33 := ⟨by decide, by decide, by decide⟩
    refine bodyPost_ret (v := .tuple #[.agg #[.int .i64 s.nd.lvl, .slice Y1 s.nd.high.length j1, .int .i64 s.nd.right], .int .i64 0]) (by simp [results, Try.results17, go_sem, r0, r1, r2]) rfl ⟨_, _, _, rfl, ⟨rfl, ?_, rfl⟩, K.out.trans hk (fun b hb e => by have h2 : b = _ := e; omega)⟩
    · exact (HO.out.1.high.keepsB BR.out ha hk).mono (fun b _ hb => ⟨by have := hb.1; omega, by have := hb.2; omega⟩)

set_option maxRecDepth 100000 in
set_option maxHeartbeats 800000 in
theorem bodyX (h : ArW w M D p slots ids A) (hsm : ∀ s ∈ A.sl, NdSm 0 s.nd) : Calls Try.prog 18 #[pV p, iV ix] w fun e w' => ∃ d0 d1 d2, e = .returned (.tuple #[.agg #[d0, d1, d2], iV (opErr A ix)]) ∧ OBd w' (Fresh w w') d0 d1 d2 (opNd A ix) ∧ Keeps Nob w w' := by
  cases hg : A.get ix with
  | none =>
    rw [opErr_none hg, opNd_none hg]
    have HA := Lib.hid h
    have HG := Lib.hid hg
    clear h hg hsm
    unfold pV iV
    go_enter Try.func18, Try.ntmps18
    go_wp2_with fail
    refine calls_at (fun wa hw => ?_)
    have hk : Keeps Nob w wa := by rw [hw]; exact Keeps.alloc _ _ _
    have hb : Blk wa w.heap.size 35 #[.slice none 0 0, .slice none 0 0, .slice none 0 0] := by rw [hw]; exact Blk.new _ _ _
    have H := Lib.hid (at_out (HA.out.keeps hk (fun _ _ _ => id) (fun _ _ _ => id)) (get_none HG.out))
    have HK := Lib.hid hk
    have HB := Lib.hid hb
    have q := fun i => hb.cell i
    have g := fun i => hb.frozen i
    have l := hb.lt
    clear hw hk hb
    unfold pV iV at H
    refine H.out.mono ?_
    rintro e w' ⟨rfl, rfl⟩
    go_wp2
    refine post_at (fun wb hw => ?_)
    have hk : Keeps (fun b => b = w.heap.size) wa wb := by rw [hw]; exact ((Keeps.setCell _ (M := fun b => b = w.heap.size) rfl _).setCell' (fun _ => rfl) _).setCell' (fun _ => rfl) _
    have hb : Blk wb w.heap.size 35 #[.slice none 0 0, .slice none 0 0, .slice none 0 0] := by rw [hw]; exact ((HB.out.set_ 0 _).set_ 1 _).set_ 2 _
    clear hw q g l
    have r0 := hb.cell 0
    have r1 := hb.cell 1
    have r2 := hb.cell 2
    refine bodyPost_ret (v := .tuple #[.agg #[.slice none 0 0, .slice none 0 0, .slice none 0 0], .int .i64 101]) (by simp [results, Try.results18, go_sem, r0, r1, r2]) rfl ⟨_, _, _, rfl, (ONd.zero _ _).2, HK.out.trans hk (fun b hb e => by have h2 : b = _ := e; omega)⟩
  | some s =>
    rw [opErr_some hg, opNd_some hg]
    obtain ⟨i, b, hid, hs, hi, hb⟩ := h.at_ hg
    have hS := hsm s (List.mem_of_getElem? hs)
    obtain ⟨c0, c1, c2, c3, c4, c5, hblk, hnd, _⟩ := h.blkOf hb hs
    obtain ⟨X3, k3, e3, _, _⟩ := hnd.2.keys.form
    obtain ⟨X4, k4, e4, _, _⟩ := hnd.2.vals.form
    obtain ⟨X5, k5, e5, _, _⟩ := hnd.2.kids.form
    subst e3 e4 e5
    have HS : Hid (NdSm 0 s.nd) := hS
    have HA := Lib.hid h
    have HID : Hid (ix = (i : Int) + 1) := hid
    have HBI : Hid (ids[i]? = some b) := hb
    have HBK := Lib.hid hblk
    have HN := Lib.hid hnd
    clear h hg hsm hS hid hs hi hb hblk hnd
    unfold pV iV
    go_enter Try.func18, Try.ntmps18
    go_wp2_with fail
    refine calls_at (fun wa hw => ?_)
    have hk : Keeps Nob w wa := by rw [hw]; exact Keeps.alloc _ _ _
    have BR : Hid (Blk wa w.heap.size 35 #[.slice none 0 0, .slice none 0 0, .slice none 0 0]) := by rw [hw]; exact Blk.new _ _ _
    have H := Lib.hid (at_in (HA.out.keeps hk (fun _ _ _ => id) (fun _ _ _ => id)) HID.out HBI.out)
    replace HBK := Lib.hid (HBK.out.keeps hk id)
    replace HN := Lib.hid (HN.out.keeps hk (fun _ _ _ => id))
    have K := Lib.hid hk
    have sza := hk.size
    have ltR := BR.out.lt
    clear hw hk HA HID HBI
    unfold pV iV at H
    refine H.out.mono ?_
    rintro e w' ⟨rfl, rfl⟩
    have q := fun i => HBK.out.cell i
    have l := HBK.out.lt
    go_wp2_with fail
    clear q l
    refine (cloneP (n := (⟨0, [], 0, s.nd.keys, s.nd.vals, s.nd.kids⟩ : Nd)) (S := D) ⟨⟨rfl, SlR.nil _ _ _ _ (by decide), rfl⟩, ⟨HN.out.2.keys, HN.out.2.vals, HN.out.2.kids⟩⟩ ⟨by simp [Sm], HS.out.2⟩).mono ?_
    rintro e wb ⟨d0, d1, d2, d3, d4, d5, rfl, hO, hk, _⟩
    obtain ⟨Y3, j3, f3⟩ := OTx.form hO.2.keys
    obtain ⟨Y4, j4, f4⟩ := OTx.form hO.2.vals
    obtain ⟨Y5, j5, f5⟩ := Own.form hO.2.kids
    subst f3 f4 f5
    replace BR := Lib.hid (BR.out.keeps hk id)
    replace K := Lib.hid (K.out.trans hk (fun _ _ h => h))
    have szb := hk.size
    have HO := Lib.hid hO
    clear hO hk
    have q := fun i => BR.out.cell i
    have g := fun i => BR.out.frozen i
    have l := BR.out.lt
    have hfd := field_bd
    go_wp2
    clear hfd
    refine post_at (fun wc hw => ?_)
    have hk : Keeps (fun b => b = w.heap.size) wb wc := by rw [hw]; exact ((Keeps.setCell _ (M := fun b => b = w.heap.size) rfl _).setCell' (fun _ => rfl) _).setCell' (fun _ => rfl) _
    have hb : Blk wc w.heap.size 35 #[.slice Y3 s.nd.keys.length j3, .slice Y4 s.nd.vals.length j4, .slice Y5 s.nd.kids.length j5] := by rw [hw]; exact ((BR.out.set_ 0 _).set_ 1 _).set_ 2 _
    clear hw q g l
    have r0 := hb.cell 0
    have r1 := hb.cell 1
    have r2 := hb.cell 2
    have szc := hk.size
    have ha : Apart 35 := ⟨by decide, by decide, by decide⟩
    refine bodyPost_ret (v := .tuple #[.agg #[.slice Y3 s.nd.keys.length j3, .slice Y4 s.nd.vals.length j4, .slice Y5 s.nd.kids.length j5], .int .i64 0]) (by simp [results, Try.results18, go_sem, r0, r1, r2]) rfl ⟨_, _, _, rfl, ⟨?_, ?_, ?_⟩, K.out.trans hk (fun b hb e => by have h2 : b = _ := e; omega)⟩
    · exact (HO.out.2.keys.keepsB BR.out ha hk).mono (fun b _ hb => ⟨by have := hb.1; omega, by have := hb.2; omega⟩)
    · exact (HO.out.2.vals.keepsB BR.out ha hk).mono (fun b _ hb => ⟨by have := hb.1; omega, by have := hb.2; omega⟩)
    · exact (HO.out.2.kids.keepsB BR.out ha hk).mono (fun b _ hb => ⟨by have := hb.1; omega, by have := hb.2; omega⟩)

set_option maxRecDepth 100000 in
set_option maxHeartbeats 800000 in
theorem setHeadX {S : Nat → Prop} {a0 a1 a2 : Value} {n : Nd} (h : ArW w M D p slots ids A) (hh : IsHd w S a0 a1 a2 n) (hsm : NdSm 0 n) : Calls Try.prog 50 #[pV p, iV ix, .agg #[a0, a1, a2]] w fun e w' => e = .returned (iV (opSetHead A ix n).1) ∧ ArW w' M (DF D w w') p slots ids (opSetHead A ix n).2 ∧ Keeps M w w' := by
  obtain ⟨X1, k1, e1, _, _⟩ := hh.high.form
  have e0 := hh.lvl
  have e2 := hh.right
  unfold iV at e0 e2
  subst e0 e1 e2
  rcases held_cases A ix with ⟨h0, s, hg, he⟩ | ⟨hn, hn'⟩
  · obtain ⟨i, b, hid, hs, hi, hb⟩ := h.at_ hg
    have hx : opSetHead A ix n = (0, A.put ix ⟨s.word, withHd s.nd n⟩) := by unfold opSetHead; rw [hg]; simp [he]
    rw [hx]
    have HA := Lib.hid h
    have HI := Lib.hid hi
    have HID : Hid (ix = (i : Int) + 1) := hid
    have HBI : Hid (ids[i]? = some b) := hb
    have HSI : Hid (A.sl[i]? = some s) := hs
    have HE : Hid (¬ s.word % 2 = 0) := he
    have HM : Hid (M b) := h.mids b (List.mem_of_getElem? hb)
    have HN := Lib.hid hh
    have HS : Hid (NdSm 0 n) := hsm
    clear h h0 hg he hid hs hi hb hx hh hsm
    unfold pV iV
    go_enter Try.func50, Try.ntmps50
    go_wp2_with fail
    refine calls_at (fun wa hw => ?_)
    have hk : Keeps Nob w wa := by rw [hw]; exact Keeps.alloc _ _ _
    have BR : Hid (Blk wa w.heap.size 33 #[.int .i64 n.lvl, .slice X1 n.high.length k1, .int .i64 n.right]) := by rw [hw]; exact Blk.new _ _ _
    have H := Lib.hid (under_yes (HA.out.keeps hk (fun _ _ _ => id) (fun _ _ _ => id)) HID.out HSI.out HBI.out HE.out)
    replace HN := Lib.hid (HN.out.keeps hk (fun _ _ _ => id))
    have K := Lib.hid hk
    have sza := hk.size
    have ltR := BR.out.lt
    clear hw hk HE
    unfold pV iV at H
    refine H.out.mono ?_
    rintro e w' ⟨rfl, rfl⟩
    have q := fun i => BR.out.cell i
    go_wp2_with fail
    clear q
    refine (cloneP (n := (⟨n.lvl, n.high, n.right, [], [], []⟩ : Nd)) (S := S) ⟨⟨rfl, HN.out.high, rfl⟩, ⟨[], SlR.nil _ _ _ _ (by decide), rfl, fun i u x h => by simp at h⟩, ⟨[], SlR.nil _ _ _ _ (by decide), rfl, fun i u x h => by simp at h⟩, SlR.nil _ _ _ _ (by decide)⟩ ⟨HS.out.1, ⟨by simp [Sm], fun x hx => by simp at hx⟩, ⟨by simp [Sm], fun x hx => by simp at hx⟩, by simp [Sm]⟩).mono ?_
    rintro e wb ⟨d0, d1, d2, d3, d4, d5, rfl, hO, hk, _⟩
    have f0 := hO.1.lvl
    obtain ⟨Y1, j1, f1⟩ := Own.form hO.1.high
    have f2 := hO.1.right
    unfold iV at f0 f2
    subst f0 f1 f2
    replace K := Lib.hid (K.out.trans hk (fun _ _ h => h))
    have szb := hk.size
    have HO := Lib.hid hO
    clear hO hk
    have hab := HA.out.grown K.out
    obtain ⟨c0, c1, c2, c3, c4, c5, hblk, hold, hu⟩ := hab.blkOf HBI.out HSI.out
    have HAB := Lib.hid hab
    have HBK := Lib.hid hblk
    have HOLD := Lib.hid hold
    have HU : Hid (U64 s.word) := hu
    clear hab hblk hold hu
    have q := fun i => HBK.out.cell i
    have g := fun i => HBK.out.frozen i
    have l := HBK.out.lt
    have hfd := field_hd
    go_wp2
    clear hfd
    refine post_at (fun wc hw => ?_)
    have hk : Keeps (fun x => x = b) wb wc := by rw [hw]; exact ((Keeps.setCell _ (M := fun x => x = b) rfl _).setCell' (fun _ => rfl) _).setCell' (fun _ => rfl) _
    have hb : Blk wc b 128 #[.int .u64 s.word, .int .i64 n.lvl, .slice Y1 n.high.length j1, .int .i64 n.right, c3, c4, c5] := by rw [hw]; exact ((HBK.out.set_ 1 _).set_ 2 _).set_ 3 _
    have hsz : wc.heap.size = wb.heap.size := by rw [hw]; simp
    clear hw q g l
    have ha : Apart 128 := ⟨by decide, by decide, by decide⟩
    have hold := HOLD.out.keeps hk (fun x _ hd e => by subst e; exact HAB.out.apart _ HM.out hd)
    have hsl : SlotAt wc (DF D w wb) b ⟨s.word, withHd s.nd n⟩ := by
      refine ⟨_, _, _, _, _, _, hb, ⟨⟨rfl, ?_, rfl⟩, hold.2.keys, hold.2.vals, hold.2.kids⟩, HU.out⟩
      · exact ((HO.out.1.high.keepsB HBK.out ha hk).mono (fun b _ hb => .inr ⟨by have := hb.1; omega, hb.2⟩) : OBy wc (DF D w wb) _ _).r
    have R := HAB.out.put HBI.out HSI.out hk hsl
    have hdf : DF D w wb = DF D w wc := by unfold DF Fresh; rw [hsz]
    rw [hdf] at R
    go_ret
    refine ⟨rfl, ?_, (K.out.mono (fun _ _ h => h.elim)).trans hk (fun b hb e => by have h2 : b = _ := e; subst h2; exact HM.out)⟩
    unfold Ar.put; rw [HI.out]; exact R
  · rw [opSetHead_no hn]
    have HA := Lib.hid h
    have HN : Hid (opHeld A ix ≠ 0) := hn
    have hn2 : (opHeld A ix == 0) = false := by simp [hn]
    have HU := fun (wq : World) (hq : Keeps Nob w wq) => Lib.hid (under_no (h.keeps hq (fun _ _ _ => id) (fun _ _ _ => id)) hn)
    clear h hn hn' hh hsm HN
    show Calls _ _ _ _ (fun e w' => e = .returned (iV (opHeld A ix)) ∧ ArW w' M (DF D w w') p slots ids A ∧ Keeps M w w')
    generalize opHeld A ix = o at *
    unfold pV iV at *
    go_enter Try.func50, Try.ntmps50
    go_wp2_with fail
    refine calls_at (fun wa hw => ?_)
    have hk : Keeps Nob w wa := by rw [hw]; exact Keeps.alloc _ _ _
    have H := HU wa hk
    have K := Lib.hid hk
    clear hw hk HU
    refine H.out.mono ?_
    rintro e w' ⟨rfl, rfl⟩
    go_wp2
    go_ret
    exact ⟨rfl, HA.out.grown K.out, K.out.mono (fun _ _ h => h.elim)⟩

set_option maxRecDepth 100000 in
set_option maxHeartbeats 800000 in
theorem setBodyX {S : Nat → Prop} {a0 a1 a2 : Value} {n : Nd} (h : ArW w M D p slots ids A) (hh : IsBd w S a0 a1 a2 n) (hsm : NdSm 0 n) : Calls Try.prog 52 #[pV p, iV ix, .agg #[a0, a1, a2]] w fun e w' => e = .returned (iV (opSetBody A ix n).1) ∧ ArW w' M (DF D w w') p slots ids (opSetBody A ix n).2 ∧ Keeps M w w' := by
  obtain ⟨X3, k3, e3, _, _⟩ := hh.keys.form
  obtain ⟨X4, k4, e4, _, _⟩ := hh.vals.form
  obtain ⟨X5, k5, e5, _, _⟩ := hh.kids.form
  subst e3 e4 e5
  rcases held_cases A ix with ⟨h0, s, hg, he⟩ | ⟨hn, hn'⟩
  · obtain ⟨i, b, hid, hs, hi, hb⟩ := h.at_ hg
    have hx : opSetBody A ix n = (0, A.put ix ⟨s.word, withHd n s.nd⟩) := by unfold opSetBody; rw [hg]; simp [he]
    rw [hx]
    have HA := Lib.hid h
    have HI := Lib.hid hi
    have HID : Hid (ix = (i : Int) + 1) := hid
    have HBI : Hid (ids[i]? = some b) := hb
    have HSI : Hid (A.sl[i]? = some s) := hs
    have HE : Hid (¬ s.word % 2 = 0) := he
    have HM : Hid (M b) := h.mids b (List.mem_of_getElem? hb)
    have HN := Lib.hid hh
    have HS : Hid (NdSm 0 n) := hsm
    clear h h0 hg he hid hs hi hb hx hh hsm
    unfold pV iV
    go_enter Try.func52, Try.ntmps52
    go_wp2_with fail
    refine calls_at (fun wa hw => ?_)
    have hk : Keeps Nob w wa := by rw [hw]; exact Keeps.alloc _ _ _
    have BR : Hid (Blk wa w.heap.size 35 #[.slice X3 n.keys.length k3, .slice X4 n.vals.length k4, .slice X5 n.kids.length k5]) := by rw [hw]; exact Blk.new _ _ _
    have H := Lib.hid (under_yes (HA.out.keeps hk (fun _ _ _ => id) (fun _ _ _ => id)) HID.out HSI.out HBI.out HE.out)
    replace HN := Lib.hid (HN.out.keeps hk (fun _ _ _ => id))
    have K := Lib.hid hk
    have sza := hk.size
    have ltR := BR.out.lt
    clear hw hk HE
    unfold pV iV at H
    refine H.out.mono ?_
    rintro e w' ⟨rfl, rfl⟩
    have q := fun i => BR.out.cell i
    go_wp2_with fail
    clear q
    refine (cloneP (n := (⟨0, [], 0, n.keys, n.vals, n.kids⟩ : Nd)) (S := S) ⟨⟨rfl, SlR.nil _ _ _ _ (by decide), rfl⟩, ⟨HN.out.keys, HN.out.vals, HN.out.kids⟩⟩ ⟨by simp [Sm], HS.out.2⟩).mono ?_
    rintro e wb ⟨d0, d1, d2, d3, d4, d5, rfl, hO, hk, _⟩
    obtain ⟨Y3, j3, f3⟩ := OTx.form hO.2.keys
    obtain ⟨Y4, j4, f4⟩ := OTx.form hO.2.vals
    obtain ⟨Y5, j5, f5⟩ := Own.form hO.2.kids
    subst f3 f4 f5
    replace K := Lib.hid (K.out.trans hk (fun _ _ h => h))
    have szb := hk.size
    have HO := Lib.hid hO
    clear hO hk
    have hab := HA.out.grown K.out
    obtain ⟨c0, c1, c2, c3, c4, c5, hblk, hold, hu⟩ := hab.blkOf HBI.out HSI.out
    have HAB := Lib.hid hab
    have HBK := Lib.hid hblk
    have HOLD := Lib.hid hold
    have HU : Hid (U64 s.word) := hu
    clear hab hblk hold hu
    have q := fun i => HBK.out.cell i
    have g := fun i => HBK.out.frozen i
    have l := HBK.out.lt
    have hfd := field_bd
    go_wp2
    clear hfd
    refine post_at (fun wc hw => ?_)
    have hk : Keeps (fun x => x = b) wb wc := by rw [hw]; exact ((Keeps.setCell _ (M := fun x => x = b) rfl _).setCell' (fun _ => rfl) _).setCell' (fun _ => rfl) _
    have hb : Blk wc b 128 #[.int .u64 s.word, c0, c1, c2, .slice Y3 n.keys.length j3, .slice Y4 n.vals.length j4, .slice Y5 n.kids.length j5] := by rw [hw]; exact ((HBK.out.set_ 4 _).set_ 5 _).set_ 6 _
    have hsz : wc.heap.size = wb.heap.size := by rw [hw]; simp
    clear hw q g l
    have ha : Apart 128 := ⟨by decide, by decide, by decide⟩
    have hold := HOLD.out.keeps hk (fun x _ hd e => by subst e; exact HAB.out.apart _ HM.out hd)
    have hsl : SlotAt wc (DF D w wb) b ⟨s.word, withHd n s.nd⟩ := by
      refine ⟨_, _, _, _, _, _, hb, ⟨⟨hold.1.lvl, hold.1.high, hold.1.right⟩, ?_, ?_, ?_⟩, HU.out⟩
      · exact ((HO.out.2.keys.keepsB HBK.out ha hk).mono (fun b _ hb => .inr ⟨by have := hb.1; omega, hb.2⟩) : OTx wc (DF D w wb) _ _).r
      · exact ((HO.out.2.vals.keepsB HBK.out ha hk).mono (fun b _ hb => .inr ⟨by have := hb.1; omega, hb.2⟩) : OTx wc (DF D w wb) _ _).r
      · exact ((HO.out.2.kids.keepsB HBK.out ha hk).mono (fun b _ hb => .inr ⟨by have := hb.1; omega, hb.2⟩) : OIn wc (DF D w wb) _ _).r
    have R := HAB.out.put HBI.out HSI.out hk hsl
    have hdf : DF D w wb = DF D w wc := by unfold DF Fresh; rw [hsz]
    rw [hdf] at R
    go_ret
    refine ⟨rfl, ?_, (K.out.mono (fun _ _ h => h.elim)).trans hk (fun b hb e => by have h2 : b = _ := e; subst h2; exact HM.out)⟩
    unfold Ar.put; rw [HI.out]; exact R
  · rw [opSetBody_no hn]
    have HA := Lib.hid h
    have HN : Hid (opHeld A ix ≠ 0) := hn
    have hn2 : (opHeld A ix == 0) = false := by simp [hn]
    have HU := fun (wq : World) (hq : Keeps Nob w wq) => Lib.hid (under_no (h.keeps hq (fun _ _ _ => id) (fun _ _ _ => id)) hn)
    clear h hn hn' hh hsm HN
    show Calls _ _ _ _ (fun e w' => e = .returned (iV (opHeld A ix)) ∧ ArW w' M (DF D w w') p slots ids A ∧ Keeps M w w')
    generalize opHeld A ix = o at *
    unfold pV iV at *
    go_enter Try.func52, Try.ntmps52
    go_wp2_with fail
    refine calls_at (fun wa hw => ?_)
    have hk : Keeps Nob w wa := by rw [hw]; exact Keeps.alloc _ _ _
    have H := HU wa hk
    have K := Lib.hid hk
    clear hw hk HU
    refine H.out.mono ?_
    rintro e w' ⟨rfl, rfl⟩
    go_wp2
    go_ret
    exact ⟨rfl, HA.out.grown K.out, K.out.mono (fun _ _ h => h.elim)⟩
end
end Go.Proofs.Ytbhohohgojcapaa

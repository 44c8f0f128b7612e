import Derived.Test.YtbhohohgojcapaaGreatPkC2
import Derived.Test.YtbhohohgojcapaaGreatPkC3
namespace Go.Proofs.YtbhohohgojcapaaGreat
open Go.RowKit
def nvR : Nx -> Value
 | .root => iV 0
 | .latch => iV 1
 | .head => iV 2
 | .body => iV 3
 | .valid => iV 4
 | .done => iV 5
section
variable {w : World} {G S : Nat -> Prop} {b p q m now : Nat} {A B : Ar} {M : Mc}
end
end Go.Proofs.YtbhohohgojcapaaGreat

set_option maxHeartbeats 64000000
namespace Go.Proofs.YtbhohohgojcapaaGreat
open Go.RowKit
section
variable {w : World} {G S : Nat -> Prop} {b p q m : Nat} {A B : Ar} {M : Mc}
theorem validX_ (hJ : J w G b p q A B) (hG : ¬ G m) (h : MX w m p S M) (hm : ¬ S m) (hlow : M.low) : Calls Tryz.prog 151 #[pV m] w λ e w' => e = .returned (iV (opErr A M.id)) /\ StX w w' m p S (if opErr A M.id = 0 then decideM (opWord A M.id) M else M) := by
 by_cases c1 : opErr A M.id = 0
 ·rw [if_pos c1]
  unfold decideM
  by_cases c2 : opWord A M.id = M.word
  ·rw [if_neg (λ h => h c2)]
   by_cases c3 : M.nd.lvl < M.level
   ·rw [if_pos c3, c1]; exact valid_over hJ hG h hm hlow c1 c2 c3
   ·rw [if_neg c3]
    by_cases c4 : beyond M.nd.high M.key = true
    ·rw [if_pos c4, c1]; exact valid_beyond hJ hG h hm hlow c1 c2 c3 c4
    ·rw [if_neg c4]
     by_cases c5 : M.nd.lvl = M.level
     ·rw [if_pos c5, c1]; exact valid_there hJ hG h hm hlow c1 c2 c3 c4 c5
     ·rw [if_neg c5, c1]; exact valid_child hJ hG h hm hlow c1 c2 c3 c4 c5
  ·rw [if_pos c2, c1]; exact valid_again hJ hG h hm hlow c1 c2
 ·rw [if_neg c1]; exact valid_err hJ hG h hm c1
theorem fne_nil (w : World) : (binOp .neq 176 .nilFunc .nilFunc).run Tryz.prog w = .ok (.bool false) w := by kernel_rfl
theorem fne_fun (w : World) (fn : Fn) (f c : Array Value) : (binOp .neq 176 (.func fn f c) .nilFunc).run Tryz.prog w = .ok (.bool true) w := by kernel_rfl
theorem feq_nil (w : World) : (binOp .eql 176 .nilFunc .nilFunc).run Tryz.prog w = .ok (.bool true) w := by kernel_rfl
theorem feq_fun (w : World) (fn : Fn) (f c : Array Value) : (binOp .eql 176 (.func fn f c) .nilFunc).run Tryz.prog w = .ok (.bool false) w := by kernel_rfl
theorem MW.next {nv : Nx -> Value} {t : TypeId} (h : MW w t m p nv S M) : w.cell? ⟨m, 3, none⟩ = some (nv M.nx) /\ w.frozen? ⟨m, 3, none⟩ = false /\ m < w.heap.size := by
 obtain ⟨kv, c0, c1, c2, c3, c4, c5, hb, hk, hn⟩ := h.cells
 exact ⟨hb.cell 3, hb.frozen 3, hb.lt⟩
theorem MW.setNext {nv : Nx -> Value} {t : TypeId} {n : Nx} {v : Value} (h : MW w t m p nv S M) (hm : ¬ S m) (hv : v = nv n) : MW (w.setCell ⟨m, 3, none⟩ v) t m p nv S { M with nx := n } := by
 subst hv
 obtain ⟨⟨kv, c0, c1, c2, c3, c4, c5, hb, hk, hn⟩, hu, hs⟩ := h
 have k : Keeps (λ x => x = m) w (w.setCell ⟨m, 3, none⟩ (nv n)) := Keeps.setCell w (M := λ x => x = m) rfl _
 exact ⟨⟨kv, c0, c1, c2, c3, c4, c5, hb.set_ 3 _, hk.keeps k (λ x _ hx e => hm (e ▸ hx)), hn.keeps k (λ x _ hx e => hm (e ▸ hx))⟩, hu, hs⟩
set_option maxRecDepth 100000 in
theorem step_root {err : Int} {M1 : Mc} (hn : M.nx = .root) (h : MX w m p S M) (hm : ¬ S m) (hC : Calls Tryz.prog 97 #[pV m] w λ e w' => e = .returned (iV err) /\ StX w w' m p S M1) :
  Calls Tryz.prog 47 #[pV m] w λ e w' => e = .returned (.bool (decide ((if err = 0 then M1 else { M1 with nx := .done }).nx = .done))) /\ StX w w' m p S (if err = 0 then M1 else { M1 with nx := .done }) := by
 obtain ⟨q3, g3, hlt⟩ := h.next
 rw [hn] at q3
 simp only [nvX] at q3
 have HC := Hd hC
 have HM : Hid (¬ S m) := hm
 have HLT := Hd hlt
 clear hC hm h hn hlt
 have f1 := fne_nil; have f2 := fne_fun; have f3 := feq_nil; have f4 := feq_fun
 unfold pV at *
 by_cases he : err = 0
 ·subst he
  rw [if_pos rfl]
  cases h1 : M1.nx
  all_goals
   go_enter Tryz.func47, Tryz.ntmps47
   go_wp2_with (go_at_call 97; refine HC.out.mono ?_; rintro e w1 ⟨rfl, ⟨S', hX, hsub⟩, hk⟩; clear q3 g3; have q3 := hX.next.1; have HX := Hd hX; have HSub := Hd hsub; have HK := Hd hk; clear hX hsub hk; rw [h1] at q3; simp only [nvX] at q3; unfold pV iV at *)
   go_ret
   exact ⟨by simp, ⟨S', HX.out, HSub.out⟩, HK.out⟩
 ·rw [if_neg he]
  have hef : (err == 0) = false := by simpa using he
  clear he
  go_enter Tryz.func47, Tryz.ntmps47
  have hsn : ∀ (a : Addr) (w : World), (store a .nilFunc).run Tryz.prog w = stored Tryz.prog w a .nilFunc .plain := λ a w => run_store Tryz.prog w a .nilFunc .plain rfl
  go_wp2_with (go_at_call 97; refine HC.out.mono ?_; rintro e w1 ⟨rfl, ⟨S', hX, hsub⟩, hk⟩; clear q3 g3; have q3 := hX.next.1; have g3 := hX.next.2.1; have HX := Hd hX; have HSub := Hd hsub; have HK := Hd hk; clear hX hsub hk; generalize nvX m M1.nx = nv at q3; unfold pV iV at *)
  go_ret
  refine ⟨by simp, ⟨S', HX.out.setNext (λ h => (HSub.out m h).elim HM.out (λ h => by have := h.1; have := HLT.out; omega)) rfl, λ x hx => (HSub.out x hx).imp id (λ h => ⟨h.1, by simpa using h.2⟩)⟩, HK.out.setCell' (λ _ => rfl) _⟩
set_option maxRecDepth 100000 in
theorem step_latch {err : Int} {M1 : Mc} (hn : M.nx = .latch) (h : MX w m p S M) (hm : ¬ S m) (hC : Calls Tryz.prog 126 #[pV m] w λ e w' => e = .returned (iV err) /\ StX w w' m p S M1) :
  Calls Tryz.prog 47 #[pV m] w λ e w' => e = .returned (.bool (decide ((if err = 0 then M1 else { M1 with nx := .done }).nx = .done))) /\ StX w w' m p S (if err = 0 then M1 else { M1 with nx := .done }) := by
 obtain ⟨q3, g3, hlt⟩ := h.next
 rw [hn] at q3
 simp only [nvX] at q3
 have HC := Hd hC
 have HM : Hid (¬ S m) := hm
 have HLT := Hd hlt
 clear hC hm h hn hlt
 have f1 := fne_nil; have f2 := fne_fun; have f3 := feq_nil; have f4 := feq_fun
 unfold pV at *
 by_cases he : err = 0
 ·subst he
  rw [if_pos rfl]
  cases h1 : M1.nx
  all_goals
   go_enter Tryz.func47, Tryz.ntmps47
   go_wp2_with (go_at_call 126; refine HC.out.mono ?_; rintro e w1 ⟨rfl, ⟨S', hX, hsub⟩, hk⟩; clear q3 g3; have q3 := hX.next.1; have HX := Hd hX; have HSub := Hd hsub; have HK := Hd hk; clear hX hsub hk; rw [h1] at q3; simp only [nvX] at q3; unfold pV iV at *)
   go_ret
   exact ⟨by simp, ⟨S', HX.out, HSub.out⟩, HK.out⟩
 ·rw [if_neg he]
  have hef : (err == 0) = false := by simpa using he
  clear he
  go_enter Tryz.func47, Tryz.ntmps47
  have hsn : ∀ (a : Addr) (w : World), (store a .nilFunc).run Tryz.prog w = stored Tryz.prog w a .nilFunc .plain := λ a w => run_store Tryz.prog w a .nilFunc .plain rfl
  go_wp2_with (go_at_call 126; refine HC.out.mono ?_; rintro e w1 ⟨rfl, ⟨S', hX, hsub⟩, hk⟩; clear q3 g3; have q3 := hX.next.1; have g3 := hX.next.2.1; have HX := Hd hX; have HSub := Hd hsub; have HK := Hd hk; clear hX hsub hk; generalize nvX m M1.nx = nv at q3; unfold pV iV at *)
  go_ret
  refine ⟨by simp, ⟨S', HX.out.setNext (λ h => (HSub.out m h).elim HM.out (λ h => by have := h.1; have := HLT.out; omega)) rfl, λ x hx => (HSub.out x hx).imp id (λ h => ⟨h.1, by simpa using h.2⟩)⟩, HK.out.setCell' (λ _ => rfl) _⟩
set_option maxRecDepth 100000 in
theorem step_head {err : Int} {M1 : Mc} (hn : M.nx = .head) (h : MX w m p S M) (hm : ¬ S m) (hC : Calls Tryz.prog 141 #[pV m] w λ e w' => e = .returned (iV err) /\ StX w w' m p S M1) :
  Calls Tryz.prog 47 #[pV m] w λ e w' => e = .returned (.bool (decide ((if err = 0 then M1 else { M1 with nx := .done }).nx = .done))) /\ StX w w' m p S (if err = 0 then M1 else { M1 with nx := .done }) := by
 obtain ⟨q3, g3, hlt⟩ := h.next
 rw [hn] at q3
 simp only [nvX] at q3
 have HC := Hd hC
 have HM : Hid (¬ S m) := hm
 have HLT := Hd hlt
 clear hC hm h hn hlt
 have f1 := fne_nil; have f2 := fne_fun; have f3 := feq_nil; have f4 := feq_fun
 unfold pV at *
 by_cases he : err = 0
 ·subst he
  rw [if_pos rfl]
  cases h1 : M1.nx
  all_goals
   go_enter Tryz.func47, Tryz.ntmps47
   go_wp2_with (go_at_call 141; refine HC.out.mono ?_; rintro e w1 ⟨rfl, ⟨S', hX, hsub⟩, hk⟩; clear q3 g3; have q3 := hX.next.1; have HX := Hd hX; have HSub := Hd hsub; have HK := Hd hk; clear hX hsub hk; rw [h1] at q3; simp only [nvX] at q3; unfold pV iV at *)
   go_ret
   exact ⟨by simp, ⟨S', HX.out, HSub.out⟩, HK.out⟩
 ·rw [if_neg he]
  have hef : (err == 0) = false := by simpa using he
  clear he
  go_enter Tryz.func47, Tryz.ntmps47
  have hsn : ∀ (a : Addr) (w : World), (store a .nilFunc).run Tryz.prog w = stored Tryz.prog w a .nilFunc .plain := λ a w => run_store Tryz.prog w a .nilFunc .plain rfl
  go_wp2_with (go_at_call 141; refine HC.out.mono ?_; rintro e w1 ⟨rfl, ⟨S', hX, hsub⟩, hk⟩; clear q3 g3; have q3 := hX.next.1; have g3 := hX.next.2.1; have HX := Hd hX; have HSub := Hd hsub; have HK := Hd hk; clear hX hsub hk; generalize nvX m M1.nx = nv at q3; unfold pV iV at *)
  go_ret
  refine ⟨by simp, ⟨S', HX.out.setNext (λ h => (HSub.out m h).elim HM.out (λ h => by have := h.1; have := HLT.out; omega)) rfl, λ x hx => (HSub.out x hx).imp id (λ h => ⟨h.1, by simpa using h.2⟩)⟩, HK.out.setCell' (λ _ => rfl) _⟩
set_option maxRecDepth 100000 in
theorem step_body {err : Int} {M1 : Mc} (hn : M.nx = .body) (h : MX w m p S M) (hm : ¬ S m) (hC : Calls Tryz.prog 148 #[pV m] w λ e w' => e = .returned (iV err) /\ StX w w' m p S M1) :
  Calls Tryz.prog 47 #[pV m] w λ e w' => e = .returned (.bool (decide ((if err = 0 then M1 else { M1 with nx := .done }).nx = .done))) /\ StX w w' m p S (if err = 0 then M1 else { M1 with nx := .done }) := by
 obtain ⟨q3, g3, hlt⟩ := h.next
 rw [hn] at q3
 simp only [nvX] at q3
 have HC := Hd hC
 have HM : Hid (¬ S m) := hm
 have HLT := Hd hlt
 clear hC hm h hn hlt
 have f1 := fne_nil; have f2 := fne_fun; have f3 := feq_nil; have f4 := feq_fun
 unfold pV at *
 by_cases he : err = 0
 ·subst he
  rw [if_pos rfl]
  cases h1 : M1.nx
  all_goals
   go_enter Tryz.func47, Tryz.ntmps47
   go_wp2_with (go_at_call 148; refine HC.out.mono ?_; rintro e w1 ⟨rfl, ⟨S', hX, hsub⟩, hk⟩; clear q3 g3; have q3 := hX.next.1; have HX := Hd hX; have HSub := Hd hsub; have HK := Hd hk; clear hX hsub hk; rw [h1] at q3; simp only [nvX] at q3; unfold pV iV at *)
   go_ret
   exact ⟨by simp, ⟨S', HX.out, HSub.out⟩, HK.out⟩
 ·rw [if_neg he]
  have hef : (err == 0) = false := by simpa using he
  clear he
  go_enter Tryz.func47, Tryz.ntmps47
  have hsn : ∀ (a : Addr) (w : World), (store a .nilFunc).run Tryz.prog w = stored Tryz.prog w a .nilFunc .plain := λ a w => run_store Tryz.prog w a .nilFunc .plain rfl
  go_wp2_with (go_at_call 148; refine HC.out.mono ?_; rintro e w1 ⟨rfl, ⟨S', hX, hsub⟩, hk⟩; clear q3 g3; have q3 := hX.next.1; have g3 := hX.next.2.1; have HX := Hd hX; have HSub := Hd hsub; have HK := Hd hk; clear hX hsub hk; generalize nvX m M1.nx = nv at q3; unfold pV iV at *)
  go_ret
  refine ⟨by simp, ⟨S', HX.out.setNext (λ h => (HSub.out m h).elim HM.out (λ h => by have := h.1; have := HLT.out; omega)) rfl, λ x hx => (HSub.out x hx).imp id (λ h => ⟨h.1, by simpa using h.2⟩)⟩, HK.out.setCell' (λ _ => rfl) _⟩
set_option maxRecDepth 100000 in
theorem step_valid {err : Int} {M1 : Mc} (hn : M.nx = .valid) (h : MX w m p S M) (hm : ¬ S m) (hC : Calls Tryz.prog 151 #[pV m] w λ e w' => e = .returned (iV err) /\ StX w w' m p S M1) :
  Calls Tryz.prog 47 #[pV m] w λ e w' => e = .returned (.bool (decide ((if err = 0 then M1 else { M1 with nx := .done }).nx = .done))) /\ StX w w' m p S (if err = 0 then M1 else { M1 with nx := .done }) := by
 obtain ⟨q3, g3, hlt⟩ := h.next
 rw [hn] at q3
 simp only [nvX] at q3
 have HC := Hd hC
 have HM : Hid (¬ S m) := hm
 have HLT := Hd hlt
 clear hC hm h hn hlt
 have f1 := fne_nil; have f2 := fne_fun; have f3 := feq_nil; have f4 := feq_fun
 unfold pV at *
 by_cases he : err = 0
 ·subst he
  rw [if_pos rfl]
  cases h1 : M1.nx
  all_goals
   go_enter Tryz.func47, Tryz.ntmps47
   go_wp2_with (go_at_call 151; refine HC.out.mono ?_; rintro e w1 ⟨rfl, ⟨S', hX, hsub⟩, hk⟩; clear q3 g3; have q3 := hX.next.1; have HX := Hd hX; have HSub := Hd hsub; have HK := Hd hk; clear hX hsub hk; rw [h1] at q3; simp only [nvX] at q3; unfold pV iV at *)
   go_ret
   exact ⟨by simp, ⟨S', HX.out, HSub.out⟩, HK.out⟩
 ·rw [if_neg he]
  have hef : (err == 0) = false := by simpa using he
  clear he
  go_enter Tryz.func47, Tryz.ntmps47
  have hsn : ∀ (a : Addr) (w : World), (store a .nilFunc).run Tryz.prog w = stored Tryz.prog w a .nilFunc .plain := λ a w => run_store Tryz.prog w a .nilFunc .plain rfl
  go_wp2_with (go_at_call 151; refine HC.out.mono ?_; rintro e w1 ⟨rfl, ⟨S', hX, hsub⟩, hk⟩; clear q3 g3; have q3 := hX.next.1; have g3 := hX.next.2.1; have HX := Hd hX; have HSub := Hd hsub; have HK := Hd hk; clear hX hsub hk; generalize nvX m M1.nx = nv at q3; unfold pV iV at *)
  go_ret
  refine ⟨by simp, ⟨S', HX.out.setNext (λ h => (HSub.out m h).elim HM.out (λ h => by have := h.1; have := HLT.out; omega)) rfl, λ x hx => (HSub.out x hx).imp id (λ h => ⟨h.1, by simpa using h.2⟩)⟩, HK.out.setCell' (λ _ => rfl) _⟩
set_option maxRecDepth 100000 in
theorem step_done (hn : M.nx = .done) (h : MX w m p S M) : Calls Tryz.prog 47 #[pV m] w λ e w' => e = .returned (.bool true) /\ StX w w' m p S M := by
 obtain ⟨q3, g3, hlt⟩ := h.next
 rw [hn] at q3
 simp only [nvX] at q3
 have HX := Hd h
 clear h
 unfold pV
 have f1 := fne_nil; have f2 := fne_fun; have f3 := feq_nil; have f4 := feq_fun
 go_enter Tryz.func47, Tryz.ntmps47
 go_wp2
 go_ret
 exact ⟨rfl, ⟨S, HX.out, λ x h => .inl h⟩, Keeps.refl _ _⟩
theorem stepX_ (hJ : J w G b p q A B) (hG : ¬ G m) (h : MX w m p S M) (hm : ¬ S m) (hlow : M.low) : Calls Tryz.prog 47 #[pV m] w λ e w' => e = .returned (.bool (decide ((stepM A M).nx = .done))) /\ StX w w' m p S (stepM A M) := by
 unfold stepM
 split
 ·rename_i hn
  have := step_done hn h
  simpa [hn] using this
 ·rename_i hn; have := step_root hn h hm (rootX hJ hG h hm); simpa using this
 ·rename_i hn; exact step_latch hn h hm (latchX hJ hG h hm)
 ·rename_i hn; exact step_head hn h hm (headX_ hJ hG h hm)
 ·rename_i hn; exact step_body hn h hm (bodyX_ hJ hG h hm)
 ·rename_i hn
  have := step_valid hn h hm (validX_ hJ hG h hm hlow)
  by_cases c : opErr A M.id = 0
  ·simpa [c] using this
  ·simpa [c] using this
end
end Go.Proofs.YtbhohohgojcapaaGreat

namespace Go.Proofs.YtbhohohgojcapaaGreat
open Go.RowKit
section
variable {w : World} {G S : Nat -> Prop} {b p q m : Nat} {A B : Ar} {M : Mc}
end
end Go.Proofs.YtbhohohgojcapaaGreat

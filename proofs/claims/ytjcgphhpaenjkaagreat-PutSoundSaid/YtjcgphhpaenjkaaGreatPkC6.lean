import Derived.Test.YtjcgphhpaenjkaaGreatPkB9
import Derived.Test.YtjcgphhpaenjkaaGreatPkC5
import Derived.BigQuiet
set_option maxHeartbeats 64000000
set_option maxRecDepth 100000
namespace Go.Proofs.YtjcgphhpaenjkaaGreat
open Go.RowKit
section
variable {w:World} {G S:Nat->Prop} {b p q m dm:Nat} {A B:Ar} {Φ:Fr} {C:Cf} {P:Pm} {v:Pv}
theorem pendsX {th took:Bool} {er:Int} (hb:Blk w m 203 (cellsX v)) (ht:v.there=.bool th):Calls Tryz.prog 114 #[pV m,.int .i64 er,.bool took] w λ e w'=>e=.returned (.tuple #[.bool true,.bool took])/\Blk w' m 203 (cellsX {v with next:=iV 20,err:=iV er,there:=.bool (th&&decide (er=0))})/\Keeps (λ x=>x=m) w w':=by
 have q43:w.cell? ⟨m,43,none⟩=some (.bool th):=by rw [Pv.thereX_ hb,ht]
 have q9:=Pv.nextX_ hb
 have q44:=Pv.errX_ hb
 have g9:=hb.frozen 9
 have g43:=hb.frozen 43
 have g44:=hb.frozen 44
 have HB:=Hd hb
 clear hb ht
 unfold pV
 by_cases he:er=0
 ·subst he
  cases th with
  | true=>
   go_enter Tryz.func114,Tryz.ntmps114
   go_wp2
   go_ret2
   exact ⟨rfl,Pv.putthereX (Pv.puterrX (Pv.putnextX HB.out _) _) _,((Keeps.setCell _ (M:=λ x=>x=m) rfl _).setCell' (λ _=>rfl) _).setCell' (λ _=>rfl) _⟩
  | false=>
   go_enter Tryz.func114,Tryz.ntmps114
   go_wp2
   go_ret2
   exact ⟨rfl,Pv.putthereX (Pv.puterrX (Pv.putnextX HB.out _) _) _,((Keeps.setCell _ (M:=λ x=>x=m) rfl _).setCell' (λ _=>rfl) _).setCell' (λ _=>rfl) _⟩
 ·have hd:(er==0)=false:=by simpa using he
  rw [decide_eq_false he,Bool.and_false]
  cases th with
  | true=>
   go_enter Tryz.func114,Tryz.ntmps114
   go_wp2
   go_ret2
   exact ⟨rfl,Pv.putthereX (Pv.puterrX (Pv.putnextX HB.out _) _) _,((Keeps.setCell _ (M:=λ x=>x=m) rfl _).setCell' (λ _=>rfl) _).setCell' (λ _=>rfl) _⟩
  | false=>
   go_enter Tryz.func114,Tryz.ntmps114
   go_wp2
   go_ret2
   exact ⟨rfl,Pv.putthereX (Pv.puterrX (Pv.putnextX HB.out _) _) _,((Keeps.setCell _ (M:=λ x=>x=m) rfl _).setCell' (λ _=>rfl) _).setCell' (λ _=>rfl) _⟩
theorem ponX {nx:Int} (hb:Blk w m 203 (cellsX v)):Calls Tryz.prog 117 #[pV m,.int .i64 0,.int .i64 nx] w λ e w'=>e=.returned (.tuple #[.bool false,.bool false])/\Blk w' m 203 (cellsX {v with next:=iV nx})/\Keeps (λ x=>x=m) w w':=by
 have q9:=Pv.nextX_ hb
 have g9:=hb.frozen 9
 have HB:=Hd hb
 clear hb
 unfold pV
 go_enter Tryz.func117,Tryz.ntmps117
 go_wp2
 go_ret2
 exact ⟨rfl,Pv.putnextX HB.out _,Keeps.setCell _ (M:=λ x=>x=m) rfl _⟩
theorem pgoesX {l:Int} {A0:Option Addr} {c0:Nat} {sep:List UInt8} (hb:Blk w m 203 (cellsX v)) (ha:v.a=pV p) (hl:v.level=iV l) (hs:v.sep=.slice A0 sep.length c0) (hv:Byts w S (.slice A0 sep.length c0) sep) (hz:sep.length<=64):Calls Tryz.prog 113 #[pV m] w λ e w'=>∃ d,e=.returned (.tuple #[])/\Fresh w w' d/\MX w' d p (λ x=>Fresh w w' x/\x≠d) (Mc.new sep l)/\Blk w' m 203 (cellsX {v with next:=iV 1,way:=pV d})/\Keeps (λ x=>x=m) w w':=by
 have q0:∀ W,Blk W m 203 (cellsX v)->W.cell? ⟨m,0,none⟩=some (.pointer (some ⟨p,0,none⟩)):=λ W h=>by rw [Pv.aX_ h,ha];rfl
 have q10:∀ W,Blk W m 203 (cellsX v)->W.cell? ⟨m,10,none⟩=some (.int .i64 l):=λ W h=>by rw [Pv.levelX_ h,hl];rfl
 have q11:∀ W,Blk W m 203 (cellsX v)->W.cell? ⟨m,11,none⟩=some (.slice A0 sep.length c0):=λ W h=>by rw [Pv.sepX_ h,hs]
 have HQ:=Hd (⟨q0,q10,q11⟩:(∀ W,Blk W m 203 (cellsX v)->W.cell? ⟨m,0,none⟩=some (.pointer (some ⟨p,0,none⟩)))/\(∀ W,Blk W m 203 (cellsX v)->W.cell? ⟨m,10,none⟩=some (.int .i64 l))/\(∀ W,Blk W m 203 (cellsX v)->W.cell? ⟨m,11,none⟩=some (.slice A0 sep.length c0)))
 have HF:=λ W (h:Byts W S (.slice A0 sep.length c0) sep)=>newX (p:=p) (level:=l) h (by unfold Sm;omega)
 have HB:=Hd hb
 have HV:=Hd hv
 have HL:=Hd hb.lt
 clear hb ha hl hs hv hz q0 q10 q11
 unfold pV iV at HF
 unfold pV
 go_enter Tryz.func113,Tryz.ntmps113
 go_wp2_with fail
 refine rC_ [0,1,2,3,4,5,6,7,8,9,10,11,12,13,14,15,16,17,18,19,20] 17 (λ W=>W.cell? ⟨m,0,none⟩=some (.pointer (some ⟨p,0,none⟩))/\W.cell? ⟨m,10,none⟩=some (.int .i64 l)/\W.cell? ⟨m,11,none⟩=some (.slice A0 sep.length c0)) ?_ ?_
 ·exact ⟨HQ.out.1 _ HB.out,HQ.out.2.1 _ HB.out,HQ.out.2.2 _ HB.out⟩
 refine canon_at (λ w1 hw=>?_)
 have hk:Keeps Nob w w1:=by rw [hw];exact Keeps.drew _ _
 clear hw
 replace HB:=Hd (HB.out.keeps hk id)
 replace HV:=Hd (HV.out.keeps hk (λ _ _ _=>id))
 have K:=Hd hk
 have KS:=Hd hk.size
 clear hk
 iterate 14
  refine cR_ (v:=?_) rfl ?_ ?_
  rotate_left
  ·intro W hW
   try (obtain ⟨z1,z2,z3⟩:_/\_/\_:=hW)
   go_simp
   try rfl
  simp only [Act.put,sa_,sb_,sc_]
 refine cA_ rfl ?_
 go_wp2_with (go_at_call 78;refine (HF _ HV.out).mono ?_;rintro e w2 ⟨d,rfl,hf,hX,hk⟩)
 replace HB:=Hd (HB.out.keeps hk id)
 replace K:=tq_ K hk
 have HX:=Hd hX
 have HFR:=Hd hf
 clear hX hk hf HF HV
 refine ⟨.inr ⟨HQ.out.1 _ HB.out,HQ.out.2.1 _ HB.out,HQ.out.2.2 _ HB.out⟩,?_⟩
 iterate 2
  refine cR_ (v:=?_) rfl ?_ ?_
  rotate_left
  ·intro W hW
   try (obtain ⟨z1,z2,z3⟩:_/\_/\_:=hW)
   go_simp
   try rfl
  simp only [Act.put,sa_,sb_,sc_]
 refine cA_ rfl ?_
 have q9:=Pv.nextX_ HB.out
 have g9:=HB.out.frozen 9
 go_wp2
 clear q9 g9
 refine ⟨.inl (by kernel_rfl),?_⟩
 refine canon_at (λ w3 hw=>?_)
 have hk:Keeps (λ x=>x=m) w2 w3:=by rw [hw];exact Keeps.setCell _ (M:=λ x=>x=m) rfl _
 replace HB:Hid (Blk w3 m 203 (cellsX {v with next:=iV 1})):=by rw [hw];exact Pv.putnextX HB.out _
 clear hw
 replace HX:=Hd (HX.out.keeps hk (λ e=>by have h1:=HFR.out.1;have h2:=KS.out;have h3:=HL.out;have h4:d=m:=e;omega) (λ x _ hx e=>by have h1:=hx.1.1;have h2:=KS.out;have h3:=HL.out;have h4:x=m:=e;omega))
 replace K:=Hd ((K.out.mono (λ _ _ h=>h.elim):Keeps (λ x=>x=m) w w2).trans hk (λ _ _ h=>h))
 have KT:=Hd hk.size
 clear hk
 iterate 2
  refine cR_ (v:=?_) rfl ?_ ?_
  rotate_left
  ·intro W hW
   try (obtain ⟨z1,z2,z3⟩:_/\_/\_:=hW)
   go_simp
   try rfl
  simp only [Act.put,sa_,sb_,sc_]
 refine cA_ rfl ?_
 have q8:=Pv.wayX_ HB.out
 have g8:=HB.out.frozen 8
 go_wp2
 clear q8 g8
 refine ⟨.inl (by kernel_rfl),?_⟩
 refine canon_at (λ w4 hw=>?_)
 have hk:Keeps (λ x=>x=m) w3 w4:=by rw [hw];exact Keeps.setCell _ (M:=λ x=>x=m) rfl _
 replace HB:Hid (Blk w4 m 203 (cellsX {v with next:=iV 1,way:=pV d})):=by rw [hw];exact Pv.putwayX HB.out _
 clear hw
 refine wpCanon_nil ?_
 go_wp2
 go_end0
 have f1:=HFR.out.1
 have f2:=HFR.out.2
 have s1:=KS.out
 have s2:=KT.out
 have s3:=hk.size
 refine ⟨d,rfl,⟨by omega,by omega⟩,(HX.out.keeps hk (λ e=>by have h3:=HL.out;have h4:d=m:=e;omega) (λ x _ hx e=>by have h1:=hx.1.1;have h3:=HL.out;have h4:x=m:=e;omega)).mono (λ x _ hx=>⟨⟨Nat.le_trans s1 hx.1.1,by have:=hx.1.2;omega⟩,hx.2⟩),HB.out,K.out.trans hk (λ _ _ h=>h)⟩
end
section
variable {w w':World} {G S:Nat->Prop} {a dm m p:Nat} {C:Cf} {v:Pv} {P:Pm} {t:TypeId} {nv:Nx->Value} {Φ:Fr} {A:Ar}
theorem gn_ (h:Hid (PGo w t m a dm nv S C v P)) (k:Keeps Nob w w'):Hid (PGo w' t m a dm nv S C v P):=Hd (h.out.keeps k (λ _=>id) (λ _ _ _=>id))
theorem gm_ (h:Hid (PGo w t m a dm nv S C v P)) (k:Keeps (λ x=>x=m) w w') (hm:Hid (¬S m)):Hid (PGo w' t m a dm nv S C v P):=Hd (h.out.keeps k (λ ⟨d,hd⟩=>(h.out.des d hd).2) (λ x _ hx e=>hm.out (e▸hx)))
theorem gg_ (h:Hid (PGo w t m a dm nv S C v P)) (k:Keeps G w w') (ho:Hid (∀ x,x=m\/x=dm\/S x->¬G x)):Hid (PGo w' t m a dm nv S C v P):=Hd (h.out.keeps k (λ _=>ho.out dm (.inr (.inl rfl))) (λ x _ hx=>ho.out x (.inr (.inr hx))))
theorem jm_ (h:Hid (JX w G Φ p A)) (k:Keeps (λ x=>x=m) w w') (ho:Hid (∀ x,x=m\/x=dm\/S x->¬G x)):Hid (JX w' G Φ p A):=Hd (h.out.keeps k (λ x _ hx e=>ho.out m (.inl rfl) (e▸hx)))
theorem kx_ {a b c:World} (K:Hid (Keeps (λ x=>G x\/x=m\/x=dm) a b)) (hk:Keeps (λ x=>x=m) b c):Hid (Keeps (λ x=>G x\/x=m\/x=dm) a c):=Hd (K.out.trans hk (λ x _ hx=>.inr (.inl hx)))
theorem ky_ {a b c:World} (K:Hid (Keeps (λ x=>G x\/x=m\/x=dm) a b)) (hk:Keeps G b c):Hid (Keeps (λ x=>G x\/x=m\/x=dm) a c):=Hd (K.out.trans hk (λ x _ hx=>.inl hx))
end
end Go.Proofs.YtjcgphhpaenjkaaGreat

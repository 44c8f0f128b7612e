import Derived.Test.YtjcgphhpaenjkaaPkB2
set_option linter.unusedVariables false
namespace Go.Proofs.Ytjcgphhpaenjkaa
open Go.RowKit
section
variable {w:World} {S:Nat->Prop} {A:Option Addr} {c k:Nat} {e:TypeId}
theorem Own.cut {n:Nat} {xs:List Value} (h:Own w S e 1 (.slice A n c) n xs) (hk:k<=n):Own w S e 1 (.slice A k k) k (xs.take k):=by
 obtain ⟨h1,h2,h3⟩:=h.at_
 obtain ⟨hl,_⟩:=h
 refine ⟨by rw [List.length_take];omega,A,k,rfl,Nat.le_refl _,by omega,?_⟩
 rcases h3 with ⟨ha,hc⟩|⟨g,o,cur,rfl,hs,hb,ho,hc⟩
 ·exact .inl ⟨ha,by omega⟩
 ·refine .inr ⟨g,o,cur,rfl,hs,hb,by omega,λ i x hx=>hc i x ?_⟩
  rw [List.getElem?_take] at hx
  split at hx
  ·exact hx
  ·cases hx
theorem Own.tail {g o n:Nat} {xs:List Value} (h:Own w S e 1 (.slice (some ⟨g,o,none⟩) n c) n xs) (hk:k<=n):Own w S e 1 (.slice (some ⟨g,o+k,none⟩) (n-k) (c-k)) (n-k) (xs.drop k):=by
 obtain ⟨h1,h2,h3⟩:=h.at_
 obtain ⟨hl,_⟩:=h
 refine ⟨by rw [List.length_drop];omega,_,_,rfl,by omega,by omega,?_⟩
 rcases h3 with ⟨ha,hc⟩|⟨g',o',cur,e1,hs,hb,ho,hc⟩
 ·cases ha
 ·injection e1 with e1;injection e1 with e1 e2
  subst e1 e2
  refine .inr ⟨g,o+k,cur,rfl,hs,hb,by omega,λ i x hx=>?_⟩
  rw [List.getElem?_drop] at hx
  rw [Nat.add_assoc]
  exact hc _ x hx
theorem OTx.cut {l:List (List UInt8)} (h:OTx w S (.slice A l.length c) l) (hk:k<=l.length):OTx w S (.slice A k k) (l.take k):=by
 obtain ⟨vs,h1,h2,h3⟩:=h
 refine ⟨vs.take k,?_,by rw [List.length_take,List.length_take,h2],λ i u x hu hx=>?_⟩
 ·rw [List.length_take,Nat.min_eq_left hk];exact Own.cut h1 hk
 ·rw [List.getElem?_take] at hu hx
  split at hu
  ·rename_i hi;rw [if_pos hi] at hx;exact h3 i u x hu hx
  ·cases hu
theorem OTx.tail {g o:Nat} {l:List (List UInt8)} (h:OTx w S (.slice (some ⟨g,o,none⟩) l.length c) l) (hk:k<=l.length):OTx w S (.slice (some ⟨g,o+k,none⟩) (l.length-k) (c-k)) (l.drop k):=by
 obtain ⟨vs,h1,h2,h3⟩:=h
 refine ⟨vs.drop k,?_,by rw [List.length_drop,List.length_drop,h2],λ i u x hu hx=>?_⟩
 ·rw [List.length_drop];exact Own.tail h1 hk
 ·rw [List.getElem?_drop] at hu hx;exact h3 _ u x hu hx
theorem OIn.cut {l:List Int} (h:OIn w S (.slice A l.length c) l) (hk:k<=l.length):OIn w S (.slice A k k) (l.take k):=by
 have:=Own.cut h hk
 unfold OIn
 rw [List.length_take,Nat.min_eq_left hk,List.map_take];exact this
theorem OIn.tail {g o:Nat} {l:List Int} (h:OIn w S (.slice (some ⟨g,o,none⟩) l.length c) l) (hk:k<=l.length):OIn w S (.slice (some ⟨g,o+k,none⟩) (l.length-k) (c-k)) (l.drop k):=by
 have:=Own.tail h hk
 unfold OIn
 rw [List.length_drop,List.map_drop];exact this
theorem OTx.cap {n:Nat} {l:List (List UInt8)} (h:OTx w S (.slice A n c) l):n<=c:=by
 obtain ⟨vs,h1,_⟩:=h
 obtain ⟨_,A',c',e,h,_⟩:=h1
 injection e with _ e1 e2
 omega
theorem OIn.cap {n:Nat} {l:List Int} (h:OIn w S (.slice A n c) l):n<=c:=by
 obtain ⟨_,A',c',e,h,_⟩:=h
 injection e with _ e1 e2
 omega
theorem OTx.tailE {g o:Nat} {AE:Option Addr} {l:List (List UInt8)} (h:OTx w S (.slice (some ⟨g,o,none⟩) l.length c) l) (hk:k<=l.length) (e:AE=(if c=k then some ⟨g,o,none⟩ else some ⟨g,o+k,none⟩)):OTx w S (.slice AE (l.length-k) (c-k)) (l.drop k):=by
 by_cases hc:c=k
 ·rw [if_pos hc] at e
  subst e
  have h1:=OTx.cap h
  have hl:l.length=k:=by omega
  have hd:l.drop k=[]:=List.drop_eq_nil_of_le (by omega)
  have h2:=OTx.cut h (k:=0) (Nat.zero_le _)
  rw [hd,hl,hc,Nat.sub_self]
  exact h2
 ·rw [if_neg hc] at e
  subst e
  exact h.tail hk
theorem Own.some_ {n:Nat} {xs:List Value} (h:Own w S e 1 (.slice A n c) n xs) (hc:0 < c):∃ g o,A=some ⟨g,o,none⟩:=by
 obtain ⟨_,_,h3⟩:=h.at_
 rcases h3 with ⟨_,h0⟩|⟨g,o,_,e,_⟩
 ·omega
 ·exact ⟨g,o,e⟩
theorem OTx.some_ {l:List (List UInt8)} (h:OTx w S (.slice A l.length c) l) (hc:0 < c):∃ g o,A=some ⟨g,o,none⟩:=by
 obtain ⟨vs,h1,_⟩:=h;exact Own.some_ h1 hc
theorem OIn.some_ {l:List Int} (h:OIn w S (.slice A l.length c) l) (hc:0 < c):∃ g o,A=some ⟨g,o,none⟩:=Own.some_ h hc
end
def spM (n:Nd):Nat:=if n.lvl=0 then n.keys.length else n.kids.length
def spBad (n:Nd):Prop:=spM n < 2\/(n.lvl=0/\n.vals.length < n.keys.length)\/(n.lvl≠0/\n.keys.length < n.kids.length-1)
instance (n:Nd):Decidable (spBad n):=by unfold spBad;exact inferInstance
def spH (n:Nd):Nat:=(spM n+1) / 2
def spK (n:Nd):List UInt8:=if spBad n then [] else if n.lvl=0 then n.keys.getD (spH n) [] else n.keys.getD (spH n-1) []
def spL (n:Nd) (right:Int):Nd:=if spBad n then n else if n.lvl=0 then {n with high:=spK n,right:=right,keys:=n.keys.take (spH n),vals:=n.vals.take (spH n)} else {n with high:=spK n,right:=right,keys:=n.keys.take (spH n-1),kids:=n.kids.take (spH n)}
def spR (n:Nd):Nd:=if spBad n then Nd.zero else if n.lvl=0 then {n with keys:=n.keys.drop (spH n),vals:=n.vals.drop (spH n)} else {n with keys:=n.keys.drop (spH n),kids:=n.kids.drop (spH n)}
structure SpR (w0:World) (n:Nd) (N:Value) (L:Nat->Prop) (x12 x13 x14 x15 x7 x8:Value) (w:World):Prop where
 kept:Keeps Nob w0 w
 d31:L 3->L 1
 d6:L 6->L 4/\L 1
 d7:L 7->L 5/\L 3
 v12:L 0->x12=N
 v14:L 2->x14=N
 cl:L 1->∃ p d0 d1 d2 d3 d4 d5,x13=.agg #[d0,d1,d2,d3,d4,d5]/\w0.heap.size<=p/\p<=w.heap.size/\ONd w (λ b=>w0.heap.size<=b/\b < p) d0 d1 d2 d3 d4 d5 n/\
  (L 3->∃ e0 e1 e2 e3 e4 e5,x15=.agg #[e0,e1,e2,e3,e4,e5]/\ONd w (λ b=>p<=b) e0 e1 e2 e3 e4 e5 n)
 bx:L 4->∃ X cs,x7=.pointer (some ⟨X,0,none⟩)/\w0.heap.size<=X/\Blk w X 75 cs/\cs.size=6/\(L 6->x13=.agg cs)
 bY:L 5->∃ Y cs,x8=.pointer (some ⟨Y,0,none⟩)/\w0.heap.size<=Y/\Blk w Y 75 cs/\cs.size=6/\(L 7->x15=.agg cs)
 ne:L 4->L 5->x7≠x8
def spA (a0:Act) (x12 x13 x14 x15 x7 x8:Value):Act:=(((((a0.put (some 12) x12).put (some 13) x13).put (some 14) x14).put (some 15) x15).put (some 7) x7).put (some 8) x8
def SpI (w0:World) (n:Nd) (N:Value) (a0:Act) (L:Nat->Prop) (a:Act) (w:World):Prop:=∃ x12 x13 x14 x15 x7 x8,a=spA a0 x12 x13 x14 x15 x7 x8/\SpR w0 n N L x12 x13 x14 x15 x7 x8 w
theorem SpR.start (w0 n N x12 x13 x14 x15 x7 x8):SpR w0 n N (λ _=>False) x12 x13 x14 x15 x7 x8 w0.drew:=
 ⟨Keeps.drew Nob w0,λ x=>x.elim,λ x=>x.elim,λ x=>x.elim,λ x=>x.elim,λ x=>x.elim,λ x=>x.elim,λ x=>x.elim,λ x=>x.elim,λ x=>x.elim⟩
theorem or_ne {L:Nat->Prop} {k i:Nat} (h:L k\/k=i) (hne:k≠i):L k:=h.resolve_right hne
section
variable {w0 w w':World} {n:Nd} {N x12 x13 x14 x15 x7 x8:Value} {L:Nat->Prop}
theorem SpR.nob (h:SpR w0 n N L x12 x13 x14 x15 x7 x8 w) (k:Keeps Nob w w'):SpR w0 n N L x12 x13 x14 x15 x7 x8 w' where
 kept:=h.kept.trans k (λ _ _ h=>h)
 d31:=h.d31
 d6:=h.d6
 d7:=h.d7
 v12:=h.v12
 v14:=h.v14
 cl:=λ x=>by
  obtain ⟨p,d0,d1,d2,d3,d4,d5,h1,h2,h3,h4,h5⟩:=h.cl x
  refine ⟨p,d0,d1,d2,d3,d4,d5,h1,h2,Nat.le_trans h3 k.size,h4.keeps k (λ _ _ _=>id),λ y=>?_⟩
  obtain ⟨e0,e1,e2,e3,e4,e5,g1,g2⟩:=h5 y
  exact ⟨e0,e1,e2,e3,e4,e5,g1,g2.keeps k (λ _ _ _=>id)⟩
 bx:=λ x=>by
  obtain ⟨X,cs,h1,h2,h3,h4,h5⟩:=h.bx x
  exact ⟨X,cs,h1,h2,h3.keeps k id,h4,h5⟩
 bY:=λ x=>by
  obtain ⟨X,cs,h1,h2,h3,h4,h5⟩:=h.bY x
  exact ⟨X,cs,h1,h2,h3.keeps k id,h4,h5⟩
 ne:=h.ne
theorem SpR.ld12 (h:SpR w0 n N L x12 x13 x14 x15 x7 x8 w):SpR w0 n N (λ k=>L k\/k=0) N x13 x14 x15 x7 x8 w where
 kept:=h.kept
 d31:=λ x=>.inl (h.d31 (or_ne x (by decide)))
 d6:=λ x=>⟨.inl (h.d6 (or_ne x (by decide))).1,.inl (h.d6 (or_ne x (by decide))).2⟩
 d7:=λ x=>⟨.inl (h.d7 (or_ne x (by decide))).1,.inl (h.d7 (or_ne x (by decide))).2⟩
 v12:=λ _=>rfl
 v14:=λ x=>h.v14 (or_ne x (by decide))
 cl:=λ x=>by
  obtain ⟨p,d0,d1,d2,d3,d4,d5,h1,h2,h3,h4,h5⟩:=h.cl (or_ne x (by decide))
  exact ⟨p,d0,d1,d2,d3,d4,d5,h1,h2,h3,h4,λ y=>h5 (or_ne y (by decide))⟩
 bx:=λ x=>by
  obtain ⟨X,cs,h1,h2,h3,h4,h5⟩:=h.bx (or_ne x (by decide))
  exact ⟨X,cs,h1,h2,h3,h4,λ y=>h5 (or_ne y (by decide))⟩
 bY:=λ x=>by
  obtain ⟨X,cs,h1,h2,h3,h4,h5⟩:=h.bY (or_ne x (by decide))
  exact ⟨X,cs,h1,h2,h3,h4,λ y=>h5 (or_ne y (by decide))⟩
 ne:=λ x y=>h.ne (or_ne x (by decide)) (or_ne y (by decide))
theorem SpR.ld14 (h:SpR w0 n N L x12 x13 x14 x15 x7 x8 w):SpR w0 n N (λ k=>L k\/k=2) x12 x13 N x15 x7 x8 w where
 kept:=h.kept
 d31:=λ x=>.inl (h.d31 (or_ne x (by decide)))
 d6:=λ x=>⟨.inl (h.d6 (or_ne x (by decide))).1,.inl (h.d6 (or_ne x (by decide))).2⟩
 d7:=λ x=>⟨.inl (h.d7 (or_ne x (by decide))).1,.inl (h.d7 (or_ne x (by decide))).2⟩
 v12:=λ x=>h.v12 (or_ne x (by decide))
 v14:=λ _=>rfl
 cl:=λ x=>by
  obtain ⟨p,d0,d1,d2,d3,d4,d5,h1,h2,h3,h4,h5⟩:=h.cl (or_ne x (by decide))
  exact ⟨p,d0,d1,d2,d3,d4,d5,h1,h2,h3,h4,λ y=>h5 (or_ne y (by decide))⟩
 bx:=λ x=>by
  obtain ⟨X,cs,h1,h2,h3,h4,h5⟩:=h.bx (or_ne x (by decide))
  exact ⟨X,cs,h1,h2,h3,h4,λ y=>h5 (or_ne y (by decide))⟩
 bY:=λ x=>by
  obtain ⟨X,cs,h1,h2,h3,h4,h5⟩:=h.bY (or_ne x (by decide))
  exact ⟨X,cs,h1,h2,h3,h4,λ y=>h5 (or_ne y (by decide))⟩
 ne:=λ x y=>h.ne (or_ne x (by decide)) (or_ne y (by decide))
theorem SpR.call1 {d0 d1 d2 d3 d4 d5:Value} (h0:SpR w0 n N L x12 x13 x14 x15 x7 x8 w) (hu:¬L 1) (k:Keeps Nob w w') (hO:ONd w' (Fresh w w') d0 d1 d2 d3 d4 d5 n):SpR w0 n N (λ k=>L k\/k=1) x12 (.agg #[d0,d1,d2,d3,d4,d5]) x14 x15 x7 x8 w':=by
 have h:=h0.nob k
 have hs:=h0.kept.size
 have h3:¬L 3:=λ x=>hu (h.d31 x)
 have h6:¬L 6:=λ x=>hu (h.d6 x).2
 exact {
  kept:=h.kept
  d31:=λ x=>(h3 (or_ne x (by decide))).elim
  d6:=λ x=>(h6 (or_ne x (by decide))).elim
  d7:=λ x=>(h3 (h.d7 (or_ne x (by decide))).2).elim
  v12:=λ x=>h.v12 (or_ne x (by decide))
  v14:=λ x=>h.v14 (or_ne x (by decide))
  cl:=λ _=>⟨w'.heap.size,d0,d1,d2,d3,d4,d5,rfl,h.kept.size,Nat.le_refl _,hO.mono (λ b _ hb=>⟨Nat.le_trans hs hb.1,hb.2⟩),λ x=>(h3 (or_ne x (by decide))).elim⟩
  bx:=λ x=>by
   obtain ⟨X,cs,h1,h2,h3,h4,h5⟩:=h.bx (or_ne x (by decide))
   exact ⟨X,cs,h1,h2,h3,h4,λ y=>(h6 (or_ne y (by decide))).elim⟩
  bY:=λ x=>by
   obtain ⟨X,cs,h1,h2,h3,h4,h5⟩:=h.bY (or_ne x (by decide))
   exact ⟨X,cs,h1,h2,h3,h4,λ y=>h5 (or_ne y (by decide))⟩
  ne:=λ x y=>h.ne (or_ne x (by decide)) (or_ne y (by decide))}
theorem SpR.call3 {e0 e1 e2 e3 e4 e5:Value} (h0:SpR w0 n N L x12 x13 x14 x15 x7 x8 w) (hu:¬L 3) (hl:L 1) (k:Keeps Nob w w') (hO:ONd w' (Fresh w w') e0 e1 e2 e3 e4 e5 n):SpR w0 n N (λ k=>L k\/k=3) x12 x13 x14 (.agg #[e0,e1,e2,e3,e4,e5]) x7 x8 w':=by
 have h:=h0.nob k
 obtain ⟨p,d0,d1,d2,d3,d4,d5,g1,g2,g3,g4,g5⟩:=h0.cl hl
 have h7:¬L 7:=λ x=>hu (h.d7 x).2
 exact {
  kept:=h.kept
  d31:=λ _=>.inl hl
  d6:=λ x=>⟨.inl (h.d6 (or_ne x (by decide))).1,.inl (h.d6 (or_ne x (by decide))).2⟩
  d7:=λ x=>(h7 (or_ne x (by decide))).elim
  v12:=λ x=>h.v12 (or_ne x (by decide))
  v14:=λ x=>h.v14 (or_ne x (by decide))
  cl:=λ _=>⟨p,d0,d1,d2,d3,d4,d5,g1,g2,Nat.le_trans g3 k.size,g4.keeps k (λ _ _ _=>id),λ _=>⟨e0,e1,e2,e3,e4,e5,rfl,hO.mono (λ b _ hb=>Nat.le_trans g3 hb.1)⟩⟩
  bx:=λ x=>by
   obtain ⟨X,cs,h1,h2,h3,h4,h5⟩:=h.bx (or_ne x (by decide))
   exact ⟨X,cs,h1,h2,h3,h4,λ y=>h5 (or_ne y (by decide))⟩
  bY:=λ x=>by
   obtain ⟨X,cs,h1,h2,h3,h4,h5⟩:=h.bY (or_ne x (by decide))
   exact ⟨X,cs,h1,h2,h3,h4,λ y=>(h7 (or_ne y (by decide))).elim⟩
  ne:=λ x y=>h.ne (or_ne x (by decide)) (or_ne y (by decide))}
theorem SpR.al4 {cs0:Array Value} (h0:SpR w0 n N L x12 x13 x14 x15 x7 x8 w) (hu:¬L 4) (hz:cs0.size=6):SpR w0 n N (λ k=>L k\/k=4) x12 x13 x14 x15 (.pointer (some ⟨w.heap.size,0,none⟩)) x8 (w.alloc (.cells cs0 75)):=by
 have h:=h0.nob (Keeps.alloc Nob w (.cells cs0 75))
 have h6:¬L 6:=λ x=>hu (h.d6 x).1
 exact {
  kept:=h.kept
  d31:=λ x=>.inl (h.d31 (or_ne x (by decide)))
  d6:=λ x=>(h6 (or_ne x (by decide))).elim
  d7:=λ x=>⟨.inl (h.d7 (or_ne x (by decide))).1,.inl (h.d7 (or_ne x (by decide))).2⟩
  v12:=λ x=>h.v12 (or_ne x (by decide))
  v14:=λ x=>h.v14 (or_ne x (by decide))
  cl:=λ x=>by
   obtain ⟨p,d0,d1,d2,d3,d4,d5,h1,h2,h3,h4,h5⟩:=h.cl (or_ne x (by decide))
   exact ⟨p,d0,d1,d2,d3,d4,d5,h1,h2,h3,h4,λ y=>h5 (or_ne y (by decide))⟩
  bx:=λ _=>⟨w.heap.size,cs0,rfl,h0.kept.size,Blk.new _ _ _,hz,λ y=>(h6 (or_ne y (by decide))).elim⟩
  bY:=λ x=>by
   obtain ⟨X,cs,h1,h2,h3,h4,h5⟩:=h.bY (or_ne x (by decide))
   exact ⟨X,cs,h1,h2,h3,h4,λ y=>h5 (or_ne y (by decide))⟩
  ne:=λ _ y=>by
   obtain ⟨Y,cs,h1,h2,h3,_⟩:=h0.bY (or_ne y (by decide))
   have:=h3.lt
   rw [h1]
   intro e
   injection e with e;injection e with e;injection e with e
   omega}
theorem SpR.al5 {cs0:Array Value} (h0:SpR w0 n N L x12 x13 x14 x15 x7 x8 w) (hu:¬L 5) (hz:cs0.size=6):SpR w0 n N (λ k=>L k\/k=5) x12 x13 x14 x15 x7 (.pointer (some ⟨w.heap.size,0,none⟩)) (w.alloc (.cells cs0 75)):=by
 have h:=h0.nob (Keeps.alloc Nob w (.cells cs0 75))
 have h7:¬L 7:=λ x=>hu (h.d7 x).1
 exact {
  kept:=h.kept
  d31:=λ x=>.inl (h.d31 (or_ne x (by decide)))
  d6:=λ x=>⟨.inl (h.d6 (or_ne x (by decide))).1,.inl (h.d6 (or_ne x (by decide))).2⟩
  d7:=λ x=>(h7 (or_ne x (by decide))).elim
  v12:=λ x=>h.v12 (or_ne x (by decide))
  v14:=λ x=>h.v14 (or_ne x (by decide))
  cl:=λ x=>by
   obtain ⟨p,d0,d1,d2,d3,d4,d5,h1,h2,h3,h4,h5⟩:=h.cl (or_ne x (by decide))
   exact ⟨p,d0,d1,d2,d3,d4,d5,h1,h2,h3,h4,λ y=>h5 (or_ne y (by decide))⟩
  bx:=λ x=>by
   obtain ⟨X,cs,h1,h2,h3,h4,h5⟩:=h.bx (or_ne x (by decide))
   exact ⟨X,cs,h1,h2,h3,h4,λ y=>h5 (or_ne y (by decide))⟩
  bY:=λ _=>⟨w.heap.size,cs0,rfl,h0.kept.size,Blk.new _ _ _,hz,λ y=>(h7 (or_ne y (by decide))).elim⟩
  ne:=λ x _=>by
   obtain ⟨Y,cs,h1,h2,h3,_⟩:=h0.bx (or_ne x (by decide))
   have:=h3.lt
   rw [h1]
   intro e
   injection e with e;injection e with e;injection e with e
   omega}
theorem SpR.st6 {X:Nat} {cs cs':Array Value} (h:SpR w0 n N L x12 x13 x14 x15 (.pointer (some ⟨X,0,none⟩)) x8 w) (h1:L 1) (h4:L 4) (hb:Blk w X 75 cs) (hX:w0.heap.size<=X) (k:Keeps (λ b=>b=X) w w') (hb':Blk w' X 75 cs') (hz:cs'.size=6) (hx:x13=.agg cs') :
  SpR w0 n N (λ k=>L k\/k=6) x12 x13 x14 x15 (.pointer (some ⟨X,0,none⟩)) x8 w':=by
 have ha:Apart 75:=⟨by decide,by decide,by decide⟩
 exact {
  kept:=h.kept.trans k (λ b hb e=>by have:b=X:=e;omega)
  d31:=λ x=>.inl (h.d31 (or_ne x (by decide)))
  d6:=λ _=>⟨.inl h4,.inl h1⟩
  d7:=λ x=>⟨.inl (h.d7 (or_ne x (by decide))).1,.inl (h.d7 (or_ne x (by decide))).2⟩
  v12:=λ x=>h.v12 (or_ne x (by decide))
  v14:=λ x=>h.v14 (or_ne x (by decide))
  cl:=λ x=>by
   obtain ⟨p,d0,d1,d2,d3,d4,d5,h1,h2,h3,h4,h5⟩:=h.cl (or_ne x (by decide))
   refine ⟨p,d0,d1,d2,d3,d4,d5,h1,h2,Nat.le_trans h3 k.size,⟨⟨h4.1.lvl,h4.1.high.keepsB hb ha k,h4.1.right⟩,h4.2.keys.keepsB hb ha k,h4.2.vals.keepsB hb ha k,h4.2.kids.keepsB hb ha k⟩,λ y=>?_⟩
   obtain ⟨e0,e1,e2,e3,e4,e5,g1,g4⟩:=h5 (or_ne y (by decide))
   exact ⟨e0,e1,e2,e3,e4,e5,g1,⟨⟨g4.1.lvl,g4.1.high.keepsB hb ha k,g4.1.right⟩,g4.2.keys.keepsB hb ha k,g4.2.vals.keepsB hb ha k,g4.2.kids.keepsB hb ha k⟩⟩
  bx:=λ _=>⟨X,cs',rfl,hX,hb',hz,λ _=>hx⟩
  bY:=λ x=>by
   obtain ⟨Y,ds,g1,g2,g3,g4,g5⟩:=h.bY (or_ne x (by decide))
   have hne:=h.ne h4 (or_ne x (by decide))
   exact ⟨Y,ds,g1,g2,g3.keeps k (λ e=>hne (by rw [g1,show Y=X from e])),g4,λ y=>g5 (or_ne y (by decide))⟩
  ne:=λ _ y=>h.ne h4 (or_ne y (by decide))}
theorem SpR.st7 {Y:Nat} {cs cs':Array Value} (h:SpR w0 n N L x12 x13 x14 x15 x7 (.pointer (some ⟨Y,0,none⟩)) w) (h3:L 3) (h5:L 5) (hb:Blk w Y 75 cs) (hX:w0.heap.size<=Y) (k:Keeps (λ b=>b=Y) w w') (hb':Blk w' Y 75 cs') (hz:cs'.size=6) (hx:x15=.agg cs') :
  SpR w0 n N (λ k=>L k\/k=7) x12 x13 x14 x15 x7 (.pointer (some ⟨Y,0,none⟩)) w':=by
 have ha:Apart 75:=⟨by decide,by decide,by decide⟩
 exact {
  kept:=h.kept.trans k (λ b hb e=>by have:b=Y:=e;omega)
  d31:=λ x=>.inl (h.d31 (or_ne x (by decide)))
  d6:=λ x=>⟨.inl (h.d6 (or_ne x (by decide))).1,.inl (h.d6 (or_ne x (by decide))).2⟩
  d7:=λ _=>⟨.inl h5,.inl h3⟩
  v12:=λ x=>h.v12 (or_ne x (by decide))
  v14:=λ x=>h.v14 (or_ne x (by decide))
  cl:=λ x=>by
   obtain ⟨p,d0,d1,d2,d3,d4,d5,h1,h2,h3,h4,h5⟩:=h.cl (or_ne x (by decide))
   refine ⟨p,d0,d1,d2,d3,d4,d5,h1,h2,Nat.le_trans h3 k.size,⟨⟨h4.1.lvl,h4.1.high.keepsB hb ha k,h4.1.right⟩,h4.2.keys.keepsB hb ha k,h4.2.vals.keepsB hb ha k,h4.2.kids.keepsB hb ha k⟩,λ y=>?_⟩
   obtain ⟨e0,e1,e2,e3,e4,e5,g1,g4⟩:=h5 (or_ne y (by decide))
   exact ⟨e0,e1,e2,e3,e4,e5,g1,⟨⟨g4.1.lvl,g4.1.high.keepsB hb ha k,g4.1.right⟩,g4.2.keys.keepsB hb ha k,g4.2.vals.keepsB hb ha k,g4.2.kids.keepsB hb ha k⟩⟩
  bx:=λ x=>by
   obtain ⟨X,ds,g1,g2,g3,g4,g5⟩:=h.bx (or_ne x (by decide))
   have hne:=h.ne (or_ne x (by decide)) h5
   exact ⟨X,ds,g1,g2,g3.keeps k (λ e=>hne (by rw [g1,show X=Y from e])),g4,λ y=>g5 (or_ne y (by decide))⟩
  bY:=λ _=>⟨Y,cs',rfl,hX,hb',hz,λ _=>hx⟩
  ne:=λ x _=>h.ne (or_ne x (by decide)) h5}
end
theorem size6 {cs:Array Value} (h:cs.size=6):∃ v0 v1 v2 v3 v4 v5,cs=#[v0,v1,v2,v3,v4,v5]:=by
 obtain ⟨l⟩:=cs
 match l,h with
 | [a,b,c,d,e,f],_=>exact ⟨a,b,c,d,e,f,rfl⟩
section
variable {w w':World} {S:Nat->Prop} {A:Option Addr} {v:Value} {n c k:Nat}
end
def over (n:Nd) (leaf inner:Int):Bool:=if n.lvl=0 then decide (leaf < n.keys.length) else decide (inner < n.kids.length)
section
variable {S:Nat->Prop} {w:World} {c0 c1 c2 c3 c4 c5:Value} {n:Nd} {right:Int}
end
structure Pm where
 key:List UInt8
 val:List UInt8
 D:Option Mc
 nx:Nat
 level:Int
 sep:List UInt8
 id:Int
 word:Nat
 old:Nd
 nw:Nd
 left:Nd
 right:Nd
 btw:List UInt8
 side:Int
 half:Int
 fresh:Int
 root:Int
 there:Bool
 err:Int
def Pm.goes (m:Pm):Pm:={m with nx:=1,D:=some (Mc.new m.sep m.level)}
def Pm.ends (m:Pm) (e:Int):Pm:={m with nx:=20,err:=e,there:=m.there&&decide (e=0)}
def valFit (v:List UInt8):Bool:=decide (v.length<=256)
def Pm.idle (key val:List UInt8):Pm:=⟨key,val,none,0,0,key,0,0,Nd.zero,Nd.zero,Nd.zero,Nd.zero,[],0,0,0,0,false,0⟩
def Pm.new (key val:List UInt8):Pm:=if keyFit key=true/\valFit val=true then (Pm.idle key val).goes else Pm.idle key val
abbrev Ps:=(Bool × Bool) × Ar × Pm
def no (A:Ar) (m:Pm):Ps:=((false,false),A,m)
def onP (A:Ar) (m:Pm) (e:Int) (next:Nat):Ps:=if e=0 then no A {m with nx:=next} else ((true,false),A,m.ends e)
def downP (A:Ar) (m:Pm):Ps:=match m.D with
 | none=>no A m
 | some d=>if (stepM A d).nx=.done then
   let d:=stepM A d
   let m:={m with D:=some d,id:=d.outId,word:=d.outWord,old:=d.outNd}
   if (0:Int) < m.id then no A {m with nx:=2}
   else if (0:Int) < m.level then no A {m with nx:=14}
   else ((true,false),A,m.ends 101)
  else no A {m with D:=some (stepM A d)}
def newP (m:Pm):Nd:=if m.level=0 then wth m.old m.key m.val else jnd m.old m.sep m.half
def lockP (leaf inner:Int) (A:Ar) (m:Pm):Ps:=
 let (took,e,A'):=opLock A m.id m.word
 if e≠0 then ((true,false),A',m.ends e)
 else if took=false then no A' m.goes
 else if m.level=0 then no A' {m with there:=has m.old.keys m.sep,nw:=newP m,nx:=if over (newP m) leaf inner then 6 else 3}
 else if has m.old.keys m.sep then no A' {m with nx:=5}
 else no A' {m with nw:=newP m,nx:=if over (newP m) leaf inner then 6 else 3}
def givesP (A:Ar) (m:Pm):Ps:=
 let (e,A'):=opUnlock A m.id (decide (m.nx=4))
 if e≠0 then ((true,false),A',m.ends e)
 else if m.nx=7/\m.level=0 then ((true,true),A',m.ends 2)
 else ((true,decide (m.level=0)),A',m.ends 0)
def slotP (A:Ar) (m:Pm):Ps:=
 let (id,e,A'):=opAlloc A
 if m.nx=15/\e≠0 then ((true,false),A',m.ends 0)
 else if m.nx=15 then no A' {m with root:=id,nx:=16}
 else if e≠0 then no A' {m with nx:=7}
 else no A' {m with fresh:=id,left:=spL m.nw id,right:=spR m.nw,btw:=spK m.nw,nx:=8}
def rootNd (m:Pm):Nd:=⟨m.level,[],0,[m.sep],[],[m.side,m.half]⟩
def stepP (leaf inner:Int) (A:Ar) (m:Pm):Ps:=match m.nx with
 | 0=>((true,true),A,m.ends 3)
 | 1=>downP A m
 | 2=>lockP leaf inner A m
 | 3=>let (e,A'):=opSetBody A m.id m.nw;onP A' m e 4
 | 4=>givesP A m
 | 5=>givesP A m
 | 6=>slotP A m
 | 7=>givesP A m
 | 8=>let (e,A'):=opSetHead A m.fresh m.right;onP A' m e 9
 | 9=>let (e,A'):=opSetBody A m.fresh m.right;onP A' m e 10
 | 10=>let (e,A'):=opUnlock A m.fresh true;onP A' m e 11
 | 11=>let (e,A'):=opSetHead A m.id m.left;onP A' m e 12
 | 12=>let (e,A'):=opSetBody A m.id m.left;onP A' m e 13
 | 13=>let (e,A'):=opUnlock A m.id true
  if e≠0 then ((true,false),A',m.ends e)
  else ((false,decide (m.level=0)),A',({m with side:=m.id,half:=m.fresh,sep:=m.btw,level:=m.level+1}:Pm).goes)
 | 14=>if A.root≠m.side then ((true,false),A,m.ends 0) else no A {m with nx:=15}
 | 15=>slotP A m
 | 16=>let (e,A'):=opSetHead A m.root (rootNd m);onP A' m e 17
 | 17=>let (e,A'):=opSetBody A m.root (rootNd m);onP A' m e 18
 | 18=>let (e,A'):=opUnlock A m.root true;onP A' m e 19
 | 19=>let (grown,e,A'):=opGrow A m.side m.root
  if grown=true\/e≠0 then ((true,false),A',m.ends e) else no A' m.goes
 | _=>((true,false),A,m)
def Pm.out (m:Pm):Bool × Int:=if m.nx=20 then (m.there,m.err) else (false,0)
section
variable {leaf inner:Int} {A:Ar} {m:Pm}
theorem stepP_through (h:m.nx=20):stepP leaf inner A m=((true,false),A,m):=by unfold stepP;split<;>first|rfl|(rename_i h2;rw [h] at h2;cases h2)
theorem onP_keeps (A:Ar) (m:Pm) (e:Int) (n:Nat):(onP A m e n).2.2.key=m.key/\(onP A m e n).2.2.val=m.val:=by unfold onP no Pm.ends;split<;>exact ⟨rfl,rfl⟩
theorem downP_keeps (A:Ar) (m:Pm):(downP A m).2.2.key=m.key/\(downP A m).2.2.val=m.val:=by
 unfold downP no Pm.ends
 split
 ·exact ⟨rfl,rfl⟩
 ·split
  ·simp only
   split
   ·exact ⟨rfl,rfl⟩
   ·split<;>exact ⟨rfl,rfl⟩
  ·exact ⟨rfl,rfl⟩
theorem givesP_keeps (A:Ar) (m:Pm):(givesP A m).2.2.key=m.key/\(givesP A m).2.2.val=m.val:=by
 unfold givesP Pm.ends
 simp only
 repeat' split
 all_goals exact ⟨rfl,rfl⟩
theorem slotP_keeps (A:Ar) (m:Pm):(slotP A m).2.2.key=m.key/\(slotP A m).2.2.val=m.val:=by
 unfold slotP no Pm.ends
 simp only
 repeat' split
 all_goals exact ⟨rfl,rfl⟩
theorem lockP_keeps (A:Ar) (m:Pm):(lockP leaf inner A m).2.2.key=m.key/\(lockP leaf inner A m).2.2.val=m.val:=by
 unfold lockP no Pm.ends Pm.goes
 simp only
 repeat' split
 all_goals exact ⟨rfl,rfl⟩
theorem stepP_keeps:(stepP leaf inner A m).2.2.key=m.key/\(stepP leaf inner A m).2.2.val=m.val:=by
 unfold stepP
 split
 any_goals first|exact downP_keeps _ _|exact lockP_keeps _ _|exact givesP_keeps _ _|exact slotP_keeps _ _|exact onP_keeps _ _ _ _
 ·exact ⟨rfl,rfl⟩
 ·simp only
  split<;>exact ⟨rfl,rfl⟩
 ·split<;>exact ⟨rfl,rfl⟩
 ·simp only
  split<;>exact ⟨rfl,rfl⟩
 ·exact ⟨rfl,rfl⟩
end
section
variable {S T:Nat->Prop} {w:World} {v b:Value} {ls:List (List UInt8)} {x:List UInt8} {i:Nat}
end
section
variable {S T U:Nat->Prop} {w:World} {c0 c1 c2 c3 c4 c5 ck cv:Value} {n:Nd} {key val:List UInt8}
end
theorem rs_swap:∀ (a b:List UInt8),cmp b a=-cmp a b
 | [],[]=>rfl
 | [],_::_=>rfl
 | _::_,[]=>rfl
 | x::a,y::b=>by
  rw [cmp_cons,cmp_cons]
  by_cases h1:x < y
  ·rw [if_pos h1,if_neg (λ h=>absurd (UInt8.lt_trans h1 h) (UInt8.lt_irrefl x)),if_pos h1];rfl
  ·by_cases h2:y < x
   ·rw [if_pos h2,if_neg h1,if_pos h2]
   ·rw [if_neg h2,if_neg h1,if_neg h1,if_neg h2]
    exact rs_swap a b
theorem rs_tail {x:List UInt8} {l:List (List UInt8)} (h:Rise (x::l)):Rise l:=λ j a b ha hb=>h (j+1) a b (by simpa using ha) (by simpa using hb)
theorem rs_below_iff {key:List UInt8}:∀ {l:List (List UInt8)},Rise l->∀ (j:Nat) (x:List UInt8),l[j]?=some x->(cmp x key < 0 ↔ j < below l key)
 | [],_,j,x,hx=>by simp at hx
 | y::l,h,j,x,hx=>by
  have hl:below (y::l) key=below l key+if cmp y key < 0 then 1 else 0:=by unfold below;rw [List.countP_cons];simp
  by_cases hy:cmp y key < 0
  ·rw [hl,if_pos hy]
   cases j with
   | zero=>simp at hx;subst hx;exact ⟨λ _=>by omega,λ _=>hy⟩
   | succ j=>
    have:=rs_below_iff (key:=key) (rs_tail h) j x (by simpa using hx)
    rw [this];omega
  ·have hz:below l key=0:=by
    unfold below
    rw [List.countP_eq_zero]
    intro z hz
    obtain ⟨i,hi⟩:=List.mem_iff_getElem?.1 hz
    have h1:=rise_lt' h (i:=0) (j:=i+1) (by omega) (a:=y) (b:=z) rfl (by simpa using hi)
    simp only [decide_eq_true_eq]
    intro h2
    exact hy (cmp_lt_trans _ _ _ h1 h2)
   rw [hl,if_neg hy,hz]
   constructor
   ·intro h1
    exfalso
    cases j with
    | zero=>simp at hx;subst hx;exact hy h1
    | succ j=>exact hy (cmp_lt_trans _ _ _ (rise_lt' h (i:=0) (j:=j+1) (by omega) rfl hx) h1)
   ·intro h1;omega
theorem rs_ins {l:List (List UInt8)} {key:List UInt8} (h:Rise l) (hh:has l key=false):Rise (ins l (below l key) key):=by
 intro j a b ha hb
 have hle:=below_le l key
 rw [ins_get _ _ _ hle] at ha hb
 have hne:∀ x ∈ l,cmp x key≠0:=λ x hx h0=>by
  have:has l key=true:=by unfold has;exact List.any_eq_true.2 ⟨x,hx,by simpa using h0⟩
  rw [hh] at this;cases this
 by_cases h1:j+1 < below l key
 ·rw [if_pos (by omega)] at ha
  rw [if_pos h1] at hb
  exact h j a b ha hb
 ·by_cases h2:j+1=below l key
  ·rw [if_pos (by omega)] at ha
   rw [if_neg (by omega),if_pos h2] at hb
   cases hb
   exact (rs_below_iff h j a ha).2 (by omega)
  ·by_cases h3:j=below l key
   ·rw [if_neg (by omega),if_pos h3] at ha
    rw [if_neg (by omega),if_neg (by omega)] at hb
    cases ha
    have hb':l[j]?=some b:=by rw [<-hb];congr 1
    have h4:¬cmp b key < 0:=λ hc=>by have:=(rs_below_iff h j b hb').1 hc;omega
    have h5:=hne b (List.mem_of_getElem? hb')
    rw [rs_swap b key]
    rcases cmp_cases b key with hc|hc|hc<;>omega
   ·rw [if_neg (by omega),if_neg h3] at ha
    rw [if_neg (by omega),if_neg (by omega)] at hb
    exact h (j-1) a b ha (by rw [<-hb];congr 1;omega)
theorem rs_take {l:List (List UInt8)} (h:Rise l) (k:Nat):Rise (l.take k):=λ j a b ha hb=>by
 rw [List.getElem?_take] at ha hb
 split at ha
 ·split at hb
  ·exact h j a b ha hb
  ·cases hb
 ·cases ha
theorem rs_drop {l:List (List UInt8)} (h:Rise l) (k:Nat):Rise (l.drop k):=λ j a b ha hb=>by
 rw [List.getElem?_drop] at ha hb
 exact h (k+j) a b ha (by rw [<-hb];congr 1)
/-! ### a leaf with a key more, an inner node with a child more -/
theorem right_iff {n:Nd}:right n=true ↔ Rise n.keys/\(n.lvl=0->n.vals.length=n.keys.length/\n.kids.length=0)/\(n.lvl≠0->0 < n.lvl/\n.vals.length=0/\n.kids.length=n.keys.length+1):=by
 unfold right
 rw [<-rises_iff]
 by_cases h:n.lvl=0
 ·rw [if_pos h]
  simp only [Bool.and_eq_true,decide_eq_true_eq]
  exact ⟨λ ⟨a,b,c⟩=>⟨a,λ _=>⟨b,c⟩,λ hh=>absurd h hh⟩,λ ⟨a,b,_⟩=>⟨a,b h⟩⟩
 ·rw [if_neg h]
  simp only [Bool.and_eq_true,decide_eq_true_eq]
  exact ⟨λ ⟨a,b,c,d⟩=>⟨a,λ hh=>absurd hh h,λ _=>⟨b,c,d⟩⟩,λ ⟨a,_,b⟩=>⟨a,b h⟩⟩
theorem right_zero:right Nd.zero=true:=by decide
section
variable {n:Nd} {key val:List UInt8} {r:Int}
theorem right_with (h:right n=true) (hl:n.lvl=0):right (wth n key val)=true/\(wth n key val).lvl=0:=by
 obtain ⟨h1,h2,_⟩:=right_iff.1 h
 obtain ⟨h3,h4⟩:=h2 hl
 unfold wth
 cases hh:has n.keys key with
 | true=>
  rw [if_pos rfl]
  exact ⟨right_iff.2 ⟨h1,λ _=>⟨by simpa using h3,h4⟩,λ hne=>absurd hl hne⟩,hl⟩
 | false=>
  rw [if_neg (by decide)]
  have hb:=below_le n.keys key
  exact ⟨right_iff.2 ⟨rs_ins h1 hh,λ _=>⟨by rw [ins_len _ _ _ (by omega),ins_len _ _ _ hb,h3],h4⟩,λ hne=>absurd hl hne⟩,hl⟩
theorem right_spL (h:right n=true):right (spL n r)=true:=by
 obtain ⟨h1,h2,h3⟩:=right_iff.1 h
 unfold spL
 split
 ·exact h
 ·rename_i hb
  split
  ·rename_i hl
   obtain ⟨h4,h5⟩:=h2 hl
   exact right_iff.2 ⟨rs_take h1 _,λ _=>⟨by simp only [List.length_take];omega,h5⟩,λ hne=>absurd hl hne⟩
  ·rename_i hl
   obtain ⟨h4,h5,h6⟩:=h3 hl
   have hm:2<=spM n:=by unfold spBad at hb;omega
   have hk:spM n=n.kids.length:=by unfold spM;rw [if_neg hl]
   refine right_iff.2 ⟨rs_take h1 _,λ he=>absurd he hl,λ _=>⟨h4,h5,?_⟩⟩
   simp only [List.length_take]
   unfold spH
   omega
theorem right_spR (h:right n=true):right (spR n)=true:=by
 obtain ⟨h1,h2,h3⟩:=right_iff.1 h
 unfold spR
 split
 ·exact right_zero
 ·rename_i hb
  split
  ·rename_i hl
   obtain ⟨h4,h5⟩:=h2 hl
   exact right_iff.2 ⟨rs_drop h1 _,λ _=>⟨by simp only [List.length_drop];omega,h5⟩,λ hne=>absurd hl hne⟩
  ·rename_i hl
   obtain ⟨h4,h5,h6⟩:=h3 hl
   have hm:2<=spM n:=by unfold spBad at hb;omega
   have hk:spM n=n.kids.length:=by unfold spM;rw [if_neg hl]
   refine right_iff.2 ⟨rs_drop h1 _,λ he=>absurd he hl,λ _=>⟨h4,h5,?_⟩⟩
   simp only [List.length_drop]
   unfold spH
   omega
/-! ### sizes -/
end
end Go.Proofs.Ytjcgphhpaenjkaa

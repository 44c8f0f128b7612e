import Derived.Test.YtjcgphhpaenjkaaPkA6
set_option maxHeartbeats 64000000
set_option maxRecDepth 100000
set_option linter.unusedVariables false
namespace Go.Proofs.Ytjcgphhpaenjkaa
open Go.RowKit Go.Maps
def headOk (n:Nd) (nodes:Int):Bool:=decide (0<=n.lvl/\n.lvl<=32)&&(decide (0<=n.right/\n.right<=nodes)&&((((n.high.length:Int)==0)==(n.right==0))&&decide ((n.high.length:Int)<=64)))
def keysOk (n:Nd):Bool:=rises n.keys&&!(n.keys.any (keyBad n.high))
def formOk (n:Nd) (a0 a1 a2:Int):Bool:=if n.lvl=0 then leafOk n a1 else innerOk n a0 a2
def mayE (n:Nd) (a0 a1 a2 a3 a4:Int):Int:=if confOk a0 a1 a2 a3 a4 then (if headOk n a0&&(keysOk n&&formOk n a0 a1 a2) then 0 else 91) else 1
section
variable {S T:Nat->Prop} {w:World} {c0 c1 c2 c3 c4 c5:Value} {n:Nd}
theorem checkP {a0 a1 a2 a3 a4:Int} (h:IsNd w S c0 c1 c2 c3 c4 c5 n) (hw:∀ k ∈ n.kids,K64 k) (hz:NdSm 0 n):Calls Try.prog 71 #[.agg #[c0,c1,c2,c3,c4,c5],.agg #[.int .i64 a0,.int .i64 a1,.int .i64 a2,.int .i64 a3,.int .i64 a4]] w λ e w'=>e=.returned (.int .i64 (mayE n a0 a1 a2 a3 a4))/\Keeps Nob w w':=by
 obtain ⟨X1,k1,e1,y1,z1⟩:=h.1.high.form
 obtain ⟨X3,k3,e3,y3,z3⟩:=h.2.keys.form
 obtain ⟨X4,k4,e4,y4,z4⟩:=h.2.vals.form
 obtain ⟨X5,k5,e5,y5,z5⟩:=h.2.kids.form
 have e0:=h.1.lvl
 have e2:=h.1.right
 unfold iV at e0 e2
 subst e0 e1 e2 e3 e4 e5
 have HN0:=Hd h
 have HL:=λ wx (k:Keeps Nob w wx)=>leafP (a0:=a0) (a1:=a1) (a2:=a2) (a3:=a3) (a4:=a4) (HN0.out.keeps k (λ _ _ _=>id))
 have HI:=λ wx (k:Keeps Nob w wx)=>innerP (a0:=a0) (a1:=a1) (a2:=a2) (a3:=a3) (a4:=a4) (HN0.out.keeps k (λ _ _ _=>id)) hw hz
 have HC:=λ wx=>confP a0 a1 a2 a3 a4 wx
 clear h y1 y3 y4 y5 z1 z3 z4 z5 hw hz
 unfold mayE headOk keysOk formOk
 unfold confE at HC
 obtain ⟨bc,hbc⟩:∃ b,confOk a0 a1 a2 a3 a4=b:=⟨_,rfl⟩
 obtain ⟨b0,hb0⟩:∃ b,decide (0<=n.lvl/\n.lvl<=32)=b:=⟨_,rfl⟩
 obtain ⟨b1,hb1⟩:∃ b,decide (0<=n.right/\n.right<=a0)=b:=⟨_,rfl⟩
 obtain ⟨b2,hb2⟩:∃ b,(((n.high.length:Int)==0)==(n.right==0))=b:=⟨_,rfl⟩
 obtain ⟨b3,hb3⟩:∃ b,decide ((n.high.length:Int)<=64)=b:=⟨_,rfl⟩
 obtain ⟨br,hbr⟩:∃ b,rises n.keys=b:=⟨_,rfl⟩
 obtain ⟨bk,hbk⟩:∃ b,n.keys.any (keyBad n.high)=b:=⟨_,rfl⟩
 obtain ⟨bl,hbl⟩:∃ b,leafOk n a1=b:=⟨_,rfl⟩
 obtain ⟨bi,hbi⟩:∃ b,innerOk n a0 a2=b:=⟨_,rfl⟩
 rw [hbc] at HC ⊢
 rw [hb0,hb1,hb2,hb3,hbr,hbk,hbl,hbi]
 rw [hbl] at HL
 rw [hbi] at HI
 have H0:=Hd hb0
 have H1:=Hd hb1
 have H2:=Hd hb2
 have H3:=Hd hb3
 have HRI:∀ wx,Keeps Nob w wx->Calls Try.prog 83 #[.slice X3 n.keys.length k3] wx λ e w'=>e=.returned (.bool br)/\Keeps Nob wx w':=λ wx k=>by
  have:=risingP (HN0.out.keeps k (λ _ _ _=>id)).2.keys
  rwa [hbr] at this
 have HCO:∀ wx N,Keeps Nob w wx->Blk wx N 75 #[.int .i64 n.lvl,.slice X1 n.high.length k1,.int .i64 n.right,.slice X3 n.keys.length k3,.slice X4 n.vals.length k4,.slice X5 n.kids.length k5]->Calls Try.prog 84 #[.slice X3 n.keys.length k3,.func (.func 85) #[] #[.pointer (some ⟨N,0,none⟩)]] wx λ e w'=>e=.returned (.bool bk)/\Keeps Nob wx w':=λ wx N k hb=>by
  have hn:=HN0.out.keeps k (λ _ _ _=>id)
  have:=containsC (p:=keyBad n.high) (q:=some ⟨N,0,none⟩) hn.2.keys (λ W u x hkW hx=>keyF (hb.keeps hkW id) (hn.keeps hkW (λ _ _ _=>id)).1.high hx)
  rwa [hbk] at this
 clear hbc hb0 hb1 hb2 hb3 hbr hbk hbl hbi
 cases bc
 ·have HCC:=Hd HC
  clear HC HL HI HRI HCO H0 H1 H2 H3
  go_enter Try.func71,Try.ntmps71
  go_wp2_with fail
  refine calls_at (λ wa hw=>?_)
  have hka:Keeps Nob w wa:=by rw [hw];exact (Keeps.alloc _ _ _).alloc' _
  have HK:=Hd hka
  clear hw hka
  refine (HCC.out wa).mono ?_
  rintro e w1 ⟨rfl,hk1⟩
  have HK1:=Hd (HK.out.trans hk1 (λ _ _ h=>h))
  clear hk1
  go_wp2
  go_ret
  exact ⟨rfl,HK1.out⟩
 ·have hmf:∀ (fn:Fn) (first cap:Array Value) (w:World),(Instr.makeFunc fn first cap).run Try.prog w=.ok (.func fn first cap) w:=λ _ _ _ _=>rfl
  have HCC:=Hd HC
  clear HC
  go_enter Try.func71,Try.ntmps71
  go_wp2_with fail
  refine calls_at (λ wa hw=>?_)
  obtain ⟨N,hN⟩:∃ N,w.heap.size=N:=⟨_,rfl⟩
  have hka:Keeps Nob w wa:=by rw [hw];exact (Keeps.alloc _ _ _).alloc' _
  have BN:Blk wa N 75 #[.int .i64 n.lvl,.slice X1 n.high.length k1,.int .i64 n.right,.slice X3 n.keys.length k3,.slice X4 n.vals.length k4,.slice X5 n.kids.length k5]:=by rw [hw,<-hN];exact (Blk.new w _ _).alloc _
  have BC:Blk wa (N+1) 23 #[.int .i64 a0,.int .i64 a1,.int .i64 a2,.int .i64 a3,.int .i64 a4]:=by rw [hw,<-hN];exact Blk.new' (by simp) _ _
  rw [hN]
  have HBN:=Hd BN
  have HBC:=Hd BC
  have HK:=Hd hka
  clear hw hN BN BC hka
  refine (HCC.out wa).mono ?_
  rintro e w1 ⟨rfl,hk1⟩
  replace HBN:=Hd (HBN.out.keeps hk1 id)
  replace HBC:=Hd (HBC.out.keeps hk1 id)
  replace HK:=Hd (HK.out.trans hk1 (λ _ _ h=>h))
  have q:=λ i=>HBN.out.cell i
  have q2:=λ i=>HBC.out.cell i
  have hb2:=H2.out
  have hb3:=H3.out
  clear hk1 HCC
  go_wp2_with (first
   | (go_at_call 70;refine (betweenP _ _ _ _).mono ?_;rintro e w2 ⟨rfl,rfl⟩;(first|rw [H0.out]|rw [H1.out]))
   | (go_at_call 83;refine (HRI _ HK.out).mono ?_;rintro e w2 ⟨rfl,hk1⟩;replace HBN:=Hd (HBN.out.keeps hk1 id);replace HBC:=Hd (HBC.out.keeps hk1 id);replace HK:=Hd (HK.out.trans hk1 (λ _ _ h=>h));have q:=λ i=>HBN.out.cell i;have q2:=λ i=>HBC.out.cell i;clear hk1)
   | (go_at_call 84;refine (HCO _ N HK.out HBN.out).mono ?_;rintro e w2 ⟨rfl,hk1⟩;replace HBN:=Hd (HBN.out.keeps hk1 id);replace HBC:=Hd (HBC.out.keeps hk1 id);replace HK:=Hd (HK.out.trans hk1 (λ _ _ h=>h));have q:=λ i=>HBN.out.cell i;have q2:=λ i=>HBC.out.cell i;clear hk1)
   | (go_at_call 88;refine (HL _ HK.out).mono ?_;rintro e w2 ⟨rfl,hk1⟩;replace HK:=Hd (HK.out.trans hk1 (λ _ _ h=>h));clear hk1)
   | (go_at_call 87;refine (HI _ HK.out).mono ?_;rintro e w2 ⟨rfl,hk1⟩;replace HK:=Hd (HK.out.trans hk1 (λ _ _ h=>h));clear hk1))
  all_goals
   go_ret
   first
    | exact ⟨rfl,HK.out⟩
    | (refine ⟨?_,HK.out⟩;simp_all)
end
end Go.Proofs.Ytjcgphhpaenjkaa
namespace Go.Proofs.Ytjcgphhpaenjkaa
open Go.RowKit
structure Rp where
 sound:Bool
 node:Int
 err:Int
 levels:Int
 nodes:Int
 entries:Int
 deriving DecidableEq
def Rp.wrong (id e:Int):Rp:=⟨false,id,e,0,0,0⟩
def Rp.ok:Rp:=⟨true,0,0,0,0,0⟩
abbrev Ch:=List (Int × List UInt8)
def keyBelow (low:List UInt8):List (List UInt8)->Bool
 | []=>false
 | k::_=>decide (cmp k low < 0)
def lowBad (low:List UInt8) (n:Nd):Bool:=
 decide (0 < low.length)&&(keyBelow low n.keys||(decide (0 < n.high.length)&&decide (cmp n.high low<=0)))
def chainM (A:Ar) (chk:Nd->Int) (level:Int):Nat->Int->List UInt8->List Int->Ch->Ch × List Int × Rp
 | 0,_,_,met,acc=>(acc,met,.ok)
 | f+1,id,low,met,acc=>match A.get id with
  | none=>(acc,met,.wrong id 101)
  | some s=>
   if met.contains id=true then (acc,met,.wrong id 112)
   else if s.nd.lvl≠level then (acc,met,.wrong id 111)
   else if chk s.nd≠0 then (acc,met,.wrong id (chk s.nd))
   else if lowBad low s.nd=true then (acc,met,.wrong id 112)
   else if s.nd.right=0 then (acc++[(id,low)],met++[id],.ok)
   else chainM A chk level f s.nd.right s.nd.high (met++[id]) (acc++[(id,low)])
def kidOk (down:Ch) (kid:Int) (want:List UInt8):Bool:=down.any (λ d=>d.1==kid&&d.2==want)
def wantLow (low:List UInt8) (n:Nd) (k:Nat):List UInt8:=if k=0 then low else n.keys.getD (k-1) []
def nodeKids (down:Ch) (low:List UInt8) (n:Nd):Bool:=(List.range n.kids.length).all (λ k=>kidOk down (n.kids.getD k 0) (wantLow low n k))
def kidsM (A:Ar) (down:Ch):Ch->Rp
 | []=>.ok
 | (id,low)::r=>if nodeKids down low (opNd A id)=true then kidsM A down r else .wrong id 113
def firstKid (A:Ar) (l:Ch):Int:=match l with
 | []=>0
 | e::_=>(opNd A e.1).kids.getD 0 0
def kidsLast (A:Ar) (out:List Ch) (l:Ch):Rp:=match out.getLast? with
 | none=>.ok
 | some up=>kidsM A l up
def levelsFrom (A:Ar) (chk:Nd->Int):Nat->Int->Int->List Int->List Ch->List Ch × Rp
 | 0,_,_,_,out=>(out,.ok)
 | f+1,level,first,met,out=>
  let c:=chainM A chk level (A.sl.length+1-met.length) first [] met []
  if c.2.2.sound=false then ([],c.2.2)
  else if (kidsLast A out c.1).sound=false then ([],kidsLast A out c.1)
  else if level=0 then (out++[c.1],.ok)
  else levelsFrom A chk f (level-1) (firstKid A c.1) c.2.1 (out++[c.1])
def chkM (a0 a1 a2 a3 a4:Int) (n:Nd):Int:=mayE n a0 a1 a2 a3 a4
def levelsM (A:Ar) (a0 a1 a2 a3 a4:Int):List Ch × Rp:=
 if confOk a0 a1 a2 a3 a4=false then ([],.wrong 0 1)
 else match heldFrom 1 A.sl with
 | h::_=>([],.wrong h 102)
 | []=>match A.get A.root with
  | none=>([],.wrong A.root 101)
  | some s=>levelsFrom A (chkM a0 a1 a2 a3 a4) (s.nd.lvl.toNat+1) s.nd.lvl A.root [] []
def MetA (A:Ar) (met:List Int):Prop:=met.Nodup/\∀ x ∈ met,1<=x/\x<=A.sl.length
section
variable {A:Ar} {chk:Nd->Int} {level id:Int} {low:List UInt8} {met:List Int} {acc l:Ch} {s:Sl}
theorem nodup_le {α:Type} [BEq α] [LawfulBEq α]:∀ (l m:List α),l.Nodup->(∀ x ∈ l,x ∈ m)->l.length<=m.length
 | [],_,_,_=>Nat.zero_le _
 | x::l,m,hn,hs=>by
  have hx:=hs x (List.mem_cons_self ..)
  rw [List.nodup_cons] at hn
  have ih:=nodup_le l (m.erase x) hn.2 (λ y hy=>(List.mem_erase_of_ne (λ e:y=x=>hn.1 (e▸hy))).2 (hs y (List.mem_cons_of_mem _ hy)))
  have h1:=List.length_erase_of_mem hx
  have h2:=List.length_pos_of_mem hx
  simp only [List.length_cons]
  omega
theorem MetA.len (h:MetA A met):met.length<=A.sl.length:=by
 obtain ⟨h1,h2⟩:=h
 have hsub:(met.map (λ x=>x.toNat-1)) ⊆ List.range A.sl.length:=λ y hy=>by
  obtain ⟨x,hx,rfl⟩:=List.mem_map.1 hy
  have:=h2 x hx
  exact List.mem_range.2 (by omega)
 have hnd:(met.map (λ x=>x.toNat-1)).Nodup:=by
  rw [List.nodup_iff_pairwise_ne,List.pairwise_map]
  refine List.Pairwise.imp_of_mem ?_ h1
  intro a b ha hb hab e
  have:=h2 a ha;have:=h2 b hb
  exact hab (by omega)
 have:=nodup_le _ _ hnd (λ x hx=>hsub hx)
 simpa using this
theorem MetA.snoc (h:MetA A met) (hs:A.get id=some s) (hm:met.contains id=false):MetA A (met++[id]):=by
 obtain ⟨h1,h2⟩:=h
 refine ⟨?_,λ x hx=>?_⟩
 ·rw [List.nodup_append]
  refine ⟨h1,by simp,λ a ha b hb e=>?_⟩
  simp at hb
  subst hb e
  have:met.contains a=true:=by simpa using ha
  rw [hm] at this;cases this
 ·rcases List.mem_append.1 hx with hx|hx
  ·exact h2 x hx
  ·simp at hx;subst hx;exact get_le hs
theorem chainM_round (hmet:MetA A met):chainM A chk level (A.sl.length+1-met.length) id low met acc=match A.get id with
  | none=>(acc,met,.wrong id 101)
  | some s=>
   if met.contains id=true then (acc,met,.wrong id 112)
   else if s.nd.lvl≠level then (acc,met,.wrong id 111)
   else if chk s.nd≠0 then (acc,met,.wrong id (chk s.nd))
   else if lowBad low s.nd=true then (acc,met,.wrong id 112)
   else if s.nd.right=0 then (acc++[(id,low)],met++[id],.ok)
   else chainM A chk level (A.sl.length+1-(met++[id]).length) s.nd.right s.nd.high (met++[id]) (acc++[(id,low)]):=by
 have hl:=hmet.len
 obtain ⟨f,hf⟩:∃ f,A.sl.length+1-met.length=f+1:=⟨A.sl.length-met.length,by omega⟩
 have hf2:A.sl.length+1-(met++[id]).length=f:=by simp;omega
 rw [hf,hf2]
 rfl
end
structure May (n:Nd) (a0 a1 a2:Int):Prop where
 lvl:0<=n.lvl/\n.lvl<=32
 right:0<=n.right/\n.right<=a0
 high:n.high.length=0 ↔ n.right=0
 high64:n.high.length<=64
 rise:Rise n.keys
 key:∀ k ∈ n.keys,(1<=k.length/\k.length<=64)/\beyond n.high k=false
 leaf:n.lvl=0->n.vals.length=n.keys.length/\(n.keys.length:Int)<=a1/\n.kids=[]/\∀ v ∈ n.vals,v.length<=256
 inner:n.lvl≠0->n.kids.Nodup/\(∀ k ∈ n.kids,1<=k/\k<=a0)/\n.vals=[]/\n.kids.length=n.keys.length+1/\(n.kids.length:Int)<=a2
theorem keyBad_iff (high x:List UInt8):keyBad high x=false ↔ (1<=x.length/\x.length<=64)/\beyond high x=false:=by
 unfold keyBad
 rw [Bool.or_eq_false_iff]
 simp only [Bool.not_eq_false',decide_eq_true_eq]
 constructor
 ·rintro ⟨h1,h2⟩;exact ⟨by omega,h2⟩
 ·rintro ⟨h1,h2⟩;exact ⟨by omega,h2⟩
theorem may_iff {n:Nd} {a0 a1 a2 a3 a4:Int} (hc:confOk a0 a1 a2 a3 a4=true):mayE n a0 a1 a2 a3 a4=0 ↔ May n a0 a1 a2:=by
 unfold mayE
 rw [if_pos hc]
 have hh:headOk n a0=true ↔ (0<=n.lvl/\n.lvl<=32)/\(0<=n.right/\n.right<=a0)/\(n.high.length=0 ↔ n.right=0)/\n.high.length<=64:=by
  unfold headOk
  simp only [Bool.and_eq_true,decide_eq_true_eq,beq_iff_eq]
  have e:(((n.high.length:Int)==0)=(n.right==0)) ↔ (n.high.length=0 ↔ n.right=0):=by
   rw [Bool.eq_iff_iff];simp
  rw [e]
  constructor
  ·rintro ⟨h1,h2,h3,h4⟩;exact ⟨h1,h2,h3,by omega⟩
  ·rintro ⟨h1,h2,h3,h4⟩;exact ⟨h1,h2,h3,by omega⟩
 have hk:keysOk n=true ↔ Rise n.keys/\∀ k ∈ n.keys,(1<=k.length/\k.length<=64)/\beyond n.high k=false:=by
  unfold keysOk
  rw [Bool.and_eq_true,rises_iff,Bool.not_eq_true',List.any_eq_false]
  constructor
  ·rintro ⟨h1,h2⟩
   exact ⟨h1,λ k hk=>(keyBad_iff _ _).1 (by simpa using h2 k hk)⟩
  ·rintro ⟨h1,h2⟩
   exact ⟨h1,λ k hk=>by rw [(keyBad_iff _ _).2 (h2 k hk)];simp⟩
 have hf:formOk n a0 a1 a2=true ↔ (n.lvl=0->n.vals.length=n.keys.length/\(n.keys.length:Int)<=a1/\n.kids=[]/\∀ v ∈ n.vals,v.length<=256)/\(n.lvl≠0->n.kids.Nodup/\(∀ k ∈ n.kids,1<=k/\k<=a0)/\n.vals=[]/\n.kids.length=n.keys.length+1/\(n.kids.length:Int)<=a2):=by
  unfold formOk
  by_cases hl:n.lvl=0
  ·rw [if_pos hl]
   unfold leafOk
   simp only [Bool.and_eq_true,decide_eq_true_eq,Bool.not_eq_true',List.any_eq_false,List.length_eq_zero_iff]
   constructor
   ·rintro ⟨h1,h2,h3,h4⟩
    refine ⟨λ _=>⟨h1,h2,h3,λ v hv=>?_⟩,λ h=>absurd hl h⟩
    have:=h4 v hv
    unfold valBad at this
    simp at this
    omega
   ·rintro ⟨h1,_⟩
    obtain ⟨h1,h2,h3,h4⟩:=h1 hl
    refine ⟨h1,h2,h3,λ v hv=>?_⟩
    have:=h4 v hv
    unfold valBad
    simp
    omega
  ·rw [if_neg hl]
   unfold innerOk kidsFine
   simp only [Bool.and_eq_true,decide_eq_true_eq,List.all_eq_true,List.length_eq_zero_iff]
   constructor
   ·rintro ⟨⟨h1,h2⟩,h3,h4,h5⟩
    exact ⟨λ h=>absurd h hl,λ _=>⟨h1,h2,h3,h4,h5⟩⟩
   ·rintro ⟨_,h1⟩
    obtain ⟨h1,h2,h3,h4,h5⟩:=h1 hl
    exact ⟨⟨h1,h2⟩,h3,h4,h5⟩
 constructor
 ·intro h
  by_cases hb:(headOk n a0&&(keysOk n&&formOk n a0 a1 a2))=true
  ·simp only [Bool.and_eq_true] at hb
   obtain ⟨b1,b2,b3⟩:=hb
   obtain ⟨g1,g2,g3,g4⟩:=hh.1 b1
   obtain ⟨g5,g6⟩:=hk.1 b2
   obtain ⟨g7,g8⟩:=hf.1 b3
   exact ⟨g1,g2,g3,g4,g5,g6,g7,g8⟩
  ·rw [if_neg hb] at h
   exact absurd h (by decide)
 ·intro h
  rw [hh.2 ⟨h.lvl,h.right,h.high,h.high64⟩,hk.2 ⟨h.rise,h.key⟩,hf.2 ⟨h.leaf,h.inner⟩]
  rfl
def below (l:List (List UInt8)) (k:List UInt8):Nat:=l.countP (λ x=>decide (cmp x k < 0))
def has (l:List (List UInt8)) (k:List UInt8):Bool:=l.any (λ x=>cmp x k==0)
theorem below_le (l k):below l k<=l.length:=List.countP_le_length
theorem below_take (l:List (List UInt8)) (k:List UInt8) (n:Nat):below (l.take n) k<=n:=Nat.le_trans (below_le _ _) (List.length_take_le _ _)
theorem below_succ {l:List (List UInt8)} {k x:List UInt8} {n:Nat} (h:l[n]?=some x):below (l.take (n+1)) k=below (l.take n) k+if cmp x k < 0 then 1 else 0:=by
 rw [List.take_add_one,h]
 unfold below
 rw [List.countP_append]
 simp [List.countP_cons]
theorem has_succ {l:List (List UInt8)} {k x:List UInt8} {n:Nat} (h:l[n]?=some x):has (l.take (n+1)) k=(has (l.take n) k||cmp x k==0):=by
 rw [List.take_add_one,h]
 unfold has
 rw [List.any_append]
 simp
theorem cmp_cons (x y:UInt8) (l m:List UInt8):cmp (x::l) (y::m)=if x < y then -1 else if y < x then 1 else cmp l m:=by
 show Lib.compareBytes (x::l) (y::m)=_
 conv=>lhs;unfold Lib.compareBytes
theorem cmp_lt_trans:∀ (a b c:List UInt8),cmp a b < 0->cmp b c < 0->cmp a c < 0
 | [],[],_,h,_=>absurd h (by decide)
 | [],_::_,[],_,h=>absurd h (by show ¬(1:Int) < 0;decide)
 | [],_::_,_::_,_,_=>by show (-1:Int) < 0;decide
 | _::_,[],_,h,_=>absurd h (by show ¬(1:Int) < 0;decide)
 | _::_,_::_,[],_,h=>absurd h (by show ¬(1:Int) < 0;decide)
 | x::a,y::b,z::c,h1,h2=>by
  rw [cmp_cons] at h1 h2 ⊢
  by_cases hxy:x < y
  ·by_cases hyz:y < z
   ·rw [if_pos (UInt8.lt_trans hxy hyz)];decide
   ·rw [if_neg hyz] at h2
    by_cases hzy:z < y
    ·rw [if_pos hzy] at h2;exact absurd h2 (by decide)
    ·have:y=z:=UInt8.le_antisymm (UInt8.not_lt.1 hzy) (UInt8.not_lt.1 hyz)
     subst this
     rw [if_pos hxy];decide
  ·rw [if_neg hxy] at h1
   by_cases hyx:y < x
   ·rw [if_pos hyx] at h1;exact absurd h1 (by decide)
   ·have:x=y:=UInt8.le_antisymm (UInt8.not_lt.1 hyx) (UInt8.not_lt.1 hxy)
    subst this
    rw [if_neg hyx] at h1
    by_cases hxz:x < z
    ·rw [if_pos hxz];decide
    ·rw [if_neg hxz] at h2 ⊢
     by_cases hzx:z < x
     ·rw [if_pos hzx] at h2;exact absurd h2 (by decide)
     ·rw [if_neg hzx] at h2 ⊢
      exact cmp_lt_trans a b c h1 h2
theorem cmp_gt {a b:List UInt8} (h:cmp a b < 0):¬cmp b a < 0/\cmp b a≠0:=by
 refine ⟨λ h2=>?_,λ h2=>?_⟩
 ·have:=cmp_lt_trans a b a h h2
  rw [cmp_self] at this
  exact absurd this (by decide)
 ·have:=cmp_zero b a h2
  subst this
  rw [cmp_self] at h
  exact absurd h (by decide)
theorem rise_lt {l:List (List UInt8)} (h:Rise l) (i:Nat) {a:List UInt8} (ha:l[i]?=some a):∀ (d:Nat) b,l[i+1+d]?=some b->cmp a b < 0
 | 0,b,hb=>h i a b ha hb
 | d+1,b,hb=>by
  have hlt:i+1+d < l.length:=by have:=(List.getElem?_eq_some_iff.1 hb).1;omega
  have hc:l[i+1+d]?=some l[i+1+d]:=List.getElem?_eq_getElem hlt
  exact cmp_lt_trans _ _ _ (rise_lt h i ha d _ hc) (h (i+1+d) _ _ hc (by rw [<-hb];congr 1))
theorem rise_lt' {l:List (List UInt8)} (h:Rise l) {i j:Nat} {a b:List UInt8} (hij:i < j) (ha:l[i]?=some a) (hb:l[j]?=some b):cmp a b < 0:=
 rise_lt h i ha (j-(i+1)) b (by rw [show i+1+(j-(i+1))=j by omega];exact hb)
theorem has_at {l:List (List UInt8)} {key:List UInt8} (h:has l key=true):∃ j:Nat,l[j]?=some key:=by
 unfold has at h
 rw [List.any_eq_true] at h
 obtain ⟨x,hx,hc⟩:=h
 have h0:cmp x key=0:=by simpa using hc
 have:=cmp_zero x key h0
 subst this
 exact List.getElem?_of_mem hx
theorem below_at {l:List (List UInt8)} {key:List UInt8} (h:Rise l) {j:Nat} (hj:l[j]?=some key):below l key=j:=by
 have hlt:j < l.length:=(List.getElem?_eq_some_iff.1 hj).1
 unfold below
 rw [<-List.take_append_drop j l,List.countP_append]
 have h1:(l.take j).countP (λ x=>decide (cmp x key < 0))=j:=by
  have e:(l.take j).length=j:=by rw [List.length_take];omega
  rw [List.countP_eq_length.2 (λ x hx=>?_),e]
  obtain ⟨i,hi⟩:=List.getElem?_of_mem hx
  rw [List.getElem?_take] at hi
  split at hi
  ·rename_i hij
   exact decide_eq_true (rise_lt' h hij hi hj)
  ·cases hi
 have h2:(l.drop j).countP (λ x=>decide (cmp x key < 0))=0:=by
  refine List.countP_eq_zero.2 (λ x hx=>?_)
  obtain ⟨i,hi⟩:=List.getElem?_of_mem hx
  rw [List.getElem?_drop] at hi
  by_cases h0:i=0
  ·subst h0
   rw [Nat.add_zero,hj] at hi
   cases hi
   rw [cmp_self];decide
  ·have:=(cmp_gt (rise_lt' h (show j < j+i by omega) hj hi)).1
   simpa using this
 rw [h1,h2,Nat.add_zero]
theorem at_below {l:List (List UInt8)} {key:List UInt8} (h:Rise l) (hh:has l key=true):l[below l key]?=some key:=by
 obtain ⟨j,hj⟩:=has_at hh
 rw [below_at h hj];exact hj
inductive Nx where
 | root|latch|head|body|valid|done
 deriving DecidableEq
structure Mc where
 key:List UInt8
 level:Int
 nx:Nx
 id:Int
 word:Nat
 nd:Nd
 there:Bool
 again:Int
 right:Int
def Mc.new (key:List UInt8) (level:Int):Mc:=⟨key,level,.root,0,0,Nd.zero,false,0,0⟩
def rootM (A:Ar) (M:Mc):Mc:={M with id:=A.root,nx:=.latch}
def latchM (A:Ar) (M:Mc):Mc:={M with word:=opWord A M.id,nx:=if opWord A M.id % 2=0 then .head else M.nx}
def headM (A:Ar) (M:Mc):Mc:={M with nd:=withHd M.nd (opNd A M.id),nx:=.body}
def bodyM (A:Ar) (M:Mc):Mc:={M with nd:=withHd (opNd A M.id) M.nd,nx:=.valid}
def decideM (now:Nat) (M:Mc):Mc:=
 if now≠M.word then {M with again:=M.again+1,nx:=.root}
 else if M.nd.lvl < M.level then {M with nx:=.done}
 else if beyond M.nd.high M.key then {M with right:=M.right+1,id:=M.nd.right,nx:=.latch}
 else if M.nd.lvl=M.level then {M with there:=true,nx:=.done}
 else {M with id:=childOf M.nd.kids M.nd.keys M.key,nx:=.latch}
def stepM (A:Ar) (M:Mc):Mc:=
 match M.nx with
 | .done=>M
 | .root=>rootM A M
 | .latch=>if opErr A M.id=0 then latchM A M else {latchM A M with nx:=.done}
 | .head=>if opErr A M.id=0 then headM A M else {headM A M with nx:=.done}
 | .body=>if opErr A M.id=0 then bodyM A M else {bodyM A M with nx:=.done}
 | .valid=>if opErr A M.id=0 then decideM (opWord A M.id) M else {M with nx:=.done}
def Mc.low (M:Mc):Prop:=0<=M.again/\M.again < 9223372036854775807/\0<=M.right/\M.right < 9223372036854775807
structure MW (w:World) (t:TypeId) (m a:Nat) (nv:Nx->Value) (S:Nat->Prop) (M:Mc):Prop where
 cells:∃ kv c0 c1 c2 c3 c4 c5,Blk w m t #[pV a,kv,iV M.level,nv M.nx,iV M.id,.int .u64 M.word,c0,c1,c2,c3,c4,c5,.bool M.there,iV M.again,iV M.right]/\Byts w S kv M.key/\IsNd w S c0 c1 c2 c3 c4 c5 M.nd
 u64:U64 M.word
 sm:NdSm 0 M.nd
section
variable {w w':World} {t:TypeId} {m a:Nat} {nv:Nx->Value} {S T N G G':Nat->Prop} {M:Mc} {b p q:Nat} {A B:Ar}
theorem MW.keeps (h:MW w t m a nv S M) (k:Keeps N w w') (hm:¬N m) (hd:∀ x,x < w.heap.size->S x->¬N x):MW w' t m a nv S M:=by
 obtain ⟨⟨kv,c0,c1,c2,c3,c4,c5,hb,hk,hn⟩,hu,hs⟩:=h
 exact ⟨⟨kv,c0,c1,c2,c3,c4,c5,hb.keeps k hm,hk.keeps k hd,hn.keeps k hd⟩,hu,hs⟩
theorem MW.mono (h:MW w t m a nv S M) (hd:∀ x,x < w.heap.size->S x->T x):MW w t m a nv T M:=by
 obtain ⟨⟨kv,c0,c1,c2,c3,c4,c5,hb,hk,hn⟩,hu,hs⟩:=h
 exact ⟨⟨kv,c0,c1,c2,c3,c4,c5,hb,hk.mono hd,hn.mono hd⟩,hu,hs⟩
end
end Go.Proofs.Ytjcgphhpaenjkaa

import Derived.Test.YtjcgphhpaenjkaaGreatPkE3
import Derived.Test.YtjcgphhpaenjkaaGreatPkE1
import Derived.Test.YtjcgphhpaenjkaaGreatPkD5
import Derived.Deep.Cut
import Derived.BigQuiet
import Derived.Test.YtjcgphhpaenjkaaGreatPkA8
import Derived.Test.YtjcgphhpaenjkaaGreatPkE2
import Derived.Recover
set_option maxHeartbeats 64000000
set_option maxRecDepth 100000
set_option linter.unusedVariables false
namespace Go.Proofs.YtjcgphhpaenjkaaGreat
open Go.RowKit
section
variable {S T:Nat->Prop} {w:World} {a c0 c1 c2 c3 c4 c5:Value} {n:Nd} {x:List UInt8}
end
section
variable {S T:Nat->Prop} {w:World} {a c0 c1 c2 c3 c4 c5:Value} {n:Nd} {x:List UInt8}
end
abbrev oL (b:Nat) (x y:Value):Ob:=muBlk b 169 #[x,y]
section
variable {w:World} {M D:Nat->Prop} {q:Nat} {L:Value} {xs:List Value} {A:Ar} {a0 a1 a2 a3 a4 first level:Int} {mv:Value} {met0:List Int}
end
def kidsIn (down:Ch) (low:List UInt8) (n:Nd) (k:Nat):Bool:=(List.range k).all (λ k=>kidOk down (n.kids.getD k 0) (wantLow low n k))
theorem kidsIn_succ {down:Ch} {low:List UInt8} {n:Nd} {k:Nat}:kidsIn down low n (k+1)=(kidsIn down low n k&&kidOk down (n.kids.getD k 0) (wantLow low n k)):=by
 unfold kidsIn
 rw [List.range_succ,List.all_append]
 simp
theorem kidsIn_not {down:Ch} {low:List UInt8} {n:Nd} {k:Nat} (hk:k < n.kids.length) (h:kidOk down (n.kids.getD k 0) (wantLow low n k)=false):nodeKids down low n=false:=by
 unfold nodeKids
 rw [List.all_eq_false]
 exact ⟨k,List.mem_range.2 hk,by rw [h];decide⟩
theorem kidsM_drop {A:Ar} {down up:Ch} {i:Nat} {id:Int} {low:List UInt8} (h:up[i]?=some (id,low)):kidsM A down (up.drop i)=if nodeKids down low (opNd A id)=true then kidsM A down (up.drop (i+1)) else .wrong id 113:=by
 obtain ⟨hi,e⟩:=List.getElem?_eq_some_iff.1 h
 rw [List.drop_eq_getElem_cons hi,e]
 rfl
section
variable {w:World} {M D F F':Nat->Prop} {q:Nat} {L:Value} {xs:List Value} {A:Ar} {up down:Ch} {Uv Uw Nv Nw:Value}
end
section
variable {w w':World} {l:List Ob} {i j n m size:Nat} {a b:Ob} {e:TypeId} {v v':Value} {xs ys:List Value} {F M D:Nat->Prop} {q:Nat} {L Lv Lw:Value} {zs:List Value} {A:Ar} {c:Ch}
theorem Fam.two {G:Nat->Prop} (h:Fam w G l) (hi:l[i]?=some a) (hj:l[j]?=some b) (hij:i≠j):Fam w G [a,b]:=by
 have hcase:∀ (k:Nat) u,[a,b][k]?=some u->(k=0/\u=a)\/(k=1/\u=b):=λ k u hk=>by
  match k,hk with
  | 0,hk=>simp at hk;exact .inl ⟨rfl,hk.symm⟩
  | 1,hk=>simp at hk;exact .inr ⟨rfl,hk.symm⟩
  | k+2,hk=>simp at hk
 refine ⟨λ k u hk=>?_,λ k u hk=>?_,λ k u hk=>?_,λ k u hk=>?_,λ k k' u u' hk hk' hne=>?_⟩
 ·rcases hcase k u hk with ⟨_,rfl⟩|⟨_,rfl⟩
  ·exact h.ok i _ hi
  ·exact h.ok j _ hj
 ·rcases hcase k u hk with ⟨_,rfl⟩|⟨_,rfl⟩
  ·exact h.old i _ hi
  ·exact h.old j _ hj
 ·rcases hcase k u hk with ⟨_,rfl⟩|⟨_,rfl⟩
  ·exact h.wf i _ hi
  ·exact h.wf j _ hj
 ·rcases hcase k u hk with ⟨_,rfl⟩|⟨_,rfl⟩
  ·exact h.off i _ hi
  ·exact h.off j _ hj
 ·rcases hcase k u hk with ⟨rfl,rfl⟩|⟨rfl,rfl⟩
  ·rcases hcase k' u' hk' with ⟨rfl,rfl⟩|⟨rfl,rfl⟩
   ·exact absurd rfl hne
   ·exact h.apart i j _ _ hi hj hij
  ·rcases hcase k' u' hk' with ⟨rfl,rfl⟩|⟨rfl,rfl⟩
   ·exact h.apart j i _ _ hj hi (λ e=>hij e.symm)
   ·exact absurd rfl hne
theorem Chn.nodes {chk:Nd->Int} {a0 a1 a2 level first:Int} {low:List UInt8} (hmay:∀ n,chk n=0->May n a0 a1 a2) (h:Chn A chk level first low c):∀ x ∈ c,∃ s,A.get x.1=some s/\s.nd.kids.length<=s.nd.keys.length+1:=λ x hx=>by
 obtain ⟨c',h',_⟩:=h.mem hx
 obtain ⟨s,r,_,hs,hl,hk,_⟩:=h'.at_
 refine ⟨s,hs,?_⟩
 have hm:=hmay _ hk
 by_cases h0:s.nd.lvl=0
 ·rw [(hm.leaf h0).2.2.1];simp
 ·rw [(hm.inner h0).2.2.2.1];exact Nat.le_refl _
end
section
variable {A:Ar} {c:Ch}
theorem Own.at2 {w:World} {S:Nat->Prop} {e:TypeId} {size n c j:Nat} {A:Option Addr} {xs:List Value} {y:Value} (h:Own w S e size (.slice A n c) n xs) (hn:0 < n) (hj:xs[j]?=some y):∃ g o,A=some ⟨g,o,none⟩/\w.cell? ⟨g,o+j,none⟩=some y:=by
 obtain ⟨_,_,hf⟩:=h.at_
 rcases hf with ⟨_,e⟩|⟨g',o',cur,e,_,hb,_,hx⟩
 ·omega
 ·exact ⟨g',o',e,by rw [hb.cell];exact hx _ _ hj⟩
end
theorem wpS_seqZ {P:Program} {Q:Exit->Act->List Frame->World->Prop} {a:Act} {cs:List Frame} {w:World} {x y:Code} (h:∀ Z:Exit->Act->List Frame->World->Prop,(∀ a cs w,y.wpS P Q a cs w->Z .normal a cs w)->x.wpS P Z a cs w):(Code.seq x y).wpS P Q a cs w:=wpS_seq (h _ (λ _ _ _ h=>h))
theorem catchIdle (a b:Value) (w:World):CallsD Tryz.prog 186 #[a,b] .returning w λ e u' w'=>e=.returned (.tuple #[])/\u'=.returning/\w'=w:=by
 refine callsD_of_wpS Tryz.func186 rfl λ c₀ cs hu=>?_
 refine wpS_seqZ λ Z hZ=>?_
 apply wpS_region
 simp [wpOpsS,go_sem,recoverD,hu,Tryz.ntmps186]
 refine hZ _ _ _ ?_
 clear hZ
 refine wpS_of_wp ?_
 go_wp2
 cases c₀
 simp_all [bodyPostS,results,Tryz.results186]
theorem catchPanic {pa pb:Nat} {v:Value} {x y id err:Int} {older:List PanicEntry} {w:World} (ha:Blk w pa 205 #[v]) (hb:Blk w pb 207 #[.int .i64 x,.int .i64 y]) (hne:pa≠pb) :
  CallsD Tryz.prog 186 #[.pointer (some ⟨pa,0,none⟩),.pointer (some ⟨pb,0,none⟩)] (.panicking ({v:=wrongV id err,recovered:=false}::older)) w λ e u' w'=>e=.returned (.tuple #[])/\u'=.panicking ({v:=wrongV id err,recovered:=true}::older)/\Blk w' pa 205 #[.slice none 0 0]/\Blk w' pb 207 #[.int .i64 id,.int .i64 err]/\Keeps (λ x=>x=pa\/x=pb) w w':=by
 have HA:=Hd ha
 have HB:=Hd hb
 have HNE:=Hd hne
 clear ha hb hne
 unfold wrongV
 refine callsD_of_wpS Tryz.func186 rfl λ c₀ cs hu=>?_
 change Code.wpS _ _ _ {tmps:=#[.pointer (some ⟨pa,0,none⟩),.pointer (some ⟨pb,0,none⟩),undef,undef,undef,undef,undef,undef,undef,undef,undef,undef,undef,undef,undef,undef,undef],defers:=[]} _ _
 refine wpS_seqZ λ Z hZ=>?_
 apply wpS_region
 simp [wpOpsS,go_sem,recoverD,hu]
 refine hZ _ _ _ ?_
 clear hZ
 refine wpS_of_wp ?_
 have hta:∀ w:World,(Instr.typeAssert (.iface 207 (.agg #[.int .i64 id,.int .i64 err])) 20 207 true).run Tryz.prog w=.ok (.tuple #[.agg #[.int .i64 id,.int .i64 err],.bool true]) w:=λ _=>by kernel_rfl
 go_wp2
 refine code_at (λ v0 hw=>?_)
 obtain ⟨N3,hN⟩:∃ N,w.heap.size=N:=⟨_,rfl⟩
 rw [hN]
 have hk:Keeps Nob w v0:=by rw [hw];exact Keeps.alloc _ _ _
 have HC:Hid (Blk v0 N3 207 #[.int .i64 id,.int .i64 err]):=by rw [hw,<-hN];exact Hd (Blk.new _ _ _)
 have HL:Hid (pa < N3/\pb < N3):=by rw [<-hN];exact Hd ⟨HA.out.lt,HB.out.lt⟩
 replace HA:=Hd (HA.out.keeps hk (λ h=>h))
 replace HB:=Hd (HB.out.keeps hk (λ h=>h))
 have K:Hid (Keeps (λ x=>x=pa\/x=pb) w v0):=Hd ((Keeps.refl _ _).trans hk (λ _ _ h=>h.elim))
 clear hw hN hk hta
 refine rC_ [0,1,2] 2 (λ W=>W.cell? ⟨N3,0,none⟩=some (.int .i64 id)/\W.cell? ⟨N3,1,none⟩=some (.int .i64 err)) ⟨HC.out.cell 0,HC.out.cell 1⟩ ?_
 refine canon_at (λ v1 hw=>?_)
 have hk:Keeps Nob v0 v1:=by rw [hw];exact Keeps.drew _ _
 replace HA:=Hd (HA.out.keeps hk (λ h=>h))
 replace HB:=Hd (HB.out.keeps hk (λ h=>h))
 replace HC:=Hd (HC.out.keeps hk (λ h=>h))
 replace K:=tr_ K hk
 clear hw hk
 refine cR_ (v:=?_) rfl ?_ ?_
 rotate_left
 ·intro W hW
  try (obtain ⟨h1,h2⟩:_/\_:=hW)
  go_simp
  try rfl
 simp only [Act.put,sa_,sb_,sc_]
 refine cA_ rfl ?_
 have q0:=HA.out.cell 0
 have f0:=HA.out.frozen 0
 go_wp2
 clear q0 f0
 refine canon_at' (λ v2 hw=>?_)
 have hk:Keeps (λ x=>x=pa) v1 v2:=by rw [hw];exact Keeps.setCell _ (M:=λ x=>x=pa) rfl _
 replace HA:Hid (Blk v2 pa 205 #[.slice none 0 0]):=by rw [hw];exact Hd (HA.out.set_ 0 _)
 replace HB:=Hd (HB.out.keeps hk (λ e=>HNE.out e.symm))
 replace HC:=Hd (HC.out.keeps hk (λ e=>by have h1:=HL.out;have h2:N3=pa:=e;omega))
 replace K:=Hd (K.out.trans hk (λ x _ e=>.inl e))
 clear hw hk
 refine ⟨.inr ⟨HC.out.cell 0,HC.out.cell 1⟩,?_⟩
 refine cA_ rfl ?_
 have q0:=HB.out.cell 0
 have f0:=HB.out.frozen 0
 have q1:=HB.out.cell 1
 have f1:=HB.out.frozen 1
 go_wp2
 clear q0 f0 q1 f1
 refine canon_at' (λ v3 hw=>?_)
 have hk:Keeps (λ x=>x=pb) v2 v3:=by rw [hw];exact (Keeps.setCell _ (M:=λ x=>x=pb) rfl _).setCell' (λ _=>rfl) _
 replace HA:=Hd (HA.out.keeps hk (λ e=>HNE.out e))
 replace HB:Hid (Blk v3 pb 207 #[.int .i64 id,.int .i64 err]):=by rw [hw];exact Hd ((HB.out.set_ 0 _).set_ 1 _)
 replace HC:=Hd (HC.out.keeps hk (λ e=>by have h1:=HL.out;have h2:N3=pb:=e;omega))
 replace K:=Hd (K.out.trans hk (λ x _ e=>.inr e))
 clear hw hk
 refine ⟨.inr ⟨HC.out.cell 0,HC.out.cell 1⟩,?_⟩
 refine wpCanon_nil ?_
 go_wp2
 exact ⟨rfl,_,rfl,.tuple #[],by simp [results,Tryz.results186,go_sem],rfl,rfl,HA.out,HB.out,K.out⟩
end Go.Proofs.YtjcgphhpaenjkaaGreat

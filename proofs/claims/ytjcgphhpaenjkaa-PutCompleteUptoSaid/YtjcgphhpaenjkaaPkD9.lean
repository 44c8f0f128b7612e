import Derived.Test.YtjcgphhpaenjkaaPkD8
import Derived.Recover
set_option maxHeartbeats 64000000
set_option maxRecDepth 100000
set_option linter.unusedVariables false
namespace Go.Proofs.Ytjcgphhpaenjkaa
open Go.RowKit Go.Maps
theorem Try.inf_link:(Try.prog.info? 90).map (λ i=>(i.zero,i.size,i.bytes))=some (some (.agg #[.int .i64 0,.slice none 0 0,.int .i64 0,.slice none 0 0,.int .i64 0,.slice none 0 0,.slice none 0 0,.slice none 0 0]),8,144):=by kernel_rfl
theorem k64_in {k:Int} (h1:1<=k) (h2:k<=65536):K64 k:=by
 unfold K64 Lit.wf
 rw [Bool.and_eq_true,decide_eq_true_eq,decide_eq_true_eq]
 exact ⟨by rw [show IntKind.i64.min=-9223372036854775808 from rfl];omega,by rw [show IntKind.i64.max=9223372036854775807 from rfl];omega⟩
theorem wpList_partS {P:Program} {ops:Array Oper} {Q:Exit->Act->World->Prop} {l2:List Oper} {N:Act->World->Prop} (hN:∀ a w,N a w->wpList P ops Q l2 a w):∀ (l:List Oper) (a:Act) (w:World),wpList P ops (Behind Q N) l a w->wpList P ops Q (l++l2) a w
 | [],_,_,h=>hN _ _ h
 | o::rest,a,w,h=>by
  rw [List.cons_append]
  simp only [wpList] at h ⊢
  split
  ·rename_i hw
   rw [if_pos hw] at h
   rcases h with h|h
   ·exact .inl (Oper.wp_cut (λ a w h=>wpList_partS hN rest a w h) h)
   ·exact .inr ⟨h.1,letsOut_behind h.2⟩
  ·rename_i hw
   rw [if_neg hw] at h
   exact wpList_partS hN rest _ _ h
theorem wpList_takeS {P:Program} {ops:Array Oper} {Q:Exit->Act->World->Prop} (n:Nat) {l:List Oper} {a:Act} {w:World} (vals:List (Option Tmp × Value)) (F:World->Prop) (h:wpList P ops (Behind Q (λ a' w'=>a'=putsA a vals/\F w')) (l.take n) a w) (he:∀ w',F w'->wpList P ops Q (l.drop n) (putsA a vals) w'):wpList P ops Q l a w:=by
 rw [<-List.take_append_drop n l]
 exact wpList_partS (λ a' w' ⟨e,hf⟩=>by rw [e];exact he w' hf) _ a w h
theorem wpList_eqS {P:Program} {ops:Array Oper} {Q:Exit->Act->World->Prop} {o:Oper} {rest:List Oper} {a:Act} {w:World} (hgd:o.guard=none) (v:Value) (w':World) (hr:(execOp a.eval o).run P w=.ok (.value v) w') (hK:wpList P ops Q rest (a.put o.dst v) w'):wpList P ops Q (o::rest) a w:=by
 refine wpList_plain hgd λ K hK'=>?_
 unfold Oper.wp
 rw [hr]
 exact hK' _ _ hK
theorem build_link (i:Int) (A:Option Addr) (n c:Nat) (lvl hi rt ks vs kd:Value) (w:World):(Instr.build 90 #[(0,.int .i64 i),(1,.slice A n c),(2,.agg #[lvl,hi,rt,ks,vs,kd])]).run Try.prog w=.ok (.agg #[.int .i64 i,.slice A n c,lvl,hi,rt,ks,vs,kd]) w:=by
 kernel_rfl
theorem buildSl_link (a b c d e f g h:Value) (w:World):(Instr.buildSlice 88 1 #[(0,.agg #[a,b,c,d,e,f,g,h])]).run Try.prog w=.ok (.slice (some ⟨w.heap.size,0,none⟩) 1 1) (w.alloc (.cells #[a,b,c,d,e,f,g,h] 90)):=by
 kernel_rfl
section
variable {ops:Array Oper} {Q:Exit->Act->World->Prop} {o:Oper} {rest:List Oper} {a:Act} {w:World}
theorem wpList_link (hgd:o.guard=none) (x y z:Operand) (ho:o.op=.build 90 #[(0,x),(1,y),(2,z)]) {i:Int} {A:Option Addr} {n c:Nat} {lvl hi rt ks vs kd:Value} (h0:a.eval x=.int .i64 i) (h1:a.eval y=.slice A n c) (h2:a.eval z=.agg #[lvl,hi,rt,ks,vs,kd])
  (hK:wpList Try.prog ops Q rest (a.put o.dst (.agg #[.int .i64 i,.slice A n c,lvl,hi,rt,ks,vs,kd])) w):wpList Try.prog ops Q (o::rest) a w:=by
 refine wpList_eqS hgd _ w ?_ hK
 unfold execOp
 simp only [ho,List.map_toArray,List.map_cons,List.map_nil,h0,h1,h2,Sem.run_bind,build_link,Result.andThen_ok,Sem.run_pure]
theorem wpList_linkSl (hgd:o.guard=none) (x:Operand) (ho:o.op=.buildSlice 88 1 #[(0,x)]) {c0 c1 c2 c3 c4 c5 c6 c7:Value} (h0:a.eval x=.agg #[c0,c1,c2,c3,c4,c5,c6,c7])
  (hK:wpList Try.prog ops Q rest (a.put o.dst (.slice (some ⟨w.heap.size,0,none⟩) 1 1)) (w.alloc (.cells #[c0,c1,c2,c3,c4,c5,c6,c7] 90))):wpList Try.prog ops Q (o::rest) a w:=by
 refine wpList_eqS hgd _ _ ?_ hK
 unfold execOp
 simp only [ho,List.map_toArray,List.map_cons,List.map_nil,h0,Sem.run_bind,buildSl_link,Result.andThen_ok,Sem.run_pure]
end
def axOb (M D:Nat->Prop) (p:Nat) (slots:Value) (ids:List Nat) (A:Ar):Ob where
 P:=λ w=>ArW w M D p slots ids A
 F:=λ x=>M x\/D x
 W:=λ _=>False
 fr:=λ _ _ _ h k hd=>h.keeps k (λ x hx hm=>hd x hx (.inl hm)) (λ x hx hm=>hd x hx (.inr hm))
abbrev OwnsI (w:World) (b n:Nat) (D:DataW Unit):Prop:=w.ownsMap Try.prog 3 (plainElem (H:=Unit) Try.prog 3) b n D
theorem OwnsI.keeps {w w':World} {N:Nat->Prop} {b n:Nat} {D:DataW Unit} (h:OwnsI w b n D) (k:Keeps N w w') (hn:¬N b):OwnsI w' b n D:=by
 obtain ⟨es,c,h1,h2⟩:=h
 exact ⟨es,c,by rw [k.block b (by have:=h1;exact (Array.getElem?_eq_some_iff.1 this).1) hn];exact h1,h2⟩
def metOb (b:Nat) (l:List Int):Ob where
 P:=λ w=>∃ D,Met D l/\OwnsI w b l.length D
 F:=λ x=>x=b
 W:=λ x=>x=b
 fr:=λ w _ _ h k hd=>by
  obtain ⟨D,h1,h2⟩:=h
  exact ⟨D,h1,h2.keeps k (hd b h2.lt rfl)⟩
structure Lk where
 id:Int
 low:List UInt8
 nd:Nd
 lowv:Value
 c1:Value
 c3:Value
 c4:Value
 c5:Value
def Lk.cells (k:Lk):List Value:=[.int .i64 k.id,k.lowv,.int .i64 k.nd.lvl,k.c1,.int .i64 k.nd.right,k.c3,k.c4,k.c5]
def Lk.pr (k:Lk):Int × List UInt8:=(k.id,k.low)
def IsLk (w:World) (D:Nat->Prop) (k:Lk):Prop:=Byts w D k.lowv k.low/\IsNd w D (.int .i64 k.nd.lvl) k.c1 (.int .i64 k.nd.right) k.c3 k.c4 k.c5 k.nd
def lkCells (ks:List Lk):List Value:=ks.flatMap Lk.cells
theorem lkCells_snoc (ks:List Lk) (k:Lk):lkCells (ks++[k])=lkCells ks++k.cells:=by simp [lkCells]
theorem lkCells_at:∀ {ks:List Lk} {i:Nat} {k:Lk},ks[i]?=some k->∀ j v,k.cells[j]?=some v->(lkCells ks)[i*8+j]?=some v
 | [],i,k,h,_,_,_=>by simp at h
 | x::ks,0,k,h,j,v,hv=>by
  simp at h;subst h
  rw [lkCells,List.flatMap_cons,Nat.zero_mul,Nat.zero_add,List.getElem?_append_left (by obtain ⟨h,_⟩:=List.getElem?_eq_some_iff.1 hv;exact h)]
  exact hv
 | x::ks,i+1,k,h,j,v,hv=>by
  rw [List.getElem?_cons_succ] at h
  rw [lkCells,List.flatMap_cons,List.getElem?_append_right (by simp [Lk.cells];omega),<-lkCells]
  have e:(i+1)*8+j-(Lk.cells x).length=i*8+j:=by simp [Lk.cells];omega
  rw [e]
  exact lkCells_at h j v hv
def lkOb (D:Nat->Prop) (ks:List Lk) (lowv:Value) (low:List UInt8):Ob where
 P:=λ w=>(∀ k ∈ ks,IsLk w D k)/\Byts w D lowv low
 F:=D
 W:=λ _=>False
 fr:=λ _ _ _ h k hd=>⟨λ x hx=>⟨(h.1 x hx).1.keeps k hd,(h.1 x hx).2.keeps k hd⟩,h.2.keeps k hd⟩
theorem IsLk.mono {w:World} {D D':Nat->Prop} {k:Lk} (h:IsLk w D k) (hd:∀ x,D x->D' x):IsLk w D' k:=⟨h.1.mono (λ x _=>hd x),h.2.mono (λ x _=>hd x)⟩
section
variable {w:World} {M D:Nat->Prop} {p:Nat} {slots:Value} {ids:List Nat} {A:Ar} {ix:Int} {s:Sl}
theorem readYes (hg:A.get ix=some s) (h:ArW w M D p slots ids A) (hsm:∀ s ∈ A.sl,NdSm 0 s.nd):Calls Try.prog 35 #[pV p,.int .i64 ix] w λ e w'=>∃ X1 k1 X3 k3 X4 k4 X5 k5,e=.returned (.tuple #[.agg #[.int .i64 s.nd.lvl,.slice X1 s.nd.high.length k1,.int .i64 s.nd.right,.slice X3 s.nd.keys.length k3,.slice X4 s.nd.vals.length k4,.slice X5 s.nd.kids.length k5],.bool true])/\IsNd w' (Fresh w w') (.int .i64 s.nd.lvl) (.slice X1 s.nd.high.length k1) (.int .i64 s.nd.right) (.slice X3 s.nd.keys.length k3) (.slice X4 s.nd.vals.length k4) (.slice X5 s.nd.kids.length k5) s.nd/\Keeps Nob w w':=by
 have h:=readX (ix:=ix) h hsm
 rw [hg,opNd_some hg] at h
 exact h
theorem readNo (hg:A.get ix=none) (h:ArW w M D p slots ids A) (hsm:∀ s ∈ A.sl,NdSm 0 s.nd):Calls Try.prog 35 #[pV p,.int .i64 ix] w λ e w'=>∃ X1 k1 X3 k3 X4 k4 X5 k5,e=.returned (.tuple #[.agg #[.int .i64 0,.slice X1 0 k1,.int .i64 0,.slice X3 0 k3,.slice X4 0 k4,.slice X5 0 k5],.bool false])/\Keeps Nob w w':=by
 have h:=readX (ix:=ix) h hsm
 rw [hg,opNd_none hg] at h
 refine h.mono ?_
 rintro e w' ⟨X1,k1,X3,k3,X4,k4,X5,k5,he,_,hk⟩
 exact ⟨X1,k1,X3,k3,X4,k4,X5,k5,he,hk⟩
end
end Go.Proofs.Ytjcgphhpaenjkaa
namespace Go.Proofs.Ytjcgphhpaenjkaa
open Go.RowKit
theorem wpS_seqZ {P:Program} {Q:Exit->Act->List Frame->World->Prop} {a:Act} {cs:List Frame} {w:World} {x y:Code} (h:∀ Z:Exit->Act->List Frame->World->Prop,(∀ a cs w,y.wpS P Q a cs w->Z .normal a cs w)->x.wpS P Z a cs w):(Code.seq x y).wpS P Q a cs w:=wpS_seq (h _ (λ _ _ _ h=>h))
theorem catchIdle (a b:Value) (w:World):CallsD Try.prog 53 #[a,b] .returning w λ e u' w'=>e=.returned (.tuple #[])/\u'=.returning/\w'=w:=by
 refine callsD_of_wpS Try.func53 rfl λ c₀ cs hu=>?_
 refine wpS_seqZ λ Z hZ=>?_
 apply wpS_region
 simp [wpOpsS,go_sem,recoverD,hu,Try.ntmps53]
 refine hZ _ _ _ ?_
 clear hZ
 refine wpS_of_wp ?_
 go_wp2
 cases c₀
 simp_all [bodyPostS,results,Try.results53]
theorem catchPanic {pa pb:Nat} {v:Value} {x y id err:Int} {older:List PanicEntry} {w:World} (ha:Blk w pa 83 #[v]) (hb:Blk w pb 85 #[.int .i64 x,.int .i64 y]) (hne:pa≠pb) :
  CallsD Try.prog 53 #[.pointer (some ⟨pa,0,none⟩),.pointer (some ⟨pb,0,none⟩)] (.panicking ({v:=wrongV id err,recovered:=false}::older)) w λ e u' w'=>e=.returned (.tuple #[])/\u'=.panicking ({v:=wrongV id err,recovered:=true}::older)/\Blk w' pa 83 #[.slice none 0 0]/\Blk w' pb 85 #[.int .i64 id,.int .i64 err]/\Keeps (λ x=>x=pa\/x=pb) w w':=by
 have HA:=Hd ha
 have HB:=Hd hb
 have HNE:=Hd hne
 clear ha hb hne
 unfold wrongV
 refine callsD_of_wpS Try.func53 rfl λ c₀ cs hu=>?_
 change Code.wpS _ _ _ {tmps:=#[.pointer (some ⟨pa,0,none⟩),.pointer (some ⟨pb,0,none⟩),undef,undef,undef,undef,undef,undef,undef,undef,undef,undef,undef,undef,undef,undef,undef],defers:=[]} _ _
 refine wpS_seqZ λ Z hZ=>?_
 apply wpS_region
 simp [wpOpsS,go_sem,recoverD,hu]
 refine hZ _ _ _ ?_
 clear hZ
 refine wpS_of_wp ?_
 have hta:∀ w:World,(Instr.typeAssert (.iface 85 (.agg #[.int .i64 id,.int .i64 err])) 20 85 true).run Try.prog w=.ok (.tuple #[.agg #[.int .i64 id,.int .i64 err],.bool true]) w:=λ _=>by kernel_rfl
 go_wp2
 refine code_at (λ v0 hw=>?_)
 obtain ⟨N3,hN⟩:∃ N,w.heap.size=N:=⟨_,rfl⟩
 rw [hN]
 have hk:Keeps Nob w v0:=by rw [hw];exact Keeps.alloc _ _ _
 have HC:Hid (Blk v0 N3 85 #[.int .i64 id,.int .i64 err]):=by rw [hw,<-hN];exact Hd (Blk.new _ _ _)
 have HL:Hid (pa < N3/\pb < N3):=by rw [<-hN];exact Hd ⟨HA.out.lt,HB.out.lt⟩
 replace HA:=Hd (HA.out.keeps hk (λ h=>h))
 replace HB:=Hd (HB.out.keeps hk (λ h=>h))
 have K:Hid (Keeps (λ x=>x=pa\/x=pb) w v0):=Hd ((Keeps.refl _ _).trans hk (λ _ _ h=>h.elim))
 clear hw hN hk hta
 refine rC_ [0,1,2] 2 (λ W=>W.cell? ⟨N3,0,none⟩=some (.int .i64 id)/\W.cell? ⟨N3,1,none⟩=some (.int .i64 err)) ⟨HC.out.cell 0,HC.out.cell 1⟩ ?_
 refine canon_at (λ v1 hw=>?_)
 have hk:Keeps Nob v0 v1:=by rw [hw];exact Keeps.drew _ _
 replace HA:=Hd (HA.out.keeps hk (λ h=>h))
 replace HB:=Hd (HB.out.keeps hk (λ h=>h))
 replace HC:=Hd (HC.out.keeps hk (λ h=>h))
 replace K:=tr_ K hk
 clear hw hk
 refine cR_ (v:=?_) rfl ?_ ?_
 rotate_left
 ·intro W hW
  try (obtain ⟨h1,h2⟩:_/\_:=hW)
  go_simp
  try rfl
 simp only [Act.put,sa_,sb_,sc_]
 refine cA_ rfl ?_
 have q0:=HA.out.cell 0
 have f0:=HA.out.frozen 0
 go_wp2
 clear q0 f0
 refine canon_at' (λ v2 hw=>?_)
 have hk:Keeps (λ x=>x=pa) v1 v2:=by rw [hw];exact Keeps.setCell _ (M:=λ x=>x=pa) rfl _
 replace HA:Hid (Blk v2 pa 83 #[.slice none 0 0]):=by rw [hw];exact Hd (HA.out.set_ 0 _)
 replace HB:=Hd (HB.out.keeps hk (λ e=>HNE.out e.symm))
 replace HC:=Hd (HC.out.keeps hk (λ e=>by have h1:=HL.out;have h2:N3=pa:=e;omega))
 replace K:=Hd (K.out.trans hk (λ x _ e=>.inl e))
 clear hw hk
 refine ⟨.inr ⟨HC.out.cell 0,HC.out.cell 1⟩,?_⟩
 refine cA_ rfl ?_
 have q0:=HB.out.cell 0
 have f0:=HB.out.frozen 0
 have q1:=HB.out.cell 1
 have f1:=HB.out.frozen 1
 go_wp2
 clear q0 f0 q1 f1
 refine canon_at' (λ v3 hw=>?_)
 have hk:Keeps (λ x=>x=pb) v2 v3:=by rw [hw];exact (Keeps.setCell _ (M:=λ x=>x=pb) rfl _).setCell' (λ _=>rfl) _
 replace HA:=Hd (HA.out.keeps hk (λ e=>HNE.out e))
 replace HB:Hid (Blk v3 pb 85 #[.int .i64 id,.int .i64 err]):=by rw [hw];exact Hd ((HB.out.set_ 0 _).set_ 1 _)
 replace HC:=Hd (HC.out.keeps hk (λ e=>by have h1:=HL.out;have h2:N3=pb:=e;omega))
 replace K:=Hd (K.out.trans hk (λ x _ e=>.inr e))
 clear hw hk
 refine ⟨.inr ⟨HC.out.cell 0,HC.out.cell 1⟩,?_⟩
 refine wpCanon_nil ?_
 go_wp2
 exact ⟨rfl,_,rfl,.tuple #[],by simp [results,Try.results53,go_sem],rfl,rfl,HA.out,HB.out,K.out⟩
end Go.Proofs.Ytjcgphhpaenjkaa

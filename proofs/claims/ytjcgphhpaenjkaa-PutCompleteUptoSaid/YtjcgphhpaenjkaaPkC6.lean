import Derived.Test.YtjcgphhpaenjkaaPkB2
import Derived.Lib.AppendZerosOnto
import Derived.Lib.Overlaps
set_option maxHeartbeats 64000000
set_option maxRecDepth 100000
set_option linter.unusedVariables false
namespace Go.Proofs.Ytjcgphhpaenjkaa
open Go.RowKit
section
variable {P:Program} {S T:Nat->Prop} {w:World}
theorem wpList_copyB {ops:Array Oper} {rest:List Oper} {o:Oper} {a:Act} {Q:Exit->Act->World->Prop} (hgd:o.guard=none) (d s:Operand) (t e:TypeId)
  (ho:o.op=.call {callee:=.builtin .copy,args:=#[d,s],argTypes:=#[t,t]}) (ht:P.underlying t=some (.slice e)) (hz:(P.info? e).map (·.size)=some 1)
  (g q dLen dCap sLen sCap:Nat) (ad:Addr) (cs:List Value) (hd:a.eval d=.slice (some ⟨g,q,none⟩) dLen dCap) (hx:a.eval s=.slice (some ad) sLen sCap) (hn:cs.length=min sLen dLen)
  (hsrc:∀ j v,cs[j]?=some v->w.cell? (ad.add j)=some v) {cur:Array Value} {e':TypeId} (hb:Blk w g e' cur) (hfit:q+cs.length<=cur.size) (h1:∀ v ∈ cs,v.oneCell'=true)
  (h:wpList P ops Q rest (a.put o.dst (goInt cs.length)) (w.setCells g q cs)):wpList P ops Q (o::rest) a w:=by
 have hr:=run_copy_cells (P:=P) w t t o.type e g q dLen dCap ad sLen sCap cs ht hz hn hsrc (λ j hj=>by rw [hb.cell,Array.getElem?_eq_getElem (by omega)];rfl) (λ j _=>hb.frozen _) h1
 refine wpList_plain hgd λ K hK=>?_
 unfold Oper.wp execOp
 simp only [ho,resolve,invoke,builtin,Sem.run_bind,Sem.run_pure,Result.andThen_ok,List.map_toArray,List.map_cons,List.map_nil,hd,hx,hr]
 exact hK _ _ h
theorem ins_cells (xs:List Value) (i:Nat) (u:Value) (f:Nat->Option Value) (hi:i<=xs.length) (h1:∀ j,j < i->f j=xs[j]?) (h2:f i=some u) (h3:∀ j,i+j < xs.length->f (i+1+j)=xs[i+j]?) :
  ∀ (j:Nat) x,(xs.take i++u::xs.drop i)[j]?=some x->f j=some x:=by
 intro j x hj
 rw [List.getElem?_append] at hj
 have hl:(xs.take i).length=i:=by rw [List.length_take];omega
 rw [hl] at hj
 by_cases hlt:j < i
 ·rw [if_pos hlt,List.getElem?_take,if_pos hlt] at hj
  rw [h1 j hlt];exact hj
 ·rw [if_neg hlt] at hj
  by_cases he:j=i
  ·subst he
   rw [Nat.sub_self] at hj
   simp at hj
   rw [h2,hj]
  ·obtain ⟨m,rfl⟩:∃ m,j=i+1+m:=⟨j-i-1,by omega⟩
   rw [show i+1+m-i=m+1 by omega,List.getElem?_cons_succ,List.getElem?_drop] at hj
   have hlt2:i+m < xs.length:=(List.getElem?_eq_some_iff.1 hj).1
   rw [h3 m hlt2];exact hj
end
section
variable {S T:Nat->Prop} {w:World} {v y u:Value} {n i:Nat} {xs:List Value}
theorem overlaps_no {a b:Addr} {la ca lb cb:Nat} {tA tB:TypeId} {cA cB:Array Value} (hA:Blk w a.block tA cA) (hB:Blk w b.block tB cB) (hne:a.block≠b.block) (hk:cB.size≠0) :
  (callFunc 76 #[.slice (some a) la ca,.slice (some b) lb cb]).run Try.prog w=.ok (.value (.bool false)) w:=by
 have hsA:w.shape? a.block=some (tA,cA.size):=by unfold Blk at hA;simp [World.shape?,hA]
 have hsB:w.shape? b.block=some (tB,cB.size):=by unfold Blk at hB;simp [World.shape?,hB]
 have hr:=Lib.run_overlaps_apart (P:=Try.prog) w 47 4 34 Try.underlying47 1 (λ w=>by kernel_rfl) a b la ca lb cb hne tA tB _ _ hsA hsB hk
  (by unfold Blk at hA;simp [World.frozen?,hA]) (by unfold Blk at hA;simp [World.frozen?,hA])
 rw [run_callFunc_extern (fn:=Try.f76) (e:=Extern.SlicesOverlaps.overlaps #[47,47] #[4]) (by kernel_rfl) (by kernel_rfl) (by kernel_rfl) (by kernel_rfl) (by kernel_rfl),hr]
 rfl
theorem insT_end (h:Own w S 34 1 v n xs) (hy:SlG w T 1 y 1 [u]) (hu:u.oneCell'=true) (hs:Sm 100000000000000 24 n) :
  Calls Try.prog 64 #[v,iV n,y] w λ e w'=>∃ v',e=.returned v'/\Own w' (λ b=>v.ownBlock=some b\/Fresh w w' b) 34 1 v' (n+1) (xs++[u])/\Keeps (λ b=>v.ownBlock=some b) w w':=by
 obtain ⟨A,c,hv⟩:=h.form
 subst hv
 obtain ⟨Ay,cy,hyv⟩:=hy.form
 subst hyv
 obtain ⟨hnc1,hnc2,_⟩:=h.at_
 have hcc:c<=9223372036854775807:=hnc2
 have H:=Hd h
 have HY:=Hd hy
 have HS:Hid (Sm 100000000000000 24 n):=hs
 have hn2:n<=200000000000000:=by unfold Sm at hs;omega
 clear h hy hs hnc2
 unfold iV
 obtain ⟨i0,hi,hz0,hz1,hz2⟩:=info_parts Try.inf_text
 by_cases hcn:c=n
 ·subst hcn
  go_enter Try.func64,Try.ntmps64
  go_wp2_with (at_builtin;refine wpList_app rfl (.tmp 23) (.tmp 24) 47 rfl Try.underlying47 hi hz0 hz1 hz2 rfl (by decide) (v:=.slice A c c) (n:=c) (m:=1) (S:=S) (T:=T) (xs:=xs) (news:=[u]) rfl H.out (y:=.slice Ay 1 cy) rfl HY.out ?_ ?_ ?_ ?_)
  ·intro x hx;simp at hx;subst hx;exact hu
  ·unfold maxLen;omega
  ·have:=HS.out;unfold Sm at this;omega
  ·intro v' w1 ho hk _
   have HO:=Hd ho
   have HK:=Hd hk
   clear ho hk
   go_wp2
   go_ret
   exact ⟨_,rfl,HO.out,HK.out⟩
 ·go_enter Try.func64,Try.ntmps64
  go_wp2_with (at_builtin;refine wpList_app rfl (.tmp 23) (.tmp 24) 47 rfl Try.underlying47 hi hz0 hz1 hz2 rfl (by decide) (v:=.slice A n c) (n:=n) (m:=1) (S:=S) (T:=T) (xs:=xs) (news:=[u]) rfl H.out (y:=.slice Ay 1 cy) rfl HY.out ?_ ?_ ?_ ?_)
  ·intro x hx;simp at hx;subst hx;exact hu
  ·unfold maxLen;omega
  ·have:=HS.out;unfold Sm at this;omega
  ·intro v' w1 ho hk _
   have HO:=Hd ho
   have HK:=Hd hk
   clear ho hk
   go_wp2
   go_ret
   exact ⟨_,rfl,HO.out,HK.out⟩
theorem insT_grow {A:Option Addr} {c:Nat} (h:Own w S 34 1 (.slice A n c) n xs) (hy:SlG w T 1 y 1 [u]) (hx1:∀ x ∈ xs,x.oneCell'=true) (hu:u.oneCell'=true) (hs:Sm 100000000000000 24 n) (hin:i < n) (hg:c < n+1) :
  Calls Try.prog 64 #[.slice A n c,iV i,y] w λ e w'=>∃ v',e=.returned v'/\Own w' (Fresh w w') 34 1 v' (n+1) (xs.take i++u::xs.drop i)/\Keeps Nob w w':=by
 obtain ⟨Ay,cy,hyv⟩:=hy.form
 subst hyv
 obtain ⟨hnc1,hnc2,hat⟩:=h.at_
 have hxl:=h.1
 have hcc:c<=9223372036854775807:=hnc2
 have H:=Hd h
 have HY:=Hd hy
 have HS:Hid (Sm 100000000000000 24 n):=hs
 have hn2:n<=200000000000000:=by unfold Sm at hs;omega
 have hne:((i:Int)==(n:Int))=false:=by simpa using (by omega:¬(i:Int)=n)
 rcases hat with ⟨_,hc0⟩|⟨g,o,cur,rfl,hSg,hb,hoc,hcur⟩
 ·omega
 have HB:=Hd hb
 have HCUR:=Hd hcur
 have HXL:Hid (xs.length=n):=(by omega:xs.length=n)
 have hCge:=grownCap_ge w (i+(n+1-i)) c 34
 have hCle:=grownCap_le_maxLen w (i+(n+1-i)) c 34 (by unfold maxLen;omega)
 have hfc:(Builtin.firstCells 1 i (.slice (some ⟨g,o,none⟩) i c)).run Try.prog w.drew=.ok (xs.take i).toArray w.drew:=
  run_firstCells_some w.drew 1 i ⟨g,o,none⟩ i c (xs.take i) (by rw [List.length_take];omega) (λ j x hj=>by
   rw [add_lit];show w.cell? _=_;rw [hb.cell]
   rw [List.getElem?_take] at hj
   split at hj
   ·exact hcur j x hj
   ·cases hj)
 clear h hy hs hnc2 hb hcur hxl
 unfold iV
 obtain ⟨i0,hi,hz0,hz1,hz2⟩:=info_parts Try.inf_text
 have hrun:=λ ty=>Lib.run_append_grow_zeros (P:=Try.prog) w 47 3 ty 34 i0 (.slice none 0 0) .i64 .i64 Try.underlying47 Try.underlying3 hi hz0 (some ⟨g,o,none⟩) i c (xs.take i) (by rw [hz1];exact hfc) (n+1-i) (by omega) (by omega) (by omega) (by omega) (by rw [hz2];have:=HS.out;unfold Sm at this;omega) (growslice_fits (by omega) (by rw [hz2];have:=HS.out;unfold Sm at this;omega))
 have e1:i+(n+1-i)=n+1:=by omega
 rw [e1] at hrun hCge hCle
 have e2:(((n+1-i:Nat)):Int)=(n:Int)+1-i:=by omega
 rw [e2] at hrun
 generalize grownCap w (n+1) c 34=C at hrun hCge hCle
 have HRUN:=Hd hrun
 have hCm:C<=9223372036854775807:=hCle
 obtain ⟨ay,hay,hTy,hcy⟩:=HY.out.cells (by simp)
 subst hay
 have HCY:Hid (T ay.block/\∀ (j:Nat) x,[u][j]?=some x->w.cell? (ay.add j)=some x):=⟨hTy,hcy⟩
 have grow_blk:∀ {wa:World},wa=w.drew.alloc (.cells ((xs.take i).toArray++Builtin.zeroCells (Value.slice none 0 0).cells (n+1-i)++Builtin.zeroCells (Value.slice none 0 0).cells (C-(n+1))) 34)->Hid (Blk wa w.heap.size 34 ((xs.take i).toArray++Builtin.zeroCells (Value.slice none 0 0).cells (n+1-i)++Builtin.zeroCells (Value.slice none 0 0).cells (C-(n+1)))):=λ e=>by subst e;exact Blk.new _ _ _
 have grow_keeps:∀ {wa:World} {o:Obj},wa=w.drew.alloc o->Hid (Keeps Nob w wa):=λ e=>by subst e;exact (Keeps.drew _ _).alloc' _
 have grow_size:∀ (k:Nat),xs.length=n->((xs.take i).toArray++Builtin.zeroCells (Value.slice none 0 0).cells (n+1-i)++Builtin.zeroCells (Value.slice none 0 0).cells (C-(n+1))).size=C:=λ _ e=>by
  simp only [Array.size_append,List.size_toArray,size_zeroCells,List.length_take,e,show (Value.slice none 0 0).cells.size=1 from rfl];omega
 clear hrun hfc e1 e2 hCle hcy hTy
 go_enter Try.func64,Try.ntmps64
 go_wp2_with (first
  | (at_builtin;refine Lib.wpList_append_run _ rfl (.tmp 34) (.tmp 39) 47 3 rfl (.slice (some ⟨g,o,none⟩) i c) (.int .i64 ((n:Int)+1-i)) rfl rfl _ _ (HRUN.out _) ?_;refine list_at (λ wa hwa=>?_);have HWA:=Hd hwa;clear hwa;have HBA:=grow_blk HWA.out;have HKA:=grow_keeps HWA.out;have HYA:=Hd (HY.out.keeps HKA.out (λ _ _ _=>id));have HBO:=Hd (HB.out.keeps HKA.out id))
  | (with_reducible (show wpList _ _ _ ({dst:=some 45,op:=_,type:=_,pos:=_,after:=_,guard:=_}::_) _ _);(refine wpList_copyB rfl (.tmp 43) (.tmp 44) 47 34 rfl Try.underlying47 (by rw [hi,Option.map_some,hz1]) w.heap.size i (n+1-i) (C-i) 1 cy ay [u] rfl rfl (by simp only [List.length_singleton];omega) (λ j x hx=>HKA.out.cell (HCY.out.2 j x hx) id) HBA.out (by rw [grow_size 0 HXL.out];simp only [List.length_singleton];omega) (by simpa using hu) ?_);refine list_at (λ wb hwb=>?_);have HWB:=Hd hwb;clear hwb))
 obtain ⟨cb,hbb,hbs,hb1,hb2⟩:=setCells_blk [u] i wa _ HBA.out
 have HKB:=Hd (setCells_keeps (g:=w.heap.size) [u] i wa)
 have e3:=HWB.out
 subst e3
 have HBB:=Hd hbb
 have HBS:Hid (cb.size=C):=hbs.trans (grow_size 0 HXL.out)
 have HB1:=Hd hb1
 have HB2:=Hd hb2
 have hw1:IntKind.i64.wrap ((i:Int)+1)=((i+1:Nat):Int):=by rw [IntKind.wrap_i64];omega
 have hgn:g≠w.heap.size:=Nat.ne_of_lt HB.out.lt
 have HBO2:=Hd (HBO.out.keeps HKB.out hgn)
 clear hbb hbs hb1 hb2
 refine rC_ [0,1,2,3,4,5,6,7,8] 9 (λ _=>True) trivial ?_
 iterate 4
  refine cR_ (v:=?_) rfl ?_ ?_
  rotate_left
  ·intro W hW
   go_simp
   try rfl
  simp only [Act.put,sa_,sb_,sc_]
 refine wpCanon_read (v:=.slice (some ⟨w.heap.size,i+1,none⟩) (n-i) (C-(i+1))) rfl (by kernel_rfl) (by rfl) ?_ ?_
 ·intro W hW
  go_simp
  rw [if_pos (by omega),if_neg (by omega)]
 simp only [Act.put,sa_,sb_,sc_]
 iterate 2
  refine cR_ (v:=?_) rfl ?_ ?_
  rotate_left
  ·intro W hW
   go_simp
   try rfl
  simp only [Act.put,sa_,sb_,sc_]
 refine wpCanon_read (v:=.slice (some ⟨g,o+i,none⟩) (n-i) (c-i)) rfl (by kernel_rfl) (by rfl) ?_ ?_
 ·intro W hW
  go_simp
  rw [if_pos (by omega),if_neg (by omega)]
 simp only [Act.put,sa_,sb_,sc_]
 refine cA_ rfl ?_
 refine wpList_copyB rfl (.tmp 50) (.tmp 53) 47 34 rfl Try.underlying47 (by rw [hi,Option.map_some,hz1]) w.heap.size (i+1) _ _ _ _ ⟨g,o+i,none⟩ (xs.drop i) rfl rfl (by rw [List.length_drop,HXL.out];omega) (λ j x hx=>by
  rw [add_lit];show World.cell? _ _=_;rw [HBO2.out.drew.cell,Nat.add_assoc]
  rw [List.getElem?_drop] at hx
  exact HCUR.out _ _ hx) HBB.out.drew (by rw [HBS.out,List.length_drop,HXL.out];omega) (λ x hx=>hx1 x (List.mem_of_mem_drop hx)) ?_
 refine ⟨.inr trivial,wpCanon_nil ?_⟩
 obtain ⟨cc,hbc,hcs,hc1,hc2⟩:=setCells_blk (xs.drop i) (i+1) (wa.setCells w.heap.size i [u]).drew _ HBB.out.drew
 have HKC:=Hd (setCells_keeps (g:=w.heap.size) (xs.drop i) (i+1) (wa.setCells w.heap.size i [u]).drew)
 have HBC:=Hd hbc
 have HEND:Hid (Own ((wa.setCells w.heap.size i [u]).drew.setCells w.heap.size (i+1) (xs.drop i)) (Fresh w ((wa.setCells w.heap.size i [u]).drew.setCells w.heap.size (i+1) (xs.drop i))) 34 1 (.slice (some ⟨w.heap.size,0,none⟩) (n+1) C) (n+1) (xs.take i++u::xs.drop i)):=by
  refine ⟨?_,_,_,rfl,hCge,hCm,.inr ⟨w.heap.size,0,cc,rfl,⟨Nat.le_refl _,hbc.lt⟩,hbc,by rw [hcs,HBS.out];omega,?_⟩⟩
  ·rw [List.length_append,List.length_take,List.length_cons,List.length_drop,HXL.out];omega
  ·intro j x hx
   rw [Nat.zero_add]
   refine ins_cells xs i u (λ j=>cc[j]?) (by rw [HXL.out];omega) ?_ ?_ ?_ j x hx
   ·intro j hj
    show cc[j]?=_
    rw [hc2 j (.inl (by omega)),HB2.out j (.inl hj),Array.append_assoc,Array.getElem?_append_left (by simp only [List.size_toArray,List.length_take,HXL.out];omega),List.getElem?_toArray,List.getElem?_take,if_pos hj]
   ·show cc[i]?=_
    rw [hc2 i (.inl (by omega))]
    exact HB1.out 0 u rfl (by rw [grow_size 0 HXL.out];omega)
   ·intro j hj
    show cc[i+1+j]?=_
    rw [List.getElem?_eq_getElem hj]
    exact hc1 j _ (by rw [List.getElem?_drop];exact List.getElem?_eq_getElem hj) (by rw [HBS.out];rw [HXL.out] at hj;omega)
 have HKEND:Hid (Keeps Nob w ((wa.setCells w.heap.size i [u]).drew.setCells w.heap.size (i+1) (xs.drop i))):=
  (HKA.out.trans ((HKB.out.drew').trans HKC.out (λ _ _ h=>h)) (λ b hb e=>by subst e;exact absurd hb (Nat.lt_irrefl _)))
 clear hbc hcs hc1 hc2
 go_wp2
 go_ret
 exact ⟨_,rfl,HEND.out,HKEND.out⟩
theorem insT_room {A:Option Addr} {c:Nat} {ay:Addr} {cy:Nat} {ty:TypeId} {cys:Array Value} (h:Own w S 34 1 (.slice A n c) n xs) (hyb:Blk w ay.block ty cys) (hyc:∀ (j:Nat) x,[u][j]?=some x->w.cell? (ay.add j)=some x)
  (hne:∀ b,(Value.slice A n c).ownBlock=some b->ay.block≠b) (hx1:∀ x ∈ xs,x.oneCell'=true) (hu:u.oneCell'=true) (hin:i < n) (hg:n+1<=c) :
  Calls Try.prog 64 #[.slice A n c,iV i,.slice (some ay) 1 cy] w λ e w'=>∃ v',e=.returned v'/\Own w' (λ b=>(Value.slice A n c).ownBlock=some b) 34 1 v' (n+1) (xs.take i++u::xs.drop i)/\Keeps (λ b=>(Value.slice A n c).ownBlock=some b) w w':=by
 obtain ⟨hnc1,hnc2,hat⟩:=h.at_
 have hxl:=h.1
 have hcc:c<=9223372036854775807:=hnc2
 have hni:((i:Int)==(n:Int))=false:=by simpa using (by omega:¬(i:Int)=n)
 rcases hat with ⟨_,hc0⟩|⟨g,o,cur,rfl,hSg,hb,hoc,hcur⟩
 ·omega
 have hyg:ay.block≠g:=hne g rfl
 have hcz:cur.size≠0:=by omega
 have HB:=Hd hb
 have HCUR:=Hd hcur
 have HXL:Hid (xs.length=n):=(by omega:xs.length=n)
 have HYB:=Hd hyb
 have HYC:=Hd hyc
 have hov:=overlaps_no (a:=ay) (b:=⟨g,o+(i+1),none⟩) (la:=1) (ca:=cy) (lb:=n-i) (cb:=c-(i+1)) hyb hb hyg hcz
 clear h hyb hyc hnc2 hb hcur hxl hne
 obtain ⟨i0,hi,hz0,hz1,hz2⟩:=info_parts Try.inf_text
 unfold iV
 go_enter Try.func64,Try.ntmps64
 go_wp2
 have hw1:IntKind.i64.wrap ((i:Int)+1)=((i+1:Nat):Int):=by rw [IntKind.wrap_i64];omega
 refine rC_ [0,1,2,3,4,5,6,7,8] 9 (λ _=>True) trivial ?_
 iterate 4
  refine cR_ (v:=?_) rfl ?_ ?_
  rotate_left
  ·intro W hW
   go_simp
   try rfl
  simp only [Act.put,sa_,sb_,sc_]
 refine wpCanon_read (v:=.slice (some ⟨g,o+(i+1),none⟩) (n-i) (c-(i+1))) rfl (by kernel_rfl) (by rfl) ?_ ?_
 ·intro W hW
  go_simp
  rw [if_pos (by omega),if_neg (by omega)]
 simp only [Act.put,sa_,sb_,sc_]
 iterate 2
  refine cR_ (v:=?_) rfl ?_ ?_
  rotate_left
  ·intro W hW
   go_simp
   try rfl
  simp only [Act.put,sa_,sb_,sc_]
 refine wpCanon_read (v:=.slice (some ⟨g,o+i,none⟩) (n+1-i) (c-i)) rfl (by kernel_rfl) (by rfl) ?_ ?_
 ·intro W hW
  go_simp
  rw [if_pos (by omega),if_neg (by omega)]
 simp only [Act.put,sa_,sb_,sc_]
 refine cA_ rfl ?_
 refine wpList_copyB rfl (.tmp 73) (.tmp 76) 47 34 rfl Try.underlying47 (by rw [hi,Option.map_some,hz1]) g (o+(i+1)) _ _ _ _ ⟨g,o+i,none⟩ (xs.drop i) rfl rfl (by rw [List.length_drop,HXL.out];omega) (λ j x hx=>by
  rw [add_lit];show World.cell? _ _=_;rw [HB.out.drew.cell,Nat.add_assoc]
  rw [List.getElem?_drop] at hx
  exact HCUR.out _ _ hx) HB.out.drew (by rw [List.length_drop,HXL.out];omega) (λ x hx=>hx1 x (List.mem_of_mem_drop hx)) ?_
 refine ⟨.inr trivial,wpCanon_nil ?_⟩
 obtain ⟨cb,hbb,hbs,hb1,hb2⟩:=setCells_blk (xs.drop i) (o+(i+1)) w.drew _ HB.out.drew
 have HKB:=Hd (setCells_keeps (g:=g) (xs.drop i) (o+(i+1)) w.drew)
 refine then_at (λ wb hwb=>?_)
 have HWB:=Hd hwb
 have HBB:=Hd (hwb▸hbb)
 have HKB2:Hid (Keeps (λ b=>b=g) w wb):=by rw [hwb];exact (Keeps.drew (λ b=>b=g) w).trans HKB.out (λ _ _ h=>h)
 have HBS:Hid (cb.size=cur.size):=hbs
 have HB1:=Hd hb1
 have HB2:=Hd hb2
 clear hbb hbs hb1 hb2 hwb hov
 go_wp2_with (with_reducible (show wpList _ _ _ ({dst:=some 82,op:=_,type:=_,pos:=_,after:=_,guard:=_}::_) _ _);go_loud (refine wpList_copyB rfl (.tmp 80) (.tmp 81) 47 34 rfl Try.underlying47 (by rw [hi,Option.map_some,hz1]) g (o+i) _ _ 1 cy ay [u] rfl rfl (by simp only [List.length_singleton];omega) (λ j x hx=>HKB2.out.cell (HYC.out j x hx) (by rw [blk_add];exact hyg)) HBB.out (by rw [HBS.out];simp only [List.length_singleton];omega) (by simpa using hu) ?_);refine list_at (λ wc hwc=>?_);have HWC:=Hd hwc;clear hwc)
 obtain ⟨cc,hbc,hcs,hc1,hc2⟩:=setCells_blk [u] (o+i) wb _ HBB.out
 have HKC:=Hd (setCells_keeps (g:=g) [u] (o+i) wb)
 rw [<-HWC.out] at hbc
 have HEND:Hid (Own wc (λ b=>(Value.slice (some ⟨g,o,none⟩) n c).ownBlock=some b) 34 1 (.slice (some ⟨g,o,none⟩) (n+1) c) (n+1) (xs.take i++u::xs.drop i)):=by
  refine ⟨?_,_,_,rfl,hg,hcc,.inr ⟨g,o,cc,rfl,rfl,hbc,by rw [hcs,HBS.out];omega,?_⟩⟩
  ·rw [List.length_append,List.length_take,List.length_cons,List.length_drop,HXL.out];omega
  ·intro j x hx
   refine ins_cells xs i u (λ j=>cc[o+j]?) (by rw [HXL.out];omega) ?_ ?_ ?_ j x hx
   ·intro j hj
    show cc[o+j]?=_
    rw [hc2 (o+j) (.inl (by omega)),HB2.out (o+j) (.inl (by omega)),List.getElem?_eq_getElem (by rw [HXL.out];omega)]
    exact HCUR.out j _ (List.getElem?_eq_getElem _)
   ·show cc[o+i]?=_
    exact hc1 0 u rfl (by rw [HBS.out];omega)
   ·intro j hj
    show cc[o+(i+1+j)]?=_
    rw [hc2 _ (.inr (by simp only [List.length_singleton];omega)),List.getElem?_eq_getElem hj,<-Nat.add_assoc]
    exact HB1.out j _ (by rw [List.getElem?_drop];exact List.getElem?_eq_getElem hj) (by rw [HXL.out] at hj;omega)
 have HKEND:Hid (Keeps (λ b=>(Value.slice (some ⟨g,o,none⟩) n c).ownBlock=some b) w wc):=by
  rw [HWC.out]
  exact (HKB2.out.trans HKC.out (λ _ _ h=>h)).mono (λ b _ e=>by subst e;rfl)
 clear hbc hcs hc1 hc2
 go_wp2
 go_ret
 exact ⟨_,rfl,HEND.out,HKEND.out⟩
theorem insT {ay:Addr} {cy:Nat} {ty:TypeId} {cys:Array Value} (h:Own w S 34 1 v n xs) (hyb:Blk w ay.block ty cys) (hyc:w.cell? ay=some u) (hcy:1<=cy) (hcy2:cy<=maxLen)
  (hne:∀ b,v.ownBlock=some b->ay.block≠b) (hx1:∀ x ∈ xs,x.oneCell'=true) (hu:u.oneCell'=true) (hs:Sm 100000000000000 24 n) (hin:i<=n) :
  Calls Try.prog 64 #[v,iV i,.slice (some ay) 1 cy] w λ e w'=>∃ v',e=.returned v'/\Own w' (λ b=>v.ownBlock=some b\/Fresh w w' b) 34 1 v' (n+1) (xs.take i++u::xs.drop i)/\Keeps (λ b=>v.ownBlock=some b) w w':=by
 have hcell:∀ (j:Nat) x,[u][j]?=some x->w.cell? (ay.add j)=some x:=λ j x hx=>by
  cases j with
  | zero=>simp at hx;subst hx;rw [show ay.add 0=ay by unfold Addr.add;simp];exact hyc
  | succ j=>simp at hx
 have hy:SlG w (λ b=>b=ay.block) 1 (.slice (some ay) 1 cy) 1 [u]:=⟨rfl,_,_,rfl,hcy,hcy2,λ _=>⟨_,rfl,rfl,hcell⟩⟩
 have hxl:xs.length=n:=by have:=h.1;omega
 by_cases he:i=n
 ·subst he
  refine (insT_end h hy hu hs).mono ?_
  rintro e w' ⟨v',rfl,ho,hk⟩
  exact ⟨v',rfl,by rw [List.take_of_length_le (by omega),List.drop_of_length_le (by omega)];exact ho,hk⟩
 ·obtain ⟨A,c,rfl⟩:=h.form
  by_cases hg:n+1<=c
  ·refine (insT_room h hyb hcell hne hx1 hu (by omega) hg).mono ?_
   rintro e w' ⟨v',rfl,ho,hk⟩
   exact ⟨v',rfl,ho.mono (λ _ _ h=>.inl h),hk⟩
  ·refine (insT_grow h hy hx1 hu hs (by omega) (by omega)).mono ?_
   rintro e w' ⟨v',rfl,ho,hk⟩
   exact ⟨v',rfl,ho.mono (λ _ _ h=>.inr h),hk.mono (λ _ _ h=>h.elim)⟩
/-! The same of numbers. -/
theorem overlaps_noI {a b:Addr} {la ca lb cb:Nat} {tA tB:TypeId} {cA cB:Array Value} (hA:Blk w a.block tA cA) (hB:Blk w b.block tB cB) (hne:a.block≠b.block) (hk:cB.size≠0) :
  (callFunc 78 #[.slice (some a) la ca,.slice (some b) lb cb]).run Try.prog w=.ok (.value (.bool false)) w:=by
 have hsA:w.shape? a.block=some (tA,cA.size):=by unfold Blk at hA;simp [World.shape?,hA]
 have hsB:w.shape? b.block=some (tB,cB.size):=by unfold Blk at hB;simp [World.shape?,hB]
 have hr:=Lib.run_overlaps_apart (P:=Try.prog) w 39 4 3 Try.underlying39 1 (λ w=>by kernel_rfl) a b la ca lb cb hne tA tB _ _ hsA hsB hk
  (by unfold Blk at hA;simp [World.frozen?,hA]) (by unfold Blk at hA;simp [World.frozen?,hA])
 rw [run_callFunc_extern (fn:=Try.f78) (e:=Extern.SlicesOverlaps.overlaps #[39,39] #[4]) (by kernel_rfl) (by kernel_rfl) (by kernel_rfl) (by kernel_rfl) (by kernel_rfl),hr]
 rfl
theorem insI_end (h:Own w S 3 1 v n xs) (hy:SlG w T 1 y 1 [u]) (hu:u.oneCell'=true) (hs:Sm 100000000000000 8 n) :
  Calls Try.prog 65 #[v,iV n,y] w λ e w'=>∃ v',e=.returned v'/\Own w' (λ b=>v.ownBlock=some b\/Fresh w w' b) 3 1 v' (n+1) (xs++[u])/\Keeps (λ b=>v.ownBlock=some b) w w':=by
 obtain ⟨A,c,hv⟩:=h.form
 subst hv
 obtain ⟨Ay,cy,hyv⟩:=hy.form
 subst hyv
 obtain ⟨hnc1,hnc2,_⟩:=h.at_
 have hcc:c<=9223372036854775807:=hnc2
 have H:=Hd h
 have HY:=Hd hy
 have HS:Hid (Sm 100000000000000 8 n):=hs
 have hn2:n<=200000000000000:=by unfold Sm at hs;omega
 clear h hy hs hnc2
 unfold iV
 obtain ⟨i0,hi,hz0,hz1,hz2⟩:=info_parts Try.inf_int
 by_cases hcn:c=n
 ·subst hcn
  go_enter Try.func65,Try.ntmps65
  go_wp2_with (at_builtin;refine wpList_app rfl (.tmp 23) (.tmp 24) 39 rfl Try.underlying39 hi hz0 hz1 hz2 rfl (by decide) (v:=.slice A c c) (n:=c) (m:=1) (S:=S) (T:=T) (xs:=xs) (news:=[u]) rfl H.out (y:=.slice Ay 1 cy) rfl HY.out ?_ ?_ ?_ ?_)
  ·intro x hx;simp at hx;subst hx;exact hu
  ·unfold maxLen;omega
  ·have:=HS.out;unfold Sm at this;omega
  ·intro v' w1 ho hk _
   have HO:=Hd ho
   have HK:=Hd hk
   clear ho hk
   go_wp2
   go_ret
   exact ⟨_,rfl,HO.out,HK.out⟩
 ·go_enter Try.func65,Try.ntmps65
  go_wp2_with (at_builtin;refine wpList_app rfl (.tmp 23) (.tmp 24) 39 rfl Try.underlying39 hi hz0 hz1 hz2 rfl (by decide) (v:=.slice A n c) (n:=n) (m:=1) (S:=S) (T:=T) (xs:=xs) (news:=[u]) rfl H.out (y:=.slice Ay 1 cy) rfl HY.out ?_ ?_ ?_ ?_)
  ·intro x hx;simp at hx;subst hx;exact hu
  ·unfold maxLen;omega
  ·have:=HS.out;unfold Sm at this;omega
  ·intro v' w1 ho hk _
   have HO:=Hd ho
   have HK:=Hd hk
   clear ho hk
   go_wp2
   go_ret
   exact ⟨_,rfl,HO.out,HK.out⟩
theorem insI_grow {A:Option Addr} {c:Nat} (h:Own w S 3 1 (.slice A n c) n xs) (hy:SlG w T 1 y 1 [u]) (hx1:∀ x ∈ xs,x.oneCell'=true) (hu:u.oneCell'=true) (hs:Sm 100000000000000 8 n) (hin:i < n) (hg:c < n+1) :
  Calls Try.prog 65 #[.slice A n c,iV i,y] w λ e w'=>∃ v',e=.returned v'/\Own w' (Fresh w w') 3 1 v' (n+1) (xs.take i++u::xs.drop i)/\Keeps Nob w w':=by
 obtain ⟨Ay,cy,hyv⟩:=hy.form
 subst hyv
 obtain ⟨hnc1,hnc2,hat⟩:=h.at_
 have hxl:=h.1
 have hcc:c<=9223372036854775807:=hnc2
 have H:=Hd h
 have HY:=Hd hy
 have HS:Hid (Sm 100000000000000 8 n):=hs
 have hn2:n<=200000000000000:=by unfold Sm at hs;omega
 have hne:((i:Int)==(n:Int))=false:=by simpa using (by omega:¬(i:Int)=n)
 rcases hat with ⟨_,hc0⟩|⟨g,o,cur,rfl,hSg,hb,hoc,hcur⟩
 ·omega
 have HB:=Hd hb
 have HCUR:=Hd hcur
 have HXL:Hid (xs.length=n):=(by omega:xs.length=n)
 have hCge:=grownCap_ge w (i+(n+1-i)) c 3
 have hCle:=grownCap_le_maxLen w (i+(n+1-i)) c 3 (by unfold maxLen;omega)
 have hfc:(Builtin.firstCells 1 i (.slice (some ⟨g,o,none⟩) i c)).run Try.prog w.drew=.ok (xs.take i).toArray w.drew:=
  run_firstCells_some w.drew 1 i ⟨g,o,none⟩ i c (xs.take i) (by rw [List.length_take];omega) (λ j x hj=>by
   rw [add_lit];show w.cell? _=_;rw [hb.cell]
   rw [List.getElem?_take] at hj
   split at hj
   ·exact hcur j x hj
   ·cases hj)
 clear h hy hs hnc2 hb hcur hxl
 unfold iV
 obtain ⟨i0,hi,hz0,hz1,hz2⟩:=info_parts Try.inf_int
 have hrun:=λ ty=>Lib.run_append_grow_zeros (P:=Try.prog) w 39 3 ty 3 i0 (.int .i64 0) .i64 .i64 Try.underlying39 Try.underlying3 hi hz0 (some ⟨g,o,none⟩) i c (xs.take i) (by rw [hz1];exact hfc) (n+1-i) (by omega) (by omega) (by omega) (by omega) (by rw [hz2];have:=HS.out;unfold Sm at this;omega) (growslice_fits (by omega) (by rw [hz2];have:=HS.out;unfold Sm at this;omega))
 have e1:i+(n+1-i)=n+1:=by omega
 rw [e1] at hrun hCge hCle
 have e2:(((n+1-i:Nat)):Int)=(n:Int)+1-i:=by omega
 rw [e2] at hrun
 generalize grownCap w (n+1) c 3=C at hrun hCge hCle
 have HRUN:=Hd hrun
 have hCm:C<=9223372036854775807:=hCle
 obtain ⟨ay,hay,hTy,hcy⟩:=HY.out.cells (by simp)
 subst hay
 have HCY:Hid (T ay.block/\∀ (j:Nat) x,[u][j]?=some x->w.cell? (ay.add j)=some x):=⟨hTy,hcy⟩
 have grow_blk:∀ {wa:World},wa=w.drew.alloc (.cells ((xs.take i).toArray++Builtin.zeroCells (Value.int .i64 0).cells (n+1-i)++Builtin.zeroCells (Value.int .i64 0).cells (C-(n+1))) 3)->Hid (Blk wa w.heap.size 3 ((xs.take i).toArray++Builtin.zeroCells (Value.int .i64 0).cells (n+1-i)++Builtin.zeroCells (Value.int .i64 0).cells (C-(n+1)))):=λ e=>by subst e;exact Blk.new _ _ _
 have grow_keeps:∀ {wa:World} {o:Obj},wa=w.drew.alloc o->Hid (Keeps Nob w wa):=λ e=>by subst e;exact (Keeps.drew _ _).alloc' _
 have grow_size:∀ (k:Nat),xs.length=n->((xs.take i).toArray++Builtin.zeroCells (Value.int .i64 0).cells (n+1-i)++Builtin.zeroCells (Value.int .i64 0).cells (C-(n+1))).size=C:=λ _ e=>by
  simp only [Array.size_append,List.size_toArray,size_zeroCells,List.length_take,e,show (Value.int .i64 0).cells.size=1 from rfl];omega
 clear hrun hfc e1 e2 hCle hcy hTy
 go_enter Try.func65,Try.ntmps65
 go_wp2_with (first
  | (at_builtin;refine Lib.wpList_append_run _ rfl (.tmp 34) (.tmp 39) 39 3 rfl (.slice (some ⟨g,o,none⟩) i c) (.int .i64 ((n:Int)+1-i)) rfl rfl _ _ (HRUN.out _) ?_;refine list_at (λ wa hwa=>?_);have HWA:=Hd hwa;clear hwa;have HBA:=grow_blk HWA.out;have HKA:=grow_keeps HWA.out;have HYA:=Hd (HY.out.keeps HKA.out (λ _ _ _=>id));have HBO:=Hd (HB.out.keeps HKA.out id))
  | (with_reducible (show wpList _ _ _ ({dst:=some 45,op:=_,type:=_,pos:=_,after:=_,guard:=_}::_) _ _);(refine wpList_copyB rfl (.tmp 43) (.tmp 44) 39 3 rfl Try.underlying39 (by rw [hi,Option.map_some,hz1]) w.heap.size i (n+1-i) (C-i) 1 cy ay [u] rfl rfl (by simp only [List.length_singleton];omega) (λ j x hx=>HKA.out.cell (HCY.out.2 j x hx) id) HBA.out (by rw [grow_size 0 HXL.out];simp only [List.length_singleton];omega) (by simpa using hu) ?_);refine list_at (λ wb hwb=>?_);have HWB:=Hd hwb;clear hwb))
 obtain ⟨cb,hbb,hbs,hb1,hb2⟩:=setCells_blk [u] i wa _ HBA.out
 have HKB:=Hd (setCells_keeps (g:=w.heap.size) [u] i wa)
 have e3:=HWB.out
 subst e3
 have HBB:=Hd hbb
 have HBS:Hid (cb.size=C):=hbs.trans (grow_size 0 HXL.out)
 have HB1:=Hd hb1
 have HB2:=Hd hb2
 have hw1:IntKind.i64.wrap ((i:Int)+1)=((i+1:Nat):Int):=by rw [IntKind.wrap_i64];omega
 have hgn:g≠w.heap.size:=Nat.ne_of_lt HB.out.lt
 have HBO2:=Hd (HBO.out.keeps HKB.out hgn)
 clear hbb hbs hb1 hb2
 refine rC_ [0,1,2,3,4,5,6,7,8] 9 (λ _=>True) trivial ?_
 iterate 4
  refine cR_ (v:=?_) rfl ?_ ?_
  rotate_left
  ·intro W hW
   go_simp
   try rfl
  simp only [Act.put,sa_,sb_,sc_]
 refine wpCanon_read (v:=.slice (some ⟨w.heap.size,i+1,none⟩) (n-i) (C-(i+1))) rfl (by kernel_rfl) (by rfl) ?_ ?_
 ·intro W hW
  go_simp
  rw [if_pos (by omega),if_neg (by omega)]
 simp only [Act.put,sa_,sb_,sc_]
 iterate 2
  refine cR_ (v:=?_) rfl ?_ ?_
  rotate_left
  ·intro W hW
   go_simp
   try rfl
  simp only [Act.put,sa_,sb_,sc_]
 refine wpCanon_read (v:=.slice (some ⟨g,o+i,none⟩) (n-i) (c-i)) rfl (by kernel_rfl) (by rfl) ?_ ?_
 ·intro W hW
  go_simp
  rw [if_pos (by omega),if_neg (by omega)]
 simp only [Act.put,sa_,sb_,sc_]
 refine cA_ rfl ?_
 refine wpList_copyB rfl (.tmp 50) (.tmp 53) 39 3 rfl Try.underlying39 (by rw [hi,Option.map_some,hz1]) w.heap.size (i+1) _ _ _ _ ⟨g,o+i,none⟩ (xs.drop i) rfl rfl (by rw [List.length_drop,HXL.out];omega) (λ j x hx=>by
  rw [add_lit];show World.cell? _ _=_;rw [HBO2.out.drew.cell,Nat.add_assoc]
  rw [List.getElem?_drop] at hx
  exact HCUR.out _ _ hx) HBB.out.drew (by rw [HBS.out,List.length_drop,HXL.out];omega) (λ x hx=>hx1 x (List.mem_of_mem_drop hx)) ?_
 refine ⟨.inr trivial,wpCanon_nil ?_⟩
 obtain ⟨cc,hbc,hcs,hc1,hc2⟩:=setCells_blk (xs.drop i) (i+1) (wa.setCells w.heap.size i [u]).drew _ HBB.out.drew
 have HKC:=Hd (setCells_keeps (g:=w.heap.size) (xs.drop i) (i+1) (wa.setCells w.heap.size i [u]).drew)
 have HBC:=Hd hbc
 have HEND:Hid (Own ((wa.setCells w.heap.size i [u]).drew.setCells w.heap.size (i+1) (xs.drop i)) (Fresh w ((wa.setCells w.heap.size i [u]).drew.setCells w.heap.size (i+1) (xs.drop i))) 3 1 (.slice (some ⟨w.heap.size,0,none⟩) (n+1) C) (n+1) (xs.take i++u::xs.drop i)):=by
  refine ⟨?_,_,_,rfl,hCge,hCm,.inr ⟨w.heap.size,0,cc,rfl,⟨Nat.le_refl _,hbc.lt⟩,hbc,by rw [hcs,HBS.out];omega,?_⟩⟩
  ·rw [List.length_append,List.length_take,List.length_cons,List.length_drop,HXL.out];omega
  ·intro j x hx
   rw [Nat.zero_add]
   refine ins_cells xs i u (λ j=>cc[j]?) (by rw [HXL.out];omega) ?_ ?_ ?_ j x hx
   ·intro j hj
    show cc[j]?=_
    rw [hc2 j (.inl (by omega)),HB2.out j (.inl hj),Array.append_assoc,Array.getElem?_append_left (by simp only [List.size_toArray,List.length_take,HXL.out];omega),List.getElem?_toArray,List.getElem?_take,if_pos hj]
   ·show cc[i]?=_
    rw [hc2 i (.inl (by omega))]
    exact HB1.out 0 u rfl (by rw [grow_size 0 HXL.out];omega)
   ·intro j hj
    show cc[i+1+j]?=_
    rw [List.getElem?_eq_getElem hj]
    exact hc1 j _ (by rw [List.getElem?_drop];exact List.getElem?_eq_getElem hj) (by rw [HBS.out];rw [HXL.out] at hj;omega)
 have HKEND:Hid (Keeps Nob w ((wa.setCells w.heap.size i [u]).drew.setCells w.heap.size (i+1) (xs.drop i))):=
  (HKA.out.trans ((HKB.out.drew').trans HKC.out (λ _ _ h=>h)) (λ b hb e=>by subst e;exact absurd hb (Nat.lt_irrefl _)))
 clear hbc hcs hc1 hc2
 go_wp2
 go_ret
 exact ⟨_,rfl,HEND.out,HKEND.out⟩
theorem insI_room {A:Option Addr} {c:Nat} {ay:Addr} {cy:Nat} {ty:TypeId} {cys:Array Value} (h:Own w S 3 1 (.slice A n c) n xs) (hyb:Blk w ay.block ty cys) (hyc:∀ (j:Nat) x,[u][j]?=some x->w.cell? (ay.add j)=some x)
  (hne:∀ b,(Value.slice A n c).ownBlock=some b->ay.block≠b) (hx1:∀ x ∈ xs,x.oneCell'=true) (hu:u.oneCell'=true) (hin:i < n) (hg:n+1<=c) :
  Calls Try.prog 65 #[.slice A n c,iV i,.slice (some ay) 1 cy] w λ e w'=>∃ v',e=.returned v'/\Own w' (λ b=>(Value.slice A n c).ownBlock=some b) 3 1 v' (n+1) (xs.take i++u::xs.drop i)/\Keeps (λ b=>(Value.slice A n c).ownBlock=some b) w w':=by
 obtain ⟨hnc1,hnc2,hat⟩:=h.at_
 have hxl:=h.1
 have hcc:c<=9223372036854775807:=hnc2
 have hni:((i:Int)==(n:Int))=false:=by simpa using (by omega:¬(i:Int)=n)
 rcases hat with ⟨_,hc0⟩|⟨g,o,cur,rfl,hSg,hb,hoc,hcur⟩
 ·omega
 have hyg:ay.block≠g:=hne g rfl
 have hcz:cur.size≠0:=by omega
 have HB:=Hd hb
 have HCUR:=Hd hcur
 have HXL:Hid (xs.length=n):=(by omega:xs.length=n)
 have HYB:=Hd hyb
 have HYC:=Hd hyc
 have hov:=overlaps_noI (a:=ay) (b:=⟨g,o+(i+1),none⟩) (la:=1) (ca:=cy) (lb:=n-i) (cb:=c-(i+1)) hyb hb hyg hcz
 clear h hyb hyc hnc2 hb hcur hxl hne
 obtain ⟨i0,hi,hz0,hz1,hz2⟩:=info_parts Try.inf_int
 unfold iV
 go_enter Try.func65,Try.ntmps65
 go_wp2
 have hw1:IntKind.i64.wrap ((i:Int)+1)=((i+1:Nat):Int):=by rw [IntKind.wrap_i64];omega
 refine rC_ [0,1,2,3,4,5,6,7,8] 9 (λ _=>True) trivial ?_
 iterate 4
  refine cR_ (v:=?_) rfl ?_ ?_
  rotate_left
  ·intro W hW
   go_simp
   try rfl
  simp only [Act.put,sa_,sb_,sc_]
 refine wpCanon_read (v:=.slice (some ⟨g,o+(i+1),none⟩) (n-i) (c-(i+1))) rfl (by kernel_rfl) (by rfl) ?_ ?_
 ·intro W hW
  go_simp
  rw [if_pos (by omega),if_neg (by omega)]
 simp only [Act.put,sa_,sb_,sc_]
 iterate 2
  refine cR_ (v:=?_) rfl ?_ ?_
  rotate_left
  ·intro W hW
   go_simp
   try rfl
  simp only [Act.put,sa_,sb_,sc_]
 refine wpCanon_read (v:=.slice (some ⟨g,o+i,none⟩) (n+1-i) (c-i)) rfl (by kernel_rfl) (by rfl) ?_ ?_
 ·intro W hW
  go_simp
  rw [if_pos (by omega),if_neg (by omega)]
 simp only [Act.put,sa_,sb_,sc_]
 refine cA_ rfl ?_
 refine wpList_copyB rfl (.tmp 73) (.tmp 76) 39 3 rfl Try.underlying39 (by rw [hi,Option.map_some,hz1]) g (o+(i+1)) _ _ _ _ ⟨g,o+i,none⟩ (xs.drop i) rfl rfl (by rw [List.length_drop,HXL.out];omega) (λ j x hx=>by
  rw [add_lit];show World.cell? _ _=_;rw [HB.out.drew.cell,Nat.add_assoc]
  rw [List.getElem?_drop] at hx
  exact HCUR.out _ _ hx) HB.out.drew (by rw [List.length_drop,HXL.out];omega) (λ x hx=>hx1 x (List.mem_of_mem_drop hx)) ?_
 refine ⟨.inr trivial,wpCanon_nil ?_⟩
 obtain ⟨cb,hbb,hbs,hb1,hb2⟩:=setCells_blk (xs.drop i) (o+(i+1)) w.drew _ HB.out.drew
 have HKB:=Hd (setCells_keeps (g:=g) (xs.drop i) (o+(i+1)) w.drew)
 refine then_at (λ wb hwb=>?_)
 have HWB:=Hd hwb
 have HBB:=Hd (hwb▸hbb)
 have HKB2:Hid (Keeps (λ b=>b=g) w wb):=by rw [hwb];exact (Keeps.drew (λ b=>b=g) w).trans HKB.out (λ _ _ h=>h)
 have HBS:Hid (cb.size=cur.size):=hbs
 have HB1:=Hd hb1
 have HB2:=Hd hb2
 clear hbb hbs hb1 hb2 hwb hov
 go_wp2_with (with_reducible (show wpList _ _ _ ({dst:=some 82,op:=_,type:=_,pos:=_,after:=_,guard:=_}::_) _ _);go_loud (refine wpList_copyB rfl (.tmp 80) (.tmp 81) 39 3 rfl Try.underlying39 (by rw [hi,Option.map_some,hz1]) g (o+i) _ _ 1 cy ay [u] rfl rfl (by simp only [List.length_singleton];omega) (λ j x hx=>HKB2.out.cell (HYC.out j x hx) (by rw [blk_add];exact hyg)) HBB.out (by rw [HBS.out];simp only [List.length_singleton];omega) (by simpa using hu) ?_);refine list_at (λ wc hwc=>?_);have HWC:=Hd hwc;clear hwc)
 obtain ⟨cc,hbc,hcs,hc1,hc2⟩:=setCells_blk [u] (o+i) wb _ HBB.out
 have HKC:=Hd (setCells_keeps (g:=g) [u] (o+i) wb)
 rw [<-HWC.out] at hbc
 have HEND:Hid (Own wc (λ b=>(Value.slice (some ⟨g,o,none⟩) n c).ownBlock=some b) 3 1 (.slice (some ⟨g,o,none⟩) (n+1) c) (n+1) (xs.take i++u::xs.drop i)):=by
  refine ⟨?_,_,_,rfl,hg,hcc,.inr ⟨g,o,cc,rfl,rfl,hbc,by rw [hcs,HBS.out];omega,?_⟩⟩
  ·rw [List.length_append,List.length_take,List.length_cons,List.length_drop,HXL.out];omega
  ·intro j x hx
   refine ins_cells xs i u (λ j=>cc[o+j]?) (by rw [HXL.out];omega) ?_ ?_ ?_ j x hx
   ·intro j hj
    show cc[o+j]?=_
    rw [hc2 (o+j) (.inl (by omega)),HB2.out (o+j) (.inl (by omega)),List.getElem?_eq_getElem (by rw [HXL.out];omega)]
    exact HCUR.out j _ (List.getElem?_eq_getElem _)
   ·show cc[o+i]?=_
    exact hc1 0 u rfl (by rw [HBS.out];omega)
   ·intro j hj
    show cc[o+(i+1+j)]?=_
    rw [hc2 _ (.inr (by simp only [List.length_singleton];omega)),List.getElem?_eq_getElem hj,<-Nat.add_assoc]
    exact HB1.out j _ (by rw [List.getElem?_drop];exact List.getElem?_eq_getElem hj) (by rw [HXL.out] at hj;omega)
 have HKEND:Hid (Keeps (λ b=>(Value.slice (some ⟨g,o,none⟩) n c).ownBlock=some b) w wc):=by
  rw [HWC.out]
  exact (HKB2.out.trans HKC.out (λ _ _ h=>h)).mono (λ b _ e=>by subst e;rfl)
 clear hbc hcs hc1 hc2
 go_wp2
 go_ret
 exact ⟨_,rfl,HEND.out,HKEND.out⟩
theorem insI {ay:Addr} {cy:Nat} {ty:TypeId} {cys:Array Value} (h:Own w S 3 1 v n xs) (hyb:Blk w ay.block ty cys) (hyc:w.cell? ay=some u) (hcy:1<=cy) (hcy2:cy<=maxLen)
  (hne:∀ b,v.ownBlock=some b->ay.block≠b) (hx1:∀ x ∈ xs,x.oneCell'=true) (hu:u.oneCell'=true) (hs:Sm 100000000000000 8 n) (hin:i<=n) :
  Calls Try.prog 65 #[v,iV i,.slice (some ay) 1 cy] w λ e w'=>∃ v',e=.returned v'/\Own w' (λ b=>v.ownBlock=some b\/Fresh w w' b) 3 1 v' (n+1) (xs.take i++u::xs.drop i)/\Keeps (λ b=>v.ownBlock=some b) w w':=by
 have hcell:∀ (j:Nat) x,[u][j]?=some x->w.cell? (ay.add j)=some x:=λ j x hx=>by
  cases j with
  | zero=>simp at hx;subst hx;rw [show ay.add 0=ay by unfold Addr.add;simp];exact hyc
  | succ j=>simp at hx
 have hy:SlG w (λ b=>b=ay.block) 1 (.slice (some ay) 1 cy) 1 [u]:=⟨rfl,_,_,rfl,hcy,hcy2,λ _=>⟨_,rfl,rfl,hcell⟩⟩
 have hxl:xs.length=n:=by have:=h.1;omega
 by_cases he:i=n
 ·subst he
  refine (insI_end h hy hu hs).mono ?_
  rintro e w' ⟨v',rfl,ho,hk⟩
  exact ⟨v',rfl,by rw [List.take_of_length_le (by omega),List.drop_of_length_le (by omega)];exact ho,hk⟩
 ·obtain ⟨A,c,rfl⟩:=h.form
  by_cases hg:n+1<=c
  ·refine (insI_room h hyb hcell hne hx1 hu (by omega) hg).mono ?_
   rintro e w' ⟨v',rfl,ho,hk⟩
   exact ⟨v',rfl,ho.mono (λ _ _ h=>.inl h),hk⟩
  ·refine (insI_grow h hy hx1 hu hs (by omega) (by omega)).mono ?_
   rintro e w' ⟨v',rfl,ho,hk⟩
   exact ⟨v',rfl,ho.mono (λ _ _ h=>.inr h),hk.mono (λ _ _ h=>h.elim)⟩
end
end Go.Proofs.Ytjcgphhpaenjkaa

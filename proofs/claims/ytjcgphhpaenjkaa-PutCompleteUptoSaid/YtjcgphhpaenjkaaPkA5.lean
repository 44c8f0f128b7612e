import Derived.Test.YtjcgphhpaenjkaaPkA4
import Derived.Lib.BytesEntry
import Derived.Laws.IdiomStrings
import Derived.Laws.BytesArg
import Derived.Test.YtjcgphhpaenjkaaPkA1
set_option maxHeartbeats 64000000
set_option maxRecDepth 100000
set_option linter.unusedVariables false
namespace Go.Proofs.Ytjcgphhpaenjkaa
open Go.RowKit
section
variable {M D D' N:Nat->Prop} {w w':World} {q i:Nat} {L:Value} {xs ys:List Value} {A:Ar} {s s':Sl} {ix:Int}
end
end Go.Proofs.Ytjcgphhpaenjkaa
namespace Go.Proofs.Ytjcgphhpaenjkaa
open Go.RowKit
section
variable {M D:Nat->Prop} {w:World} {q:Nat} {L:Value} {xs:List Value} {A:Ar} {ix:Int}
end
end Go.Proofs.Ytjcgphhpaenjkaa
namespace Go.Proofs.Ytjcgphhpaenjkaa
open Go.RowKit
section
variable {M D:Nat->Prop} {w:World} {q:Nat} {L:Value} {xs:List Value} {A:Ar} {ix:Int}
end
end Go.Proofs.Ytjcgphhpaenjkaa
namespace Go.Proofs.Ytjcgphhpaenjkaa
open Go.RowKit
section
variable {M D:Nat->Prop} {w:World} {q:Nat} {L:Value} {xs:List Value} {A:Ar} {ix:Int} {s:Sl}
end
end Go.Proofs.Ytjcgphhpaenjkaa
namespace Go.Proofs.Ytjcgphhpaenjkaa
open Go.RowKit
section
variable {M D:Nat->Prop} {w:World} {q:Nat} {L:Value} {xs:List Value} {A:Ar} {ix:Int} {s:Sl}
end
end Go.Proofs.Ytjcgphhpaenjkaa
namespace Go.Proofs.Ytjcgphhpaenjkaa
open Go.RowKit
section
variable {M D:Nat->Prop} {w:World} {q:Nat} {L:Value} {xs:List Value} {A:Ar} {ix:Int}
end
end Go.Proofs.Ytjcgphhpaenjkaa
namespace Go.Proofs.Ytjcgphhpaenjkaa
open Go.RowKit
def I64 (n:Int):Prop:=-9223372036854775808<=n/\n<=9223372036854775807
def pk (c n:Int):Int:=(if c < 0 then -(c+1) else c) % n
theorem ret_i {a b:Int} (h:a=b):Ending.returned (.int .i64 a)=.returned (iV b):=by rw [h];rfl
end Go.Proofs.Ytjcgphhpaenjkaa
namespace Go.Proofs.Ytjcgphhpaenjkaa
open Go.RowKit
section
variable {A:Ar} {ix:Int} {n:Nd} {t:Sl}
theorem sm_zero:NdSm 0 Nd.zero:=⟨by simp [Sm,Nd.zero],⟨by simp [Sm,Nd.zero],λ x hx=>by simp [Nd.zero] at hx⟩,⟨by simp [Sm,Nd.zero],λ x hx=>by simp [Nd.zero] at hx⟩,by simp [Sm,Nd.zero]⟩
theorem sm_put (h:∀ s ∈ A.sl,NdSm 0 s.nd) (ht:NdSm 0 t.nd):∀ s ∈ (A.put ix t).sl,NdSm 0 s.nd:=λ s hs=>by
 rcases List.mem_or_eq_of_mem_set hs with h1|h1
 ·exact h s h1
 ·subst h1;exact ht
theorem sm_get (h:∀ s ∈ A.sl,NdSm 0 s.nd) (hg:A.get ix=some t):NdSm 0 t.nd:=by
 obtain ⟨i,_,h2,_⟩:=get_some hg
 exact h t (List.mem_of_getElem? h2)
theorem sm_lock {wd:Nat} (h:∀ s ∈ A.sl,NdSm 0 s.nd):∀ s ∈ (opLock A ix wd).2.2.sl,NdSm 0 s.nd:=by
 unfold opLock
 split
 ·exact h
 ·rename_i s hg
  split
  ·exact sm_put h (show NdSm 0 s.nd from sm_get h hg)
  ·exact h
theorem sm_unlock {c:Bool} (h:∀ s ∈ A.sl,NdSm 0 s.nd):∀ s ∈ (opUnlock A ix c).2.sl,NdSm 0 s.nd:=by
 unfold opUnlock
 split
 ·exact h
 ·rename_i s hg
  split
  ·exact h
  ·exact sm_put h (show NdSm 0 s.nd from sm_get h hg)
theorem sm_setHead (h:∀ s ∈ A.sl,NdSm 0 s.nd) (hn:NdSm 0 n):∀ s ∈ (opSetHead A ix n).2.sl,NdSm 0 s.nd:=by
 unfold opSetHead
 split
 ·exact h
 ·rename_i s hg
  have:=sm_get h hg
  split
  ·exact h
  ·exact sm_put h ⟨hn.1,this.2⟩
theorem sm_setBody (h:∀ s ∈ A.sl,NdSm 0 s.nd) (hn:NdSm 0 n):∀ s ∈ (opSetBody A ix n).2.sl,NdSm 0 s.nd:=by
 unfold opSetBody
 split
 ·exact h
 ·rename_i s hg
  have:=sm_get h hg
  split
  ·exact h
  ·exact sm_put h ⟨this.1,hn.2⟩
theorem sm_grow {o:Int} (h:∀ s ∈ A.sl,NdSm 0 s.nd):∀ s ∈ (opGrow A o ix).2.2.sl,NdSm 0 s.nd:=by
 unfold opGrow
 split
 ·exact h
 ·split<;>exact h
theorem sm_alloc (h:∀ s ∈ A.sl,NdSm 0 s.nd):∀ s ∈ (opAlloc A).2.2.sl,NdSm 0 s.nd:=by
 unfold opAlloc
 split
 ·exact h
 ·intro s hs
  rcases List.mem_append.1 hs with hs|hs
  ·exact h s hs
  ·simp at hs;subst hs;exact sm_zero
end
section
variable {N M D M1 D1 M' D':Nat->Prop} {w w':World} {G G':Nat->Prop} {b p q:Nat} {A B A' B':Ar} {ix:Int} {slots L:Value} {ids:List Nat} {xs:List Value}
theorem ArW.monoM (h:ArW w M D p slots ids A) (hm:∀ b,M b->M' b) (ha:∀ b,M' b->¬D b) (hl:∀ b,M' b->b < w.heap.size):ArW w M' D p slots ids A:=
 ⟨h.blk,h.row.mono (λ b _ hb=>hm b hb),h.nodup,h.len,h.slot,hm _ h.mp,λ b hb=>hm b (h.mids b hb),ha,hl,h.dlt,h.bound⟩
theorem wordX (h:ArW w M D p slots ids A):Calls Try.prog 89 #[pV p,iV ix] w λ e w'=>e=.returned (.tuple #[.int .u64 (opWord A ix),iV (opErr A ix)])/\w=w':=by
 cases hg:A.get ix with
 | none=>rw [opWord_none hg,opErr_none hg];exact word_out h (get_none hg)
 | some s=>obtain ⟨i,b,h1,h2,_,h3⟩:=h.at_ hg;rw [opWord_some hg,opErr_some hg];exact word_in h h1 h3 h2
theorem allocX (h:ArW w M D p slots ids A):Calls Try.prog 47 #[pV p] w λ e w'=>e=.returned (.tuple #[iV (opAlloc A).1,iV (opAlloc A).2.1])/\ArX w' (λ b=>M b\/Fresh w w' b) D p (opAlloc A).2.2/\Keeps M w w':=by
 unfold opAlloc
 by_cases hf:A.sl.length=A.nodes
 ·rw [if_pos hf]
  refine (alloc_full h hf).mono ?_
  rintro e w' ⟨rfl,m,rfl⟩
  refine ⟨rfl,⟨_,_,(h.keeps (Keeps.drewN Nob w m) (λ _ _ _=>id) (λ _ _ _=>id)).monoM (λ b hb=>.inl hb) ?_ ?_⟩,Keeps.drewN _ _ _⟩
  ·rintro b (hb|hb)
   ·exact h.apart b hb
   ·intro hd;have:=h.dlt b hd;have:=hb.1;omega
  ·rintro b (hb|hb)
   ·exact h.mlt b hb
   ·exact hb.2
 ·rw [if_neg hf]
  exact alloc_room h (by have:=h.bound;omega)
end
end Go.Proofs.Ytjcgphhpaenjkaa
namespace Go.Proofs.Ytjcgphhpaenjkaa
open Go.RowKit
def opLay3 (A:Ar) (ix:Int) (n:Nd):Ar:=(opUnlock (opSetBody (opSetHead A ix n).2 ix n).2 ix true).2
def opLay (A:Ar) (ix:Int) (n:Nd):Ar:=
 if (A.sl.length:Int) < ix then (if (opAlloc A).2.1=0 then opLay3 (opAlloc A).2.2 ix n else (opAlloc A).2.2)
 else opLay3 (opLock A ix (opWord A ix)).2.2 ix n
section
variable {w:World} {G:Nat->Prop} {b p q:Nat} {A B:Ar} {ix:Int}
end
end Go.Proofs.Ytjcgphhpaenjkaa
namespace Go.Proofs.Ytjcgphhpaenjkaa
open Go.RowKit
def ar0 (n:Nat):Ar:=⟨n,[⟨0,Nd.zero⟩],1⟩
section
variable {w:World}
end
end Go.Proofs.Ytjcgphhpaenjkaa
namespace Go.Proofs.Ytjcgphhpaenjkaa
open Go.RowKit
section
variable {w:World} {G:Nat->Prop} {b p q:Nat} {A B:Ar} {ix:Int}
end
end Go.Proofs.Ytjcgphhpaenjkaa
namespace Go.Proofs.Ytjcgphhpaenjkaa
open Go.RowKit
section
variable {S T M:Nat->Prop} {w w':World} {v u:Value} {n g i:Nat} {cs:Array Value} {e:TypeId}
section
variable {w0:World} {c1 c3 c4 c5:Value} {n1 n3 n4 n5:Nat}
end
end
end Go.Proofs.Ytjcgphhpaenjkaa
namespace Go.Proofs.Ytjcgphhpaenjkaa
open Go.RowKit
abbrev cmp:=Lib.compareBytes
theorem cmp_cases:∀ (a b:List UInt8),cmp a b=-1\/cmp a b=0\/cmp a b=1
 | [],[]=>.inr (.inl rfl)
 | [],_::_=>.inl rfl
 | _::_,[]=>.inr (.inr rfl)
 | a::l,b::m=>by
  unfold cmp Lib.compareBytes
  split
  ·exact .inl rfl
  ·split
   ·exact .inr (.inr rfl)
   ·exact cmp_cases l m
theorem cmp_self:∀ (a:List UInt8),cmp a a=0
 | []=>rfl
 | a::l=>by unfold cmp Lib.compareBytes;rw [if_neg (UInt8.lt_irrefl a),if_neg (UInt8.lt_irrefl a)];exact cmp_self l
theorem cmp_zero:∀ (a b:List UInt8),cmp a b=0->a=b
 | [],[],_=>rfl
 | [],_::_,h=>by cases h
 | _::_,[],h=>by cases h
 | a::l,b::m,h=>by
  unfold cmp Lib.compareBytes at h
  split at h
  ·cases h
  ·split at h
   ·cases h
   ·rename_i h1 h2
    have:a=b:=UInt8.le_antisymm (UInt8.not_lt.1 h2) (UInt8.not_lt.1 h1)
    rw [this,cmp_zero l m h]
section
variable {S T:Nat->Prop} {w:World} {a b:Value} {la lb:List UInt8}
theorem run_bytesOf {P:Program} (h:Byts w S a la):(Extern.Bytes.bytesOf a).run P w=.ok ⟨la.toArray⟩ w:=by
 obtain ⟨A,c,rfl,_,_⟩:=h.form
 rcases hA:A with _|ad
 ·subst hA
  have hn:la=[]:=by
   rcases hl:la with _|⟨x,l⟩
   ·rfl
   ·obtain ⟨ad,e,_⟩:=h.cells (i:=0) (by rw [hl];simp)
    cases e
  subst hn
  rfl
 ·subst hA
  have hc:∀ j (x:Int),(la.map (λ u=>(u.toNat:Int)))[j]?=some x->w.cell? (ad.add j)=some (.int .u8 x):=λ j x hj=>by
   rw [List.getElem?_map] at hj
   obtain ⟨u,hu,rfl⟩:=Option.map_eq_some_iff.1 hj
   obtain ⟨ad',e,_,hcc⟩:=h.cells (i:=j) (List.getElem?_eq_some_iff.1 hu).1
   cases e
   exact hcc j u hu
  have:=Lib.run_loadBytesX (P:=P) w (la.map (λ u=>(u.toNat:Int))) ad .empty hc
  rw [List.length_map] at this
  have he:Lib.bytesOf (la.map (λ u=>(u.toNat:Int)))=la:=by
   unfold Lib.bytesOf
   rw [List.map_map]
   conv=>rhs;rw [<-List.map_id la]
   apply List.map_congr_left
   intro u _
   simp [Function.comp]
  rw [he] at this
  have h2:(⟨ByteArray.empty.data++la.toArray⟩:ByteArray)=⟨la.toArray⟩:=by
   apply ByteArray.ext
   show (#[]:Array UInt8)++la.toArray=la.toArray
   simp
  rw [h2] at this
  exact this
theorem cmpP (h1:Byts w S a la) (h2:Byts w T b lb):Calls Try.prog 63 #[a,b] w λ e w'=>e=.returned (.int .i64 (cmp la lb))/\w'=w:=by
 have hd:(callFunc 75 #[a,b]).run Try.prog w=.ok (.value (.int .i64 (cmp la lb))) w:=by
  rw [run_callFunc_extern (fn:=Try.f75) (e:=Extern.BytealgCompare.compare) (by kernel_rfl) (by kernel_rfl) (by kernel_rfl) (by kernel_rfl) (by kernel_rfl)]
  change (Sem.run Try.prog (do pure (goInt (Extern.BytealgCompare.cmp (<-Extern.Bytes.bytesOf a) (<-Extern.Bytes.bytesOf b)))) w).andThen _=_
  simp only [Sem.run_bind,run_bytesOf h1,run_bytesOf h2,Sem.run_pure,Result.andThen,Lib.cmp_eq]
  rfl
 clear h1 h2
 generalize hcv:cmp la lb=cv at hd ⊢
 go_enter Try.func63,Try.ntmps63
 go_wp2
 go_ret
 exact ⟨rfl,rfl⟩
end
end Go.Proofs.Ytjcgphhpaenjkaa
namespace Go.Proofs.Ytjcgphhpaenjkaa
open Go.RowKit
def beyond (high key:List UInt8):Bool:=decide (0 < high.length)&&decide (0<=cmp key high)
def upto (l:List (List UInt8)) (k:List UInt8):Nat:=l.countP (λ x=>decide (cmp x k<=0))
theorem upto_le (l k):upto l k<=l.length:=List.countP_le_length
theorem upto_take (l:List (List UInt8)) (k:List UInt8) (n:Nat):upto (l.take n) k<=n:=Nat.le_trans (upto_le _ _) (List.length_take_le _ _)
theorem upto_succ {l:List (List UInt8)} {k x:List UInt8} {n:Nat} (h:l[n]?=some x):upto (l.take (n+1)) k=upto (l.take n) k+if cmp x k<=0 then 1 else 0:=by
 rw [List.take_add_one,h]
 unfold upto
 rw [List.countP_append]
 simp [List.countP_cons]
def childOf (kids:List Int) (keys:List (List UInt8)) (key:List UInt8):Int:=kids.getD (min (upto keys key) (kids.length-1)) 0
section
variable {S T U:Nat->Prop} {w:World} {c0 c1 c2 c3 c4 c5 b:Value} {high key:List UInt8} {ls:List (List UInt8)} {kids:List Int}
theorem beyondP (h1:Byts w S c1 high) (h2:Byts w T b key):Calls Try.prog 86 #[.agg #[c0,c1,c2,c3,c4,c5],b] w λ e w'=>e=.returned (.bool (beyond high key))/\Keeps Nob w w':=by
 obtain ⟨A,c,rfl,hn1,hm1⟩:=h1.form
 have HC:Hid (∀ o,Calls Try.prog 63 #[b,.slice A high.length c] (w.alloc o) λ e w'=>e=.returned (.int .i64 (cmp key high))/\w'=w.alloc o):=λ o=>cmpP (h2.keeps (Keeps.alloc Nob w o) (λ _ _ _=>id)) (h1.keeps (Keeps.alloc Nob w o) (λ _ _ _=>id))
 unfold beyond
 clear h1 h2 hn1 hm1
 by_cases hz:0 < high.length
 ·rcases cmp_cases key high with hc|hc|hc
  all_goals
   have HCM:=Hd hc
   rw [hc]
   clear hc
   go_enter Try.func86,Try.ntmps86
   go_wp2_with (go_at_call 63;refine (HC.out _).mono ?_;rintro e w1 ⟨rfl,rfl⟩;rw [HCM.out])
   go_ret
   exact ⟨by simp [hz],Keeps.alloc _ _ _⟩
 ·go_enter Try.func86,Try.ntmps86
  go_wp2
  go_ret
  exact ⟨by simp [hz],Keeps.alloc _ _ _⟩
theorem childP (h1:Txts w S c3 ls) (h3:Ints w U c5 kids) (h2:Byts w T b key):Calls Try.prog 99 #[.agg #[c0,c1,c2,c3,c4,c5],b] w λ e w'=>e=.returned (.int .i64 (childOf kids ls key))/\Keeps Nob w w':=by
 obtain ⟨A,c,rfl,hn1,hm1⟩:=h1.form
 obtain ⟨B,d,rfl,hn3,hm3⟩:=h3.form
 have hz1:ls.length<=9223372036854775807:=Nat.le_trans hn1 hm1
 have hz3:kids.length<=9223372036854775807:=Nat.le_trans hn3 hm3
 have H1:=Hd h1
 have H2:=Hd h2
 have H3:=Hd h3
 clear h1 h2 h3 hn1 hm1 hn3 hm3
 go_enter Try.func99,Try.ntmps99
 go_wp2
 go_loopw [5,12] (λ b i wr=>∃ k:Nat,k<=ls.length/\i=.int .i64 k/\b=.int .i64 (upto (ls.take k) key)/\Blk wr w.heap.size 75 #[c0,c1,c2,.slice A ls.length c,c4,.slice B kids.length d]/\Keeps Nob w wr) (λ _ i _=>ls.length-(intOf i).toNat)
 case atStart=>exact ⟨0,Nat.zero_le _,rfl,rfl,Blk.new _ _ _,Keeps.alloc _ _ _⟩
 case round=>
  obtain ⟨k,hk,rfl,rfl,hB,hK⟩:=hrel
  have HK:=Hd hK
  have HBK:=Hd hB
  have q:=hB.cell 5
  clear hK hB
  have hbl:=upto_take ls key k
  by_cases hlt:k < ls.length
  ·obtain ⟨x,hx⟩:∃ x,ls[k]?=some x:=⟨_,List.getElem?_eq_getElem hlt⟩
   obtain ⟨ad,rfl,_,hc⟩:=H1.out.cells hlt
   obtain ⟨u,hu,hbu⟩:=hc k x hx
   have hu':wr.cell? (ad.add k)=some u:=HK.out.cell hu id
   have HX:=Hd hx
   have HB:=Hd (upto_succ (k:=key) hx)
   have HC:=Hd (cmpP (hbu.keeps HK.out (λ _ _ _=>id)) (H2.out.keeps HK.out (λ _ _ _=>id)))
   clear hc hu hbu hx
   generalize upto (ls.take k) key=bl at hbl HB ⊢
   rcases cmp_cases x key with hcm|hcm|hcm
   all_goals
    have HCM:=Hd hcm
    clear hcm
    go_wp2_with (go_at_call 63;refine HC.out.mono ?_;rintro e w1 ⟨rfl,rfl⟩;rw [HCM.out])
    go_roundw
    case rel=>
     refine ⟨k+1,by omega,by go_num,?_,HBK.out,HK.out⟩
     rw [HB.out,HCM.out];simp
    case measure=>simp [intOf];omega
  ·have hkk:k=ls.length:=by omega
   subst hkk
   rw [List.take_of_length_le (Nat.le_refl _)] at hbl ⊢
   generalize hup:upto ls key=m at hbl ⊢
   have HUP:=Hd hup
   clear hup
   by_cases hz:kids.length=0
   ·have hz':kids=[]:=List.eq_nil_of_length_eq_zero hz
    subst hz'
    go_wp2
    go_ret
    refine ⟨?_,HK.out⟩
    unfold childOf;simp
   ·obtain ⟨bd,rfl,_,hc⟩:=H3.out.cells (i:=0) (by omega)
    have hil:min m (kids.length-1) < kids.length:=by omega
    have hcc:wr.cell? (bd.add (min m (kids.length-1)))=some (.int .i64 (childOf kids ls key)):=by
     refine HK.out.cell ?_ id
     rw [hc _ _ (List.getElem?_eq_getElem hil)]
     unfold childOf
     rw [HUP.out,List.getD_eq_getElem?_getD,List.getElem?_eq_getElem hil]
     rfl
    clear hc
    generalize hr:childOf kids ls key=r at hcc
    have HR:=Hd hr
    clear hr
    by_cases hle:(kids.length:Int)-1 < (m:Int)
    ·rw [show min m (kids.length-1)=kids.length-1 by omega] at hcc hil
     have t1:¬(m:Int)<=(kids.length:Int)-1:=by omega
     have t2:¬(m:Int) < (kids.length:Int)-1:=by omega
     go_wp2
     go_ret
     exact ⟨by rw [HR.out];rfl,HK.out⟩
    ·rw [show min m (kids.length-1)=m by omega] at hcc hil
     have t1:(m:Int)<=(kids.length:Int)-1:=by omega
     go_wp2
     go_ret
     exact ⟨by rw [HR.out];rfl,HK.out⟩
end
end Go.Proofs.Ytjcgphhpaenjkaa
namespace Go.Proofs.Ytjcgphhpaenjkaa
open Go.RowKit
theorem run_str {w:World} {S:Nat->Prop} {v:Value} {l:List UInt8} (h:Byts w S v l):(convert 34 9 v).run Try.prog w=.ok (.string ⟨l.toArray⟩) w:=by
 obtain ⟨A,c,rfl,_,_⟩:=h.form
 rcases hA:A with _|ad
 ·subst hA
  have hn:l=[]:=by
   rcases hl:l with _|⟨x,l'⟩
   ·rfl
   ·obtain ⟨ad,e,_⟩:=h.cells (i:=0) (by rw [hl];simp)
    cases e
  subst hn
  exact run_convert_bytes_nil w 34 5 Try.underlying34 Try.underlying5 _ _ 9 Try.underlying9
 ·subst hA
  refine run_convert_bytes_back w 34 9 5 ad c l Try.underlying34 Try.underlying5 Try.underlying9 (λ j hj=>?_)
  obtain ⟨ad',e,_,hc⟩:=h.cells hj
  cases e
  exact hc j _ (List.getElem?_eq_getElem hj)
section
variable {S T:Nat->Prop} {w:World} {a b:Value} {la lb:List (List UInt8)}
end
section
variable {S T:Nat->Prop} {w:World} {a0 a1 a2 a3 a4 a5 b0 b1 b2 b3 b4 b5:Value} {n m:Nd}
end
end Go.Proofs.Ytjcgphhpaenjkaa
namespace Go.Proofs.Ytjcgphhpaenjkaa
open Go.RowKit
section
variable {S:Nat->Prop} {w:World} {c1 c3 c4 c5:Value} {n:Nd} {NH NC:Nat}
variable {wr:World} {g i:Nat} {cs:Array Value}
end
section
variable {w:World} {G:Nat->Prop} {b p q:Nat} {A B:Ar} {ix:Int}
end
section
variable {w:World} {G:Nat->Prop} {b p q:Nat} {A B:Ar} {ix:Int}
end
structure OpM where
 kd:Int
 a:Int
 b:Int
 w:Nat
 ch:Bool
 nd:Nd
def opId (A:Ar) (c:Int):Int:=pk c ((A.sl.length:Int)+2)
def step (A:Ar) (o:OpM):Ar:=
 if pk o.kd 9=0 then (opAlloc A).2.2
 else if pk o.kd 9=1 then A
 else if pk o.kd 9=2 then (opLock A (opId A o.a) ((opWord A (opId A o.a)+(pk o.b 3).toNat) % 18446744073709551616)).2.2
 else if pk o.kd 9=3 then (opUnlock A (opId A o.a) o.ch).2
 else if pk o.kd 9=4 then (opSetHead A (opId A o.a) o.nd).2
 else if pk o.kd 9=5 then (opSetBody A (opId A o.a) o.nd).2
 else if pk o.kd 9=6 then (opGrow A (opId A o.a) (opId A o.b)).2.2
 else if pk o.kd 9=7 then opLay A (1+pk o.a ((A.sl.length:Int)+1)) o.nd
 else (opLock A (opId A o.a) o.w).2.2
section
variable {w:World} {G:Nat->Prop} {b p q:Nat} {A B:Ar} {ix:Int}
end
section
variable {w:World} {G:Nat->Prop} {b p q:Nat} {A B:Ar} {ix:Int}
end
section
variable {w:World} {G:Nat->Prop} {b p q:Nat} {A B:Ar} {ix:Int}
end
end Go.Proofs.Ytjcgphhpaenjkaa
namespace Go.Proofs.Ytjcgphhpaenjkaa
open Go.RowKit
section
variable {w:World} {G:Nat->Prop} {b p q:Nat} {A B:Ar} {ix:Int}
end
end Go.Proofs.Ytjcgphhpaenjkaa
namespace Go.Proofs.Ytjcgphhpaenjkaa
open Go.RowKit
section
variable {w w':World} {lo:Nat} {v:Value} {os:List OpM} {G:Nat->Prop}
end
end Go.Proofs.Ytjcgphhpaenjkaa
namespace Go.Proofs.Ytjcgphhpaenjkaa
open Go.RowKit
def RowAt {α:Type} (k m:Nat) (R:World->Nat->Array Value->α->Prop) (w:World) (lo:Nat) (v:Value) (os:List α):Prop:=
 ∃ A c,v=.slice A os.length c/\os.length<=c/\c<=maxLen/\os.length*m<=140737488355328/\(os≠[]->∃ ad,A=some ad/\ad.block < lo/\∀ (i:Nat) o,os[i]?=some o->∃ cs:Array Value,R w lo cs o/\∀ (j:Nat) x,cs[j]?=some x->w.cell? (ad.add (i*k+j))=some x)
section
variable {α:Type} {k m:Nat} {R:World->Nat->Array Value->α->Prop} {w w':World} {lo:Nat} {v:Value} {os:List α} {G:Nat->Prop}
end
end Go.Proofs.Ytjcgphhpaenjkaa
namespace Go.Proofs.Ytjcgphhpaenjkaa
open Go.ChangeShapes Go.WideShapes Go.ChangeAt Go.RowKit
section
variable {H:Type} {enc:TypeId × Value->H} {w:World} {base:Nat} {spare:Nat->Bool} {held:Bool} {fuel:Nat} {cs:List Value} {x:DataW H × List MemPlace}
theorem i64_of {n:Int} (h:I64_ n):I64 n:=bounds_i64 h
theorem list_of_ {α:Type} {P:Nat->α->Prop}:∀ (n:Nat),(∀ i,i < n->∃ x,P i x)->∃ ls:List α,ls.length=n/\∀ (i:Nat) x,ls[i]?=some x->P i x
 | 0,_=>⟨[],rfl,λ i x h=>by simp at h⟩
 | n+1,h=>by
  obtain ⟨ls,h2,h3⟩:=list_of_ n (λ i hi=>h i (by omega))
  obtain ⟨x,hp⟩:=h n (by omega)
  refine ⟨ls++[x],by simp [h2],λ i y hy=>?_⟩
  by_cases hi:i < n
  ·rw [List.getElem?_append_left (by omega)] at hy
   exact h3 i y hy
  ·rw [List.getElem?_append_right (by omega)] at hy
   have e:i=n:=by
    rcases hh:i-ls.length with _|k
    ·omega
    ·rw [hh] at hy;simp at hy
   subst e
   rw [h2,Nat.sub_self] at hy
   cases hy
   exact hp
theorem open_row {α:Type} {R:World->Nat->Array Value->α->Prop} {v:Value} {s e:TypeId} {k m:Nat} (hu:Try.prog.underlying s=some (.slice e)) (hk:Try.prog.cellsOf e=k) (hm:Try.prog.bytesOf e=m) (hpos:0 < k) (hmp:0 < m)
  (hR:∀ (cs:List Value) (x:DataW H × List MemPlace) fuel,DataW.trod enc Try.prog w base spare held fuel e cs=some x->Sz e x.1->∃ o,R w w.heap.size cs.toArray o/\cs.length=k)
  (h:DataW.trod enc Try.prog w base spare held fuel s [v]=some x) (hsz:Sz s x.1):∃ os,RowAt k m R w w.heap.size v os:=by
 rcases DataW.trod_slice hu h with ⟨e,_⟩|⟨a,len,cap,elems,rest,n,_,e,hx,hb,hlc,hcm,hel,hcells,_,_⟩
 ·injection e with e _
  subst e
  exact ⟨[],none,0,rfl,Nat.le_refl _,by decide,by simp,λ h=>absurd rfl h⟩
 ·injection e with e _
  subst e
  rw [hx] at hsz
  obtain ⟨g1,g2⟩:=sz_slice hsz hu
  rw [hm,reach_eq,List.length_map,hel] at g1
  obtain ⟨os,h2,h3⟩:=list_of_ (P:=λ i o=>∃ cs:Array Value,R w w.heap.size cs o/\cs.size=k/\∀ (j:Nat) x,cs[j]?=some x->w.cell? (a.add (i*k+j))=some x) len (λ i hi=>by
   have:=hcells i hi
   rw [hk,List.getElem?_eq_getElem (by omega)] at this
   obtain ⟨us,hus,hd⟩:=Option.bind_eq_some_iff.1 this
   obtain ⟨_,hul,hue⟩:=World.cells?_some hus
   obtain ⟨o,ho,hlen⟩:=hR _ _ _ hd (g2 _ (List.mem_map.2 ⟨_,List.getElem_mem _,rfl⟩))
   refine ⟨o,_,ho,by simpa using hlen,λ j y hy=>?_⟩
   have hj:j < k:=by
    have:=(Array.getElem?_eq_some_iff.1 hy).1
    simp only [List.size_toArray] at this
    omega
   have:=hue j hj
   rw [add_add_] at this
   rw [this]
   simpa using hy)
  refine ⟨os,some a,cap,by rw [h2],by omega,hcm,by rw [h2];omega,λ hne=>⟨a,rfl,?_,λ i o ho=>?_⟩⟩
  ·obtain ⟨o,ho⟩:∃ o,os[0]?=some o:=by cases os with|nil=>exact absurd rfl hne|cons o l=>exact ⟨o,rfl⟩
   obtain ⟨cs,_,hsz2,hc⟩:=h3 0 o ho
   have:=World.block_lt_of_cell? _ _ (hc 0 _ (Array.getElem?_eq_getElem (by omega)))
   rwa [blk_add] at this
  ·obtain ⟨cs,h4,_,h5⟩:=h3 i o ho
   exact ⟨cs,h4,h5⟩
end
end Go.Proofs.Ytjcgphhpaenjkaa
namespace Go.Proofs.Ytjcgphhpaenjkaa
open Go.RowKit
def BG:Nat:=59000000000000
structure E1 where
 key:List UInt8
 val:List UInt8
def IsE1 (w:World) (lo:Nat) (cs:Array Value) (o:E1):Prop:=
 ∃ kv vv,cs=#[kv,vv]/\(Byts w (λ b=>b < lo) kv o.key/\Byts w (λ b=>b < lo) vv o.val)/\Sm BG 1 o.key.length/\Sm BG 1 o.val.length
abbrev E1At:=RowAt 2 48 IsE1
end Go.Proofs.Ytjcgphhpaenjkaa
namespace Go.Proofs.Ytjcgphhpaenjkaa
open Go.ChangeShapes Go.WideShapes Go.ChangeAt Go.RowKit
section
variable {H:Type} {enc:TypeId × Value->H} {w:World} {base:Nat} {spare:Nat->Bool} {held:Bool} {fuel:Nat} {cs:List Value} {x:DataW H × List MemPlace}
theorem open_e1 (h:DataW.trod enc Try.prog w base spare held fuel 36 cs=some x) (hsz:Sz 36 x.1):∃ o,IsE1 w w.heap.size cs.toArray o/\cs.length=2:=by
 obtain ⟨xs,m,_,rfl,hl,hlen,hf⟩:=DataW.trod_struct Try.underlying36 h
 have hcl:Try.prog.cellsOf 36=2:=by kernel_rfl
 have k_txt:Try.prog.cellsOf 34=1:=by kernel_rfl
 rw [hcl] at hl
 match cs,hl with
 | [d0,d1],_=>
  have hs:xs.length=2:=hlen
  have e0:DataW.trod enc Try.prog w base spare held m 34 (([d0,d1].drop 0).take (Try.prog.cellsOf 34))=xs[0]?:=hf 0 _ rfl
  rw [k_txt] at e0
  replace e0:=e0.trans (List.getElem?_eq_getElem (by omega))
  have e1:DataW.trod enc Try.prog w base spare held m 34 (([d0,d1].drop 1).take (Try.prog.cellsOf 34))=xs[1]?:=hf 1 _ rfl
  rw [k_txt] at e1
  replace e1:=e1.trans (List.getElem?_eq_getElem (by omega))
  obtain ⟨n0,w0,s0⟩:=open_txt e0
  obtain ⟨n1,w1,s1⟩:=open_txt e1
  refine ⟨⟨n0,n1⟩,⟨_,_,rfl,⟨w0,w1⟩,?_,?_⟩,rfl⟩
  ·exact s0 (sz_struct hsz Try.underlying36 (j:=0) rfl (by rw [List.getElem?_map,List.getElem?_eq_getElem (by omega)];rfl))
  ·exact s1 (sz_struct hsz Try.underlying36 (j:=1) rfl (by rw [List.getElem?_map,List.getElem?_eq_getElem (by omega)];rfl))
theorem open_e1s {v:Value} (h:DataW.trod enc Try.prog w base spare held fuel 24 [v]=some x) (hsz:Sz 24 x.1):∃ os,E1At w w.heap.size v os:=
 open_row Try.underlying24 (by kernel_rfl) (by kernel_rfl) (by decide) (by decide) (λ _ _ _ h hz=>open_e1 h hz) h hsz
end
end Go.Proofs.Ytjcgphhpaenjkaa
namespace Go.Proofs.Ytjcgphhpaenjkaa
open Go.RowKit
def Rise (l:List (List UInt8)):Prop:=∀ (j:Nat) a b,l[j]?=some a->l[j+1]?=some b->cmp a b < 0
def rises:List (List UInt8)->Bool
 | []=>true
 | [_]=>true
 | a::b::l=>decide (cmp a b < 0)&&rises (b::l)
theorem rises_iff:∀ (l:List (List UInt8)),rises l=true ↔ Rise l
 | []=>⟨λ _ j a b h=>by simp at h,λ _=>rfl⟩
 | [_]=>⟨λ _ j a b _ h=>by simp at h,λ _=>rfl⟩
 | a::b::l=>by
  unfold rises
  rw [Bool.and_eq_true,decide_eq_true_eq,rises_iff (b::l)]
  constructor
  ·rintro ⟨h1,h2⟩ j x y hx hy
   cases j with
   | zero=>simp at hx hy;subst hx hy;exact h1
   | succ j=>exact h2 j x y (by simpa using hx) (by simpa using hy)
  ·intro h
   exact ⟨h 0 a b rfl rfl,λ j x y hx hy=>h (j+1) x y (by simpa using hx) (by simpa using hy)⟩
section
variable {S T:Nat->Prop} {w:World} {a:Value} {ls:List (List UInt8)}
def right (n:Nd):Bool:=if n.lvl=0 then rises n.keys&&(decide (n.vals.length=n.keys.length)&&decide (n.kids.length=0)) else rises n.keys&&(decide (0 < n.lvl)&&(decide (n.vals.length=0)&&decide (n.kids.length=n.keys.length+1)))
def leaf (n:Nd):Bool:=right n&&decide (n.lvl=0)
def inner (n:Nd):Bool:=right n&&decide (0 < n.lvl)
variable {c0 c1 c2 c3 c4 c5:Value} {n:Nd}
end
def confOk (c0 c1 c2 c3 c4:Int):Bool:=decide (1<=c0/\c0<=65536)&&(decide (2<=c1/\c1<=64)&&(decide (3<=c2/\c2<=64)&&(decide (1<=c3/\c3<=c1)&&decide (1<=c4/\c4<=64))))
def confE (c0 c1 c2 c3 c4:Int):Int:=if confOk c0 c1 c2 c3 c4 then 0 else 1
theorem betweenP (n lo hi:Int) (w:World):Calls Try.prog 70 #[.int .i64 n,.int .i64 lo,.int .i64 hi] w λ e w'=>e=.returned (.bool (decide (lo<=n/\n<=hi)))/\w'=w:=by
 by_cases h1:lo<=n
 ·by_cases h2:n<=hi
  ·go_enter Try.func70,Try.ntmps70
   go_wp2
   go_ret
   exact ⟨by simp [h1,h2],rfl⟩
  ·go_enter Try.func70,Try.ntmps70
   go_wp2
   go_ret
   exact ⟨by simp [h2],rfl⟩
 ·go_enter Try.func70,Try.ntmps70
  go_wp2
  go_ret
  exact ⟨by simp;intro _;omega,rfl⟩
theorem confP (c0 c1 c2 c3 c4:Int) (w:World):Calls Try.prog 55 #[.agg #[.int .i64 c0,.int .i64 c1,.int .i64 c2,.int .i64 c3,.int .i64 c4]] w λ e w'=>e=.returned (.int .i64 (confE c0 c1 c2 c3 c4))/\Keeps Nob w w':=by
 unfold confE confOk
 generalize h0:decide (1<=c0/\c0<=65536)=b0
 generalize h1:decide (2<=c1/\c1<=64)=b1
 generalize h2:decide (3<=c2/\c2<=64)=b2
 generalize h3:decide (1<=c3/\c3<=c1)=b3
 generalize h4:decide (1<=c4/\c4<=64)=b4
 have H0:=Hd h0
 have H1:=Hd h1
 have H2:=Hd h2
 have H3:=Hd h3
 have H4:=Hd h4
 clear h0 h1 h2 h3 h4
 cases b0<;>cases b1<;>cases b2<;>cases b3<;>cases b4
 all_goals
  go_enter Try.func55,Try.ntmps55
  go_wp2_with (go_at_call 70;refine (betweenP _ _ _ _).mono ?_;rintro e w1 ⟨rfl,rfl⟩;(first|rw [H0.out]|rw [H1.out]|rw [H2.out]|rw [H3.out]|rw [H4.out]))
  go_ret
  exact ⟨rfl,Keeps.alloc _ _ _⟩
end Go.Proofs.Ytjcgphhpaenjkaa

import Derived.Test.YtjcgphhpaenjkaaGreatPkA4
import Derived.Test.YtjcgphhpaenjkaaGreatPkA0
import Derived.Lib.BytesEntry
import Derived.BigQuiet
import Derived.Laws.IdiomStrings
import Derived.Laws.BytesArg
import Derived.Test.YtjcgphhpaenjkaaGreatPkA1
set_option maxHeartbeats 64000000
set_option maxRecDepth 100000
set_option linter.unusedVariables false
namespace Go.Proofs.YtjcgphhpaenjkaaGreat
open Go.RowKit
def SlotIn (w:World) (D:Nat->Prop) (xs:List Value) (i:Nat) (s:Sl):Prop:=
 ∃ c0 c1 c2 c3 c4 c5,xs[i*7]?=some (.int .u64 s.word)/\xs[i*7+1]?=some c0/\xs[i*7+2]?=some c1/\xs[i*7+3]?=some c2/\xs[i*7+4]?=some c3/\xs[i*7+5]?=some c4/\xs[i*7+6]?=some c5/\IsNd w D c0 c1 c2 c3 c4 c5 s.nd/\U64 s.word
structure DocW (w:World) (M D:Nat->Prop) (q:Nat) (L:Value) (xs:List Value) (A:Ar):Prop where
 blk:Blk w q 174 #[iV A.nodes,L,iV A.root]
 row:Own w M 171 7 L A.sl.length xs
 slot:∀ (i:Nat) s,A.sl[i]?=some s->SlotIn w D xs i s
 mp:M q
 apart:∀ b,M b->¬D b
 mlt:∀ b,M b->b < w.heap.size
 dlt:∀ b,D b->b < w.heap.size
 bound:A.sl.length<=A.nodes/\A.nodes<=65536
section
variable {M D D' N:Nat->Prop} {w w':World} {q i:Nat} {L:Value} {xs ys:List Value} {A:Ar} {s s':Sl} {ix:Int}
end
end Go.Proofs.YtjcgphhpaenjkaaGreat
namespace Go.Proofs.YtjcgphhpaenjkaaGreat
open Go.RowKit
section
variable {M D:Nat->Prop} {w:World} {q:Nat} {L:Value} {xs:List Value} {A:Ar} {ix:Int}
end
end Go.Proofs.YtjcgphhpaenjkaaGreat
namespace Go.Proofs.YtjcgphhpaenjkaaGreat
open Go.RowKit
section
variable {M D:Nat->Prop} {w:World} {q:Nat} {L:Value} {xs:List Value} {A:Ar} {ix:Int}
end
end Go.Proofs.YtjcgphhpaenjkaaGreat
namespace Go.Proofs.YtjcgphhpaenjkaaGreat
open Go.RowKit
section
variable {M D:Nat->Prop} {w:World} {q:Nat} {L:Value} {xs:List Value} {A:Ar} {ix:Int} {s:Sl}
end
end Go.Proofs.YtjcgphhpaenjkaaGreat
namespace Go.Proofs.YtjcgphhpaenjkaaGreat
open Go.RowKit
section
variable {M D:Nat->Prop} {w:World} {q:Nat} {L:Value} {xs:List Value} {A:Ar} {ix:Int} {s:Sl}
end
end Go.Proofs.YtjcgphhpaenjkaaGreat
namespace Go.Proofs.YtjcgphhpaenjkaaGreat
open Go.RowKit
section
variable {M D:Nat->Prop} {w:World} {q:Nat} {L:Value} {xs:List Value} {A:Ar} {ix:Int}
end
end Go.Proofs.YtjcgphhpaenjkaaGreat
namespace Go.Proofs.YtjcgphhpaenjkaaGreat
open Go.RowKit
def I64 (n:Int):Prop:=-9223372036854775808<=n/\n<=9223372036854775807
def pk (c n:Int):Int:=(if c < 0 then -(c+1) else c) % n
theorem ret_i {a b:Int} (h:a=b):Ending.returned (.int .i64 a)=.returned (iV b):=by rw [h];rfl
end Go.Proofs.YtjcgphhpaenjkaaGreat
namespace Go.Proofs.YtjcgphhpaenjkaaGreat
open Go.RowKit
structure J (w:World) (G:Nat->Prop) (b p q:Nat) (A B:Ar):Prop where
 blk:Blk w b 52 #[pV p,pV q]
 mem:∃ M D M' D':Nat->Prop,ArX w M D p A/\(∃ L xs,DocW w M' D' q L xs B)/\(∀ x,M x->G x/\¬M' x/\¬D' x/\x≠b)/\(∀ x,M' x->G x/\¬D x/\x≠b)/\(∀ x,D x\/D' x->G x)
 low:G b
 new:∀ x,w.heap.size<=x->G x
 smA:∀ s ∈ A.sl,NdSm 0 s.nd
 smB:∀ s ∈ B.sl,NdSm 0 s.nd
section
variable {A:Ar} {ix:Int} {n:Nd} {t:Sl}
theorem sm_zero:NdSm 0 Nd.zero:=⟨by simp [Sm,Nd.zero],⟨by simp [Sm,Nd.zero],λ x hx=>by simp [Nd.zero] at hx⟩,⟨by simp [Sm,Nd.zero],λ x hx=>by simp [Nd.zero] at hx⟩,by simp [Sm,Nd.zero]⟩
theorem sm_put (h:∀ s ∈ A.sl,NdSm 0 s.nd) (ht:NdSm 0 t.nd):∀ s ∈ (A.put ix t).sl,NdSm 0 s.nd:=λ s hs=>by
 rcases List.mem_or_eq_of_mem_set hs with h1|h1
 ·exact h s h1
 ·subst h1;exact ht
theorem sm_get (h:∀ s ∈ A.sl,NdSm 0 s.nd) (hg:A.get ix=some t):NdSm 0 t.nd:=by
 obtain ⟨i,_,h2,_⟩:=get_some hg
 exact h t (List.mem_of_getElem? h2)
theorem sm_lock {wd:Nat} (h:∀ s ∈ A.sl,NdSm 0 s.nd):∀ s ∈ (opLock A ix wd).2.2.sl,NdSm 0 s.nd:=by
 unfold opLock
 split
 ·exact h
 ·rename_i s hg
  split
  ·exact sm_put h (show NdSm 0 s.nd from sm_get h hg)
  ·exact h
theorem sm_unlock {c:Bool} (h:∀ s ∈ A.sl,NdSm 0 s.nd):∀ s ∈ (opUnlock A ix c).2.sl,NdSm 0 s.nd:=by
 unfold opUnlock
 split
 ·exact h
 ·rename_i s hg
  split
  ·exact h
  ·exact sm_put h (show NdSm 0 s.nd from sm_get h hg)
theorem sm_setHead (h:∀ s ∈ A.sl,NdSm 0 s.nd) (hn:NdSm 0 n):∀ s ∈ (opSetHead A ix n).2.sl,NdSm 0 s.nd:=by
 unfold opSetHead
 split
 ·exact h
 ·rename_i s hg
  have:=sm_get h hg
  split
  ·exact h
  ·exact sm_put h ⟨hn.1,this.2⟩
theorem sm_setBody (h:∀ s ∈ A.sl,NdSm 0 s.nd) (hn:NdSm 0 n):∀ s ∈ (opSetBody A ix n).2.sl,NdSm 0 s.nd:=by
 unfold opSetBody
 split
 ·exact h
 ·rename_i s hg
  have:=sm_get h hg
  split
  ·exact h
  ·exact sm_put h ⟨this.1,hn.2⟩
theorem sm_grow {o:Int} (h:∀ s ∈ A.sl,NdSm 0 s.nd):∀ s ∈ (opGrow A o ix).2.2.sl,NdSm 0 s.nd:=by
 unfold opGrow
 split
 ·exact h
 ·split<;>exact h
theorem sm_alloc (h:∀ s ∈ A.sl,NdSm 0 s.nd):∀ s ∈ (opAlloc A).2.2.sl,NdSm 0 s.nd:=by
 unfold opAlloc
 split
 ·exact h
 ·intro s hs
  rcases List.mem_append.1 hs with hs|hs
  ·exact h s hs
  ·simp at hs;subst hs;exact sm_zero
end
section
variable {N M D M1 D1 M' D':Nat->Prop} {w w':World} {G G':Nat->Prop} {b p q:Nat} {A B A' B':Ar} {ix:Int} {slots L:Value} {ids:List Nat} {xs:List Value}
theorem ArW.monoM (h:ArW w M D p slots ids A) (hm:∀ b,M b->M' b) (ha:∀ b,M' b->¬D b) (hl:∀ b,M' b->b < w.heap.size):ArW w M' D p slots ids A:=
 ⟨h.blk,h.row.mono (λ b _ hb=>hm b hb),h.nodup,h.len,h.slot,hm _ h.mp,λ b hb=>hm b (h.mids b hb),ha,hl,h.dlt,h.bound⟩
theorem wordX (h:ArW w M D p slots ids A):Calls Tryz.prog 22 #[pV p,iV ix] w λ e w'=>e=.returned (.tuple #[.int .u64 (opWord A ix),iV (opErr A ix)])/\w=w':=by
 cases hg:A.get ix with
 | none=>rw [opWord_none hg,opErr_none hg];exact word_out h (get_none hg)
 | some s=>obtain ⟨i,b,h1,h2,_,h3⟩:=h.at_ hg;rw [opWord_some hg,opErr_some hg];exact word_in h h1 h3 h2
theorem allocX (h:ArW w M D p slots ids A):Calls Tryz.prog 166 #[pV p] w λ e w'=>e=.returned (.tuple #[iV (opAlloc A).1,iV (opAlloc A).2.1])/\ArX w' (λ b=>M b\/Fresh w w' b) D p (opAlloc A).2.2/\Keeps M w w':=by
 unfold opAlloc
 by_cases hf:A.sl.length=A.nodes
 ·rw [if_pos hf]
  refine (alloc_full h hf).mono ?_
  rintro e w' ⟨rfl,m,rfl⟩
  refine ⟨rfl,⟨_,_,(h.keeps (Keeps.drewN Nob w m) (λ _ _ _=>id) (λ _ _ _=>id)).monoM (λ b hb=>.inl hb) ?_ ?_⟩,Keeps.drewN _ _ _⟩
  ·rintro b (hb|hb)
   ·exact h.apart b hb
   ·intro hd;have:=h.dlt b hd;have:=hb.1;omega
  ·rintro b (hb|hb)
   ·exact h.mlt b hb
   ·exact hb.2
 ·rw [if_neg hf]
  exact alloc_room h (by have:=h.bound;omega)
end
end Go.Proofs.YtjcgphhpaenjkaaGreat
namespace Go.Proofs.YtjcgphhpaenjkaaGreat
open Go.RowKit
def opLay3 (A:Ar) (ix:Int) (n:Nd):Ar:=(opUnlock (opSetBody (opSetHead A ix n).2 ix n).2 ix true).2
def opLay (A:Ar) (ix:Int) (n:Nd):Ar:=
 if (A.sl.length:Int) < ix then (if (opAlloc A).2.1=0 then opLay3 (opAlloc A).2.2 ix n else (opAlloc A).2.2)
 else opLay3 (opLock A ix (opWord A ix)).2.2 ix n
section
variable {w:World} {G:Nat->Prop} {b p q:Nat} {A B:Ar} {ix:Int}
end
end Go.Proofs.YtjcgphhpaenjkaaGreat
namespace Go.Proofs.YtjcgphhpaenjkaaGreat
open Go.RowKit
def ar0 (n:Nat):Ar:=⟨n,[⟨0,Nd.zero⟩],1⟩
section
variable {w:World}
end
end Go.Proofs.YtjcgphhpaenjkaaGreat
namespace Go.Proofs.YtjcgphhpaenjkaaGreat
open Go.RowKit
section
variable {w:World} {G:Nat->Prop} {b p q:Nat} {A B:Ar} {ix:Int}
end
end Go.Proofs.YtjcgphhpaenjkaaGreat
namespace Go.Proofs.YtjcgphhpaenjkaaGreat
open Go.RowKit
section
variable {S T M:Nat->Prop} {w w':World} {v u:Value} {n g i:Nat} {cs:Array Value} {e:TypeId}
section
variable {w0:World} {c1 c3 c4 c5:Value} {n1 n3 n4 n5:Nat}
end
end
end Go.Proofs.YtjcgphhpaenjkaaGreat
namespace Go.Proofs.YtjcgphhpaenjkaaGreat
open Go.RowKit
abbrev cmp:=Lib.compareBytes
theorem cmp_cases:∀ (a b:List UInt8),cmp a b=-1\/cmp a b=0\/cmp a b=1
 | [],[]=>.inr (.inl rfl)
 | [],_::_=>.inl rfl
 | _::_,[]=>.inr (.inr rfl)
 | a::l,b::m=>by
  unfold cmp Lib.compareBytes
  split
  ·exact .inl rfl
  ·split
   ·exact .inr (.inr rfl)
   ·exact cmp_cases l m
theorem cmp_self:∀ (a:List UInt8),cmp a a=0
 | []=>rfl
 | a::l=>by unfold cmp Lib.compareBytes;rw [if_neg (UInt8.lt_irrefl a),if_neg (UInt8.lt_irrefl a)];exact cmp_self l
theorem cmp_zero:∀ (a b:List UInt8),cmp a b=0->a=b
 | [],[],_=>rfl
 | [],_::_,h=>by cases h
 | _::_,[],h=>by cases h
 | a::l,b::m,h=>by
  unfold cmp Lib.compareBytes at h
  split at h
  ·cases h
  ·split at h
   ·cases h
   ·rename_i h1 h2
    have:a=b:=UInt8.le_antisymm (UInt8.not_lt.1 h2) (UInt8.not_lt.1 h1)
    rw [this,cmp_zero l m h]
theorem cmp_drop:∀ (n:Nat) (a b:List UInt8),a.take n=b.take n->cmp a b=cmp (a.drop n) (b.drop n)
 | 0,a,b,_=>by rw [List.drop_zero,List.drop_zero]
 | n+1,[],[],_=>by simp
 | n+1,[],_::_,h=>by simp at h
 | n+1,_::_,[],h=>by simp at h
 | n+1,x::a,y::b,h=>by
  simp only [List.take_succ_cons,List.cons.injEq] at h
  obtain ⟨rfl,h⟩:=h
  rw [List.drop_succ_cons,List.drop_succ_cons,<-cmp_drop n a b h]
  show Lib.compareBytes (x::a) (x::b)=_
  conv=>lhs;unfold Lib.compareBytes
  rw [if_neg (UInt8.lt_irrefl x),if_neg (UInt8.lt_irrefl x)]
theorem cmp_at {n:Nat} {a b:List UInt8} {x y:UInt8} (h:a.take n=b.take n) (hx:a[n]?=some x) (hy:b[n]?=some y) (hne:x≠y):cmp a b=if x < y then -1 else 1:=by
 rw [cmp_drop n a b h]
 obtain ⟨h1,h1'⟩:=List.getElem?_eq_some_iff.1 hx
 obtain ⟨h2,h2'⟩:=List.getElem?_eq_some_iff.1 hy
 rw [List.drop_eq_getElem_cons h1,List.drop_eq_getElem_cons h2,h1',h2']
 show Lib.compareBytes (x::_) (y::_)=_
 unfold Lib.compareBytes
 by_cases hlt:x < y
 ·rw [if_pos hlt,if_pos hlt]
 ·rw [if_neg hlt,if_neg hlt,if_pos (UInt8.lt_of_le_of_ne (UInt8.not_lt.1 hlt) (Ne.symm hne))]
theorem cmp_end {n:Nat} {a b:List UInt8} (h:a.take n=b.take n) (hn:n=a.length\/n=b.length):cmp a b=if a.length < b.length then -1 else if b.length < a.length then 1 else 0:=by
 rw [cmp_drop n a b h]
 have hl:(a.take n).length=(b.take n).length:=by rw [h]
 rw [List.length_take,List.length_take] at hl
 have ha:(a.drop n).length=a.length-n:=List.length_drop
 have hb:(b.drop n).length=b.length-n:=List.length_drop
 rcases h1:a.drop n with _|⟨x,l⟩<;>rcases h2:b.drop n with _|⟨y,m⟩<;>rw [h1] at ha<;>rw [h2] at hb<;>simp only [List.length_nil,List.length_cons] at ha hb
 ·rw [if_neg (by omega),if_neg (by omega)];rfl
 ·rw [if_pos (by omega)];rfl
 ·rw [if_neg (by omega),if_pos (by omega)];rfl
 ·omega
section
variable {S T:Nat->Prop} {w:World} {a b:Value} {la lb:List UInt8}
theorem run_bytesOf {P:Program} (h:Byts w S a la):(Extern.Bytes.bytesOf a).run P w=.ok ⟨la.toArray⟩ w:=by
 obtain ⟨A,c,rfl,_,_⟩:=h.form
 rcases hA:A with _|ad
 ·subst hA
  have hn:la=[]:=by
   rcases hl:la with _|⟨x,l⟩
   ·rfl
   ·obtain ⟨ad,e,_⟩:=h.cells (i:=0) (by rw [hl];simp)
    cases e
  subst hn
  rfl
 ·subst hA
  have hc:∀ j (x:Int),(la.map (λ u=>(u.toNat:Int)))[j]?=some x->w.cell? (ad.add j)=some (.int .u8 x):=λ j x hj=>by
   rw [List.getElem?_map] at hj
   obtain ⟨u,hu,rfl⟩:=Option.map_eq_some_iff.1 hj
   obtain ⟨ad',e,_,hcc⟩:=h.cells (i:=j) (List.getElem?_eq_some_iff.1 hu).1
   cases e
   exact hcc j u hu
  have:=Lib.run_loadBytesX (P:=P) w (la.map (λ u=>(u.toNat:Int))) ad .empty hc
  rw [List.length_map] at this
  have he:Lib.bytesOf (la.map (λ u=>(u.toNat:Int)))=la:=by
   unfold Lib.bytesOf
   rw [List.map_map]
   conv=>rhs;rw [<-List.map_id la]
   apply List.map_congr_left
   intro u _
   simp [Function.comp]
  rw [he] at this
  have h2:(⟨ByteArray.empty.data++la.toArray⟩:ByteArray)=⟨la.toArray⟩:=by
   apply ByteArray.ext
   show (#[]:Array UInt8)++la.toArray=la.toArray
   simp
  rw [h2] at this
  exact this
theorem cmpP (h1:Byts w S a la) (h2:Byts w T b lb):Calls Tryz.prog 88 #[a,b] w λ e w'=>e=.returned (.int .i64 (cmp la lb))/\w'=w:=by
 have hd:(callFunc 162 #[a,b]).run Tryz.prog w=.ok (.value (.int .i64 (cmp la lb))) w:=by
  rw [run_callFunc_extern (fn:=Tryz.f162) (e:=Extern.BytealgCompare.compare) (by kernel_rfl) (by kernel_rfl) (by kernel_rfl) (by kernel_rfl) (by kernel_rfl)]
  change (Sem.run Tryz.prog (do pure (goInt (Extern.BytealgCompare.cmp (<-Extern.Bytes.bytesOf a) (<-Extern.Bytes.bytesOf b)))) w).andThen _=_
  simp only [Sem.run_bind,run_bytesOf h1,run_bytesOf h2,Sem.run_pure,Result.andThen,Lib.cmp_eq]
  rfl
 clear h1 h2
 generalize hcv:cmp la lb=cv at hd ⊢
 go_enter Tryz.func88,Tryz.ntmps88
 go_wp2
 go_ret
 exact ⟨rfl,rfl⟩
theorem take_both {k:Nat} {la lb:List UInt8} {x:UInt8} (h:la.take k=lb.take k) (hx:la[k]?=some x) (hy:lb[k]?=some x):la.take (k+1)=lb.take (k+1):=by
 rw [List.take_add_one,List.take_add_one,h,hx,hy]
theorem cmpR (h1:Byts w S a la) (h2:Byts w T b lb):Calls Tryz.prog 91 #[a,b] w λ e w'=>e=.returned (.int .i64 (cmp la lb))/\Keeps Nob w w':=by
 obtain ⟨A,c,rfl,hn1,hm1⟩:=h1.form
 obtain ⟨B,d,rfl,hn2,hm2⟩:=h2.form
 have hz1:la.length<=9223372036854775807:=Nat.le_trans hn1 hm1
 have hz2:lb.length<=9223372036854775807:=Nat.le_trans hn2 hm2
 have H1:=Hd h1
 have H2:=Hd h2
 clear h1 h2 hn1 hn2 hm1 hm2
 go_enter Tryz.func91,Tryz.ntmps91
 go_wp2
 go_loopw [5] (λ i wr=>∃ k:Nat,k<=la.length/\k<=lb.length/\i=.int .i64 k/\la.take k=lb.take k/\Keeps Nob w wr) (λ i _=>la.length-(intOf i).toNat)
 case atStart=>exact ⟨0,Nat.zero_le _,Nat.zero_le _,rfl,rfl,Keeps.refl _ _⟩
 case round=>
  obtain ⟨k,hk1,hk2,rfl,htake,hK⟩:=hrel
  have HT:=Hd htake
  have HK:=Hd hK
  clear htake hK
  by_cases hlt:k < la.length
  ·by_cases hlt2:k < lb.length
   ·obtain ⟨x,hx⟩:∃ x,la[k]?=some x:=⟨_,List.getElem?_eq_getElem hlt⟩
    obtain ⟨y,hy⟩:∃ y,lb[k]?=some y:=⟨_,List.getElem?_eq_getElem hlt2⟩
    obtain ⟨ad,rfl,_,hca⟩:=H1.out.cells hlt
    obtain ⟨bd,rfl,_,hcb⟩:=H2.out.cells hlt2
    have hx':wr.cell? (ad.add k)=some (.int .u8 (x.toNat:Int)):=HK.out.cell (hca k x hx) id
    have hy':wr.cell? (bd.add k)=some (.int .u8 (y.toNat:Int)):=HK.out.cell (hcb k y hy) id
    have HX:=Hd hx
    have HY:=Hd hy
    clear hca hcb hx hy
    have b0:(0:Int)<=(k:Int):=by omega
    have b1:(k:Int) < (la.length:Int):=by omega
    have b2:(k:Int) < (lb.length:Int):=by omega
    by_cases hxy:x.toNat < y.toNat
    ·have t1:decide ((x.toNat:Int) < (y.toNat:Int))=true:=by simpa using hxy
     go_wp2
     go_quiet (fail)
     go_wp2
     go_ret
     have hne:x≠y:=λ e=>by subst e;omega
     refine ⟨?_,HK.out.drewN' _⟩
     rw [cmp_at HT.out HX.out HY.out hne,if_pos (UInt8.lt_iff_toNat_lt.2 hxy)];rfl
    ·have t1:decide ((x.toNat:Int) < (y.toNat:Int))=false:=by simpa using hxy
     have b3:¬(x.toNat:Int) < (y.toNat:Int):=by omega
     by_cases hyx:y.toNat < x.toNat
     ·have t2:decide ((y.toNat:Int) < (x.toNat:Int))=true:=by simpa using hyx
      go_wp2
      go_quiet (fail)
      go_wp2
      have hx2:(wr.drewN nq).cell? (ad.add k)=some (.int .u8 (x.toNat:Int)):=hx'
      have hy2:(wr.drewN nq).cell? (bd.add k)=some (.int .u8 (y.toNat:Int)):=hy'
      generalize hq:wr.drewN nq=wq at hx2 hy2 ⊢
      have HQ:=Hd hq
      clear hq
      go_quiet (fail)
      go_wp2
      go_ret
      have hne:x≠y:=λ e=>by subst e;omega
      refine ⟨?_,?_⟩
      ·rw [cmp_at HT.out HX.out HY.out hne,if_neg (λ h=>hxy (UInt8.lt_iff_toNat_lt.1 h))];rfl
      ·rw [<-HQ.out];exact (HK.out.drewN' _).drewN' _
     ·have t2:decide ((y.toNat:Int) < (x.toNat:Int))=false:=by simpa using hyx
      have b4:¬(y.toNat:Int) < (x.toNat:Int):=by omega
      go_wp2
      go_quiet (fail)
      go_wp2
      have hx2:(wr.drewN nq).cell? (ad.add k)=some (.int .u8 (x.toNat:Int)):=hx'
      have hy2:(wr.drewN nq).cell? (bd.add k)=some (.int .u8 (y.toNat:Int)):=hy'
      generalize hq:wr.drewN nq=wq at hx2 hy2 ⊢
      have HQ:=Hd hq
      clear hq
      go_quiet (fail)
      go_wp2
      go_roundw
      case rel=>
       have hxy2:x=y:=UInt8.toNat_inj.1 (by omega)
       have:=HX.out
       rw [hxy2] at this
       exact ⟨k+1,by omega,by omega,by go_num,take_both HT.out this HY.out,by rw [<-HQ.out];exact (HK.out.drewN' _).drewN' _⟩
      case measure=>simp [intOf];omega
   ·have hkb:k=lb.length:=by omega
    have t1:decide ((k:Int) < (lb.length:Int))=false:=by simp;omega
    have hce:=cmp_end HT.out (.inr hkb)
    rw [if_neg (by omega),if_pos (by omega)] at hce
    subst hkb
    have HCE:=Hd hce
    clear hce
    go_wp2
    go_ret
    exact ⟨by rw [HCE.out];rfl,HK.out⟩
  ·have hka:k=la.length:=by omega
   have hce:=cmp_end HT.out (.inl hka)
   subst hka
   by_cases hll:la.length < lb.length
   ·rw [if_pos hll] at hce
    have HCE:=Hd hce
    clear hce
    go_wp2
    go_ret
    exact ⟨by rw [HCE.out];rfl,HK.out⟩
   ·have hle:la.length=lb.length:=by omega
    rw [if_neg (by omega),if_neg (by omega)] at hce
    have HCE:=Hd hce
    clear hce
    go_wp2
    go_ret
    exact ⟨by rw [HCE.out];rfl,HK.out⟩
end
end Go.Proofs.YtjcgphhpaenjkaaGreat
namespace Go.Proofs.YtjcgphhpaenjkaaGreat
open Go.RowKit
def beyond (high key:List UInt8):Bool:=decide (0 < high.length)&&decide (0<=cmp key high)
def upto (l:List (List UInt8)) (k:List UInt8):Nat:=l.countP (λ x=>decide (cmp x k<=0))
theorem upto_le (l k):upto l k<=l.length:=List.countP_le_length
theorem upto_take (l:List (List UInt8)) (k:List UInt8) (n:Nat):upto (l.take n) k<=n:=Nat.le_trans (upto_le _ _) (List.length_take_le _ _)
theorem upto_succ {l:List (List UInt8)} {k x:List UInt8} {n:Nat} (h:l[n]?=some x):upto (l.take (n+1)) k=upto (l.take n) k+if cmp x k<=0 then 1 else 0:=by
 rw [List.take_add_one,h]
 unfold upto
 rw [List.countP_append]
 simp [List.countP_cons]
def childOf (kids:List Int) (keys:List (List UInt8)) (key:List UInt8):Int:=kids.getD (min (upto keys key) (kids.length-1)) 0
section
variable {S T U:Nat->Prop} {w:World} {c0 c1 c2 c3 c4 c5 b:Value} {high key:List UInt8} {ls:List (List UInt8)} {kids:List Int}
theorem beyondP (h1:Byts w S c1 high) (h2:Byts w T b key):Calls Tryz.prog 231 #[.agg #[c0,c1,c2,c3,c4,c5],b] w λ e w'=>e=.returned (.bool (beyond high key))/\Keeps Nob w w':=by
 obtain ⟨A,c,rfl,hn1,hm1⟩:=h1.form
 have HC:Hid (∀ o,Calls Tryz.prog 88 #[b,.slice A high.length c] (w.alloc o) λ e w'=>e=.returned (.int .i64 (cmp key high))/\w'=w.alloc o):=λ o=>cmpP (h2.keeps (Keeps.alloc Nob w o) (λ _ _ _=>id)) (h1.keeps (Keeps.alloc Nob w o) (λ _ _ _=>id))
 unfold beyond
 clear h1 h2 hn1 hm1
 by_cases hz:0 < high.length
 ·rcases cmp_cases key high with hc|hc|hc
  all_goals
   have HCM:=Hd hc
   rw [hc]
   clear hc
   go_enter Tryz.func231,Tryz.ntmps231
   go_wp2_with (go_at_call 88;refine (HC.out _).mono ?_;rintro e w1 ⟨rfl,rfl⟩;rw [HCM.out])
   go_ret
   exact ⟨by simp [hz],Keeps.alloc _ _ _⟩
 ·go_enter Tryz.func231,Tryz.ntmps231
  go_wp2
  go_ret
  exact ⟨by simp [hz],Keeps.alloc _ _ _⟩
theorem childP (h1:Txts w S c3 ls) (h3:Ints w U c5 kids) (h2:Byts w T b key):Calls Tryz.prog 244 #[.agg #[c0,c1,c2,c3,c4,c5],b] w λ e w'=>e=.returned (.int .i64 (childOf kids ls key))/\Keeps Nob w w':=by
 obtain ⟨A,c,rfl,hn1,hm1⟩:=h1.form
 obtain ⟨B,d,rfl,hn3,hm3⟩:=h3.form
 have hz1:ls.length<=9223372036854775807:=Nat.le_trans hn1 hm1
 have hz3:kids.length<=9223372036854775807:=Nat.le_trans hn3 hm3
 have H1:=Hd h1
 have H2:=Hd h2
 have H3:=Hd h3
 clear h1 h2 h3 hn1 hm1 hn3 hm3
 go_enter Tryz.func244,Tryz.ntmps244
 go_wp2
 go_loopw [5,12] (λ b i wr=>∃ k:Nat,k<=ls.length/\i=.int .i64 k/\b=.int .i64 (upto (ls.take k) key)/\Blk wr w.heap.size 95 #[c0,c1,c2,.slice A ls.length c,c4,.slice B kids.length d]/\Keeps Nob w wr) (λ _ i _=>ls.length-(intOf i).toNat)
 case atStart=>exact ⟨0,Nat.zero_le _,rfl,rfl,Blk.new _ _ _,Keeps.alloc _ _ _⟩
 case round=>
  obtain ⟨k,hk,rfl,rfl,hB,hK⟩:=hrel
  have HK:=Hd hK
  have HBK:=Hd hB
  have q:=hB.cell 5
  clear hK hB
  have hbl:=upto_take ls key k
  by_cases hlt:k < ls.length
  ·obtain ⟨x,hx⟩:∃ x,ls[k]?=some x:=⟨_,List.getElem?_eq_getElem hlt⟩
   obtain ⟨ad,rfl,_,hc⟩:=H1.out.cells hlt
   obtain ⟨u,hu,hbu⟩:=hc k x hx
   have hu':wr.cell? (ad.add k)=some u:=HK.out.cell hu id
   have HX:=Hd hx
   have HB:=Hd (upto_succ (k:=key) hx)
   have HC:=Hd (cmpP (hbu.keeps HK.out (λ _ _ _=>id)) (H2.out.keeps HK.out (λ _ _ _=>id)))
   clear hc hu hbu hx
   generalize upto (ls.take k) key=bl at hbl HB ⊢
   rcases cmp_cases x key with hcm|hcm|hcm
   all_goals
    have HCM:=Hd hcm
    clear hcm
    go_wp2_with (go_at_call 88;refine HC.out.mono ?_;rintro e w1 ⟨rfl,rfl⟩;rw [HCM.out])
    go_roundw
    case rel=>
     refine ⟨k+1,by omega,by go_num,?_,HBK.out,HK.out⟩
     rw [HB.out,HCM.out];simp
    case measure=>simp [intOf];omega
  ·have hkk:k=ls.length:=by omega
   subst hkk
   rw [List.take_of_length_le (Nat.le_refl _)] at hbl ⊢
   generalize hup:upto ls key=m at hbl ⊢
   have HUP:=Hd hup
   clear hup
   by_cases hz:kids.length=0
   ·have hz':kids=[]:=List.eq_nil_of_length_eq_zero hz
    subst hz'
    go_wp2
    go_ret
    refine ⟨?_,HK.out⟩
    unfold childOf;simp
   ·obtain ⟨bd,rfl,_,hc⟩:=H3.out.cells (i:=0) (by omega)
    have hil:min m (kids.length-1) < kids.length:=by omega
    have hcc:wr.cell? (bd.add (min m (kids.length-1)))=some (.int .i64 (childOf kids ls key)):=by
     refine HK.out.cell ?_ id
     rw [hc _ _ (List.getElem?_eq_getElem hil)]
     unfold childOf
     rw [HUP.out,List.getD_eq_getElem?_getD,List.getElem?_eq_getElem hil]
     rfl
    clear hc
    generalize hr:childOf kids ls key=r at hcc
    have HR:=Hd hr
    clear hr
    by_cases hle:(kids.length:Int)-1 < (m:Int)
    ·rw [show min m (kids.length-1)=kids.length-1 by omega] at hcc hil
     have t1:¬(m:Int)<=(kids.length:Int)-1:=by omega
     have t2:¬(m:Int) < (kids.length:Int)-1:=by omega
     go_wp2
     go_ret
     exact ⟨by rw [HR.out];rfl,HK.out⟩
    ·rw [show min m (kids.length-1)=m by omega] at hcc hil
     have t1:(m:Int)<=(kids.length:Int)-1:=by omega
     go_wp2
     go_ret
     exact ⟨by rw [HR.out];rfl,HK.out⟩
end
end Go.Proofs.YtjcgphhpaenjkaaGreat
namespace Go.Proofs.YtjcgphhpaenjkaaGreat
open Go.RowKit
theorem run_str {w:World} {S:Nat->Prop} {v:Value} {l:List UInt8} (h:Byts w S v l):(convert 29 9 v).run Tryz.prog w=.ok (.string ⟨l.toArray⟩) w:=by
 obtain ⟨A,c,rfl,_,_⟩:=h.form
 rcases hA:A with _|ad
 ·subst hA
  have hn:l=[]:=by
   rcases hl:l with _|⟨x,l'⟩
   ·rfl
   ·obtain ⟨ad,e,_⟩:=h.cells (i:=0) (by rw [hl];simp)
    cases e
  subst hn
  exact run_convert_bytes_nil w 29 5 Tryz.underlying29 Tryz.underlying5 _ _ 9 Tryz.underlying9
 ·subst hA
  refine run_convert_bytes_back w 29 9 5 ad c l Tryz.underlying29 Tryz.underlying5 Tryz.underlying9 (λ j hj=>?_)
  obtain ⟨ad',e,_,hc⟩:=h.cells hj
  cases e
  exact hc j _ (List.getElem?_eq_getElem hj)
theorem strN {w:World} {S:Nat->Prop} {v:Value} {l:List UInt8} (h:Byts w S v l):∃ s:ByteArray,s.toList=l/\∀ n,(convert 29 9 v).run Tryz.prog (w.drewN n)=.ok (.string s) (w.drewN n):=
 ⟨_,ByteArray.toList_mk l,λ n=>run_str (h.keeps (Keeps.drewN Nob w n) (λ _ _ _=>id))⟩
section
variable {S T:Nat->Prop} {w:World} {a b:Value} {la lb:List (List UInt8)}
end
section
variable {S T:Nat->Prop} {w:World} {a0 a1 a2 a3 a4 a5 b0 b1 b2 b3 b4 b5:Value} {n m:Nd}
end
end Go.Proofs.YtjcgphhpaenjkaaGreat
namespace Go.Proofs.YtjcgphhpaenjkaaGreat
open Go.RowKit
section
variable {S:Nat->Prop} {w:World} {c1 c3 c4 c5:Value} {n:Nd} {NH NC:Nat}
variable {wr:World} {g i:Nat} {cs:Array Value}
end
section
variable {w:World} {G:Nat->Prop} {b p q:Nat} {A B:Ar} {ix:Int}
end
section
variable {w:World} {G:Nat->Prop} {b p q:Nat} {A B:Ar} {ix:Int}
end
structure OpM where
 kd:Int
 a:Int
 b:Int
 w:Nat
 ch:Bool
 nd:Nd
def opId (A:Ar) (c:Int):Int:=pk c ((A.sl.length:Int)+2)
def step (A:Ar) (o:OpM):Ar:=
 if pk o.kd 9=0 then (opAlloc A).2.2
 else if pk o.kd 9=1 then A
 else if pk o.kd 9=2 then (opLock A (opId A o.a) ((opWord A (opId A o.a)+(pk o.b 3).toNat) % 18446744073709551616)).2.2
 else if pk o.kd 9=3 then (opUnlock A (opId A o.a) o.ch).2
 else if pk o.kd 9=4 then (opSetHead A (opId A o.a) o.nd).2
 else if pk o.kd 9=5 then (opSetBody A (opId A o.a) o.nd).2
 else if pk o.kd 9=6 then (opGrow A (opId A o.a) (opId A o.b)).2.2
 else if pk o.kd 9=7 then opLay A (1+pk o.a ((A.sl.length:Int)+1)) o.nd
 else (opLock A (opId A o.a) o.w).2.2
section
variable {w:World} {G:Nat->Prop} {b p q:Nat} {A B:Ar} {ix:Int}
end
section
variable {w:World} {G:Nat->Prop} {b p q:Nat} {A B:Ar} {ix:Int}
end
section
variable {w:World} {G:Nat->Prop} {b p q:Nat} {A B:Ar} {ix:Int}
end
end Go.Proofs.YtjcgphhpaenjkaaGreat
namespace Go.Proofs.YtjcgphhpaenjkaaGreat
open Go.RowKit
section
variable {w:World} {G:Nat->Prop} {b p q:Nat} {A B:Ar} {ix:Int}
end
end Go.Proofs.YtjcgphhpaenjkaaGreat
namespace Go.Proofs.YtjcgphhpaenjkaaGreat
open Go.RowKit
theorem add_far (a:Addr) (i j:Nat) (hj:j≠0):a.add (i+j)=⟨(a.add i).block,(a.add i).off+j,none⟩:=by
 rw [<-add_add_]
 generalize a.add i=b
 unfold Addr.add
 rw [if_neg hj]
section
variable {w w':World} {lo:Nat} {v:Value} {os:List OpM} {G:Nat->Prop}
end
end Go.Proofs.YtjcgphhpaenjkaaGreat
namespace Go.Proofs.YtjcgphhpaenjkaaGreat
open Go.RowKit
def RowAt {α:Type} (k m:Nat) (R:World->Nat->Array Value->α->Prop) (w:World) (lo:Nat) (v:Value) (os:List α):Prop:=
 ∃ A c,v=.slice A os.length c/\os.length<=c/\c<=maxLen/\os.length*m<=140737488355328/\(os≠[]->∃ ad,A=some ad/\ad.block < lo/\∀ (i:Nat) o,os[i]?=some o->∃ cs:Array Value,R w lo cs o/\∀ (j:Nat) x,cs[j]?=some x->w.cell? (ad.add (i*k+j))=some x)
def sub_ (a:Addr):Nat->Addr
 | 0=>a
 | j+1=>⟨a.block,a.off+(j+1),none⟩
section
variable {α:Type} {k m:Nat} {R:World->Nat->Array Value->α->Prop} {w w':World} {lo:Nat} {v:Value} {os:List α} {G:Nat->Prop}
theorem RowAt.at_ {A:Option Addr} {n c i:Nat} {o:α} (h:RowAt k m R w lo (.slice A n c) os) (hi:os[i]?=some o):∃ ad cs,A=some ad/\ad.block < lo/\R w lo cs o/\∀ (j:Nat) x,cs[j]?=some x->w.cell? (sub_ (ad.add (i*k)) j)=some x:=by
 obtain ⟨A',c',e,_,_,_,h⟩:=h
 injection e with e1 _ _
 subst e1
 obtain ⟨ad,ea,hlo,hc⟩:=h (by intro e;subst e;simp at hi)
 obtain ⟨cs,ho,hcs⟩:=hc i o hi
 refine ⟨ad,cs,ea,hlo,ho,λ j x hx=>?_⟩
 have:=hcs j x hx
 cases j with
 | zero=>exact this
 | succ j=>rw [add_far _ _ _ (by omega)] at this;exact this
end
end Go.Proofs.YtjcgphhpaenjkaaGreat
namespace Go.Proofs.YtjcgphhpaenjkaaGreat
open Go.ChangeShapes Go.WideShapes Go.ChangeAt Go.RowKit
section
variable {H:Type} {enc:TypeId × Value->H} {w:World} {base:Nat} {spare:Nat->Bool} {held:Bool} {fuel:Nat} {cs:List Value} {x:DataW H × List MemPlace}
theorem i64_of {n:Int} (h:I64_ n):I64 n:=bounds_i64 h
theorem list_of_ {α:Type} {P:Nat->α->Prop}:∀ (n:Nat),(∀ i,i < n->∃ x,P i x)->∃ ls:List α,ls.length=n/\∀ (i:Nat) x,ls[i]?=some x->P i x
 | 0,_=>⟨[],rfl,λ i x h=>by simp at h⟩
 | n+1,h=>by
  obtain ⟨ls,h2,h3⟩:=list_of_ n (λ i hi=>h i (by omega))
  obtain ⟨x,hp⟩:=h n (by omega)
  refine ⟨ls++[x],by simp [h2],λ i y hy=>?_⟩
  by_cases hi:i < n
  ·rw [List.getElem?_append_left (by omega)] at hy
   exact h3 i y hy
  ·rw [List.getElem?_append_right (by omega)] at hy
   have e:i=n:=by
    rcases hh:i-ls.length with _|k
    ·omega
    ·rw [hh] at hy;simp at hy
   subst e
   rw [h2,Nat.sub_self] at hy
   cases hy
   exact hp
theorem open_row {α:Type} {R:World->Nat->Array Value->α->Prop} {v:Value} {s e:TypeId} {k m:Nat} (hu:Tryz.prog.underlying s=some (.slice e)) (hk:Tryz.prog.cellsOf e=k) (hm:Tryz.prog.bytesOf e=m) (hpos:0 < k) (hmp:0 < m)
  (hR:∀ (cs:List Value) (x:DataW H × List MemPlace) fuel,DataW.trod enc Tryz.prog w base spare held fuel e cs=some x->Sz e x.1->∃ o,R w w.heap.size cs.toArray o/\cs.length=k)
  (h:DataW.trod enc Tryz.prog w base spare held fuel s [v]=some x) (hsz:Sz s x.1):∃ os,RowAt k m R w w.heap.size v os:=by
 rcases DataW.trod_slice hu h with ⟨e,_⟩|⟨a,len,cap,elems,rest,n,_,e,hx,hb,hlc,hcm,hel,hcells,_,_⟩
 ·injection e with e _
  subst e
  exact ⟨[],none,0,rfl,Nat.le_refl _,by decide,by simp,λ h=>absurd rfl h⟩
 ·injection e with e _
  subst e
  rw [hx] at hsz
  obtain ⟨g1,g2⟩:=sz_slice hsz hu
  rw [hm,reach_eq,List.length_map,hel] at g1
  obtain ⟨os,h2,h3⟩:=list_of_ (P:=λ i o=>∃ cs:Array Value,R w w.heap.size cs o/\cs.size=k/\∀ (j:Nat) x,cs[j]?=some x->w.cell? (a.add (i*k+j))=some x) len (λ i hi=>by
   have:=hcells i hi
   rw [hk,List.getElem?_eq_getElem (by omega)] at this
   obtain ⟨us,hus,hd⟩:=Option.bind_eq_some_iff.1 this
   obtain ⟨_,hul,hue⟩:=World.cells?_some hus
   obtain ⟨o,ho,hlen⟩:=hR _ _ _ hd (g2 _ (List.mem_map.2 ⟨_,List.getElem_mem _,rfl⟩))
   refine ⟨o,_,ho,by simpa using hlen,λ j y hy=>?_⟩
   have hj:j < k:=by
    have:=(Array.getElem?_eq_some_iff.1 hy).1
    simp only [List.size_toArray] at this
    omega
   have:=hue j hj
   rw [add_add_] at this
   rw [this]
   simpa using hy)
  refine ⟨os,some a,cap,by rw [h2],by omega,hcm,by rw [h2];omega,λ hne=>⟨a,rfl,?_,λ i o ho=>?_⟩⟩
  ·obtain ⟨o,ho⟩:∃ o,os[0]?=some o:=by cases os with|nil=>exact absurd rfl hne|cons o l=>exact ⟨o,rfl⟩
   obtain ⟨cs,_,hsz2,hc⟩:=h3 0 o ho
   have:=World.block_lt_of_cell? _ _ (hc 0 _ (Array.getElem?_eq_getElem (by omega)))
   rwa [blk_add] at this
  ·obtain ⟨cs,h4,_,h5⟩:=h3 i o ho
   exact ⟨cs,h4,h5⟩
end
end Go.Proofs.YtjcgphhpaenjkaaGreat
namespace Go.Proofs.YtjcgphhpaenjkaaGreat
open Go.RowKit
def BG:Nat:=59000000000000
end Go.Proofs.YtjcgphhpaenjkaaGreat

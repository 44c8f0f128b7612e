import Derived.Test.YtjcgphhpaenjkaaPkA0
import Derived.Laws.LoneSync
import Derived.Deep.QuietTactic
import Derived.BigQuiet
set_option maxHeartbeats 64000000
set_option maxRecDepth 100000
set_option linter.unusedVariables false
namespace Go.Proofs.Ytjcgphhpaenjkaa
open Go.RowKit
section
variable {a:Addr} {x y:Int} {w:World}
theorem ext_loadU (hc:w.cell? a=some (.int .u64 x)):(callFunc 52 #[.pointer (some a)]).run Try.prog w=.ok (.value (.int .u64 x)) w:=
 run_call_load (fn:=Try.f52) (by kernel_rfl) (by kernel_rfl) (by kernel_rfl) (by kernel_rfl) .u64 (by kernel_rfl) hc
theorem ext_loadI (hc:w.cell? a=some (.int .i64 x)):(callFunc 68 #[.pointer (some a)]).run Try.prog w=.ok (.value (.int .i64 x)) w:=
 run_call_load (fn:=Try.f68) (by kernel_rfl) (by kernel_rfl) (by kernel_rfl) (by kernel_rfl) .i64 (by kernel_rfl) hc
theorem ext_storeU {u:Value} (hc:w.cell? a=some u) (hz:w.frozen? a=false):(callFunc 81 #[.pointer (some a),.int .u64 y]).run Try.prog w=.ok (.value (.tuple #[])) (w.setCell a (.int .u64 y)):=
 run_call_store (fn:=Try.f81) (by kernel_rfl) (by kernel_rfl) (by kernel_rfl) (by kernel_rfl) (by kernel_rfl) hc hz
theorem ext_storeI {u:Value} (hc:w.cell? a=some u) (hz:w.frozen? a=false):(callFunc 36 #[.pointer (some a),.int .i64 y]).run Try.prog w=.ok (.value (.tuple #[])) (w.setCell a (.int .i64 y)):=
 run_call_store (fn:=Try.f36) (by kernel_rfl) (by kernel_rfl) (by kernel_rfl) (by kernel_rfl) (by kernel_rfl) hc hz
theorem loadU (hc:w.cell? a=some (.int .u64 x)):Calls Try.prog 31 #[.pointer (some a)] w λ e w'=>e=.returned (.int .u64 x)/\w=w':=by
 have h:=ext_loadU hc
 clear hc
 go_enter Try.func31,Try.ntmps31
 go_wp2
 go_ret
 exact ⟨rfl,rfl⟩
theorem loadI (hc:w.cell? a=some (.int .i64 x)):Calls Try.prog 49 #[.pointer (some a)] w λ e w'=>e=.returned (.int .i64 x)/\w=w':=by
 have h:=ext_loadI hc
 clear hc
 go_enter Try.func49,Try.ntmps49
 go_wp2
 go_ret
 exact ⟨rfl,rfl⟩
theorem storeU {u:Value} (hc:w.cell? a=some u) (hz:w.frozen? a=false):Calls Try.prog 67 #[.pointer (some a),.int .u64 y] w λ e w'=>e=.returned (.tuple #[])/\w.setCell a (.int .u64 y)=w':=by
 have h:=ext_storeU (y:=y) hc hz
 clear hc hz
 go_enter Try.func67,Try.ntmps67
 go_wp2
 go_end0
 exact ⟨rfl,rfl⟩
theorem storeI {u:Value} (hc:w.cell? a=some u) (hz:w.frozen? a=false):Calls Try.prog 17 #[.pointer (some a),.int .i64 y] w λ e w'=>e=.returned (.tuple #[])/\w.setCell a (.int .i64 y)=w':=by
 have h:=ext_storeI (y:=y) hc hz
 clear hc hz
 go_enter Try.func17,Try.ntmps17
 go_wp2
 go_end0
 exact ⟨rfl,rfl⟩
end
end Go.Proofs.Ytjcgphhpaenjkaa
namespace Go.Proofs.Ytjcgphhpaenjkaa
open Go.RowKit
section
variable {a:Addr} {x y o:Int} {w:World}
theorem ext_casU1 (hc:w.cell? a=some (.int .u64 x)) (hz:w.frozen? a=false):(callFunc 74 #[.pointer (some a),.int .u64 x,.int .u64 y]).run Try.prog w=.ok (.value (.bool true)) (w.setCell a (.int .u64 y)):=
 run_call_cas_hit (fn:=Try.f74) (by kernel_rfl) (by kernel_rfl) (by kernel_rfl) (by kernel_rfl) .u64 (by kernel_rfl) hc hz
theorem ext_casU0 (hc:w.cell? a=some (.int .u64 x)) (hz:w.frozen? a=false) (hne:¬x=o):(callFunc 74 #[.pointer (some a),.int .u64 o,.int .u64 y]).run Try.prog w=.ok (.value (.bool false)) w:=
 run_call_cas_miss (fn:=Try.f74) (by kernel_rfl) (by kernel_rfl) (by kernel_rfl) (by kernel_rfl) .u64 (by kernel_rfl) hc hz hne
theorem ext_casI1 (hc:w.cell? a=some (.int .i64 x)) (hz:w.frozen? a=false):(callFunc 82 #[.pointer (some a),.int .i64 x,.int .i64 y]).run Try.prog w=.ok (.value (.bool true)) (w.setCell a (.int .i64 y)):=
 run_call_cas_hit (fn:=Try.f82) (by kernel_rfl) (by kernel_rfl) (by kernel_rfl) (by kernel_rfl) .i64 (by kernel_rfl) hc hz
theorem ext_casI0 (hc:w.cell? a=some (.int .i64 x)) (hz:w.frozen? a=false) (hne:¬x=o):(callFunc 82 #[.pointer (some a),.int .i64 o,.int .i64 y]).run Try.prog w=.ok (.value (.bool false)) w:=
 run_call_cas_miss (fn:=Try.f82) (by kernel_rfl) (by kernel_rfl) (by kernel_rfl) (by kernel_rfl) .i64 (by kernel_rfl) hc hz hne
theorem ext_addU (hc:w.cell? a=some (.int .u64 x)) (hz:w.frozen? a=false):(callFunc 80 #[.pointer (some a),.int .u64 y]).run Try.prog w=.ok (.value (.int .u64 ((x+y) % 18446744073709551616))) (w.setCell a (.int .u64 ((x+y) % 18446744073709551616))):=
 run_call_add (fn:=Try.f80) (by kernel_rfl) (by kernel_rfl) (by kernel_rfl) (by kernel_rfl) .u64 (by kernel_rfl) hc hz (by simp [go_sem,IntKind.wrap_u64])
theorem casU1 (hc:w.cell? a=some (.int .u64 x)) (hz:w.frozen? a=false):Calls Try.prog 62 #[.pointer (some a),.int .u64 x,.int .u64 y] w λ e w'=>e=.returned (.bool true)/\w.setCell a (.int .u64 y)=w':=by
 have h:=ext_casU1 (y:=y) hc hz
 clear hc hz
 go_enter Try.func62,Try.ntmps62
 go_wp2
 go_ret
 exact ⟨rfl,rfl⟩
theorem casU0 (hc:w.cell? a=some (.int .u64 x)) (hz:w.frozen? a=false) (hne:¬x=o):Calls Try.prog 62 #[.pointer (some a),.int .u64 o,.int .u64 y] w λ e w'=>e=.returned (.bool false)/\w=w':=by
 have h:=ext_casU0 (y:=y) hc hz hne
 clear hc hz hne
 go_enter Try.func62,Try.ntmps62
 go_wp2
 go_ret
 exact ⟨rfl,rfl⟩
theorem casI1 (hc:w.cell? a=some (.int .i64 x)) (hz:w.frozen? a=false):Calls Try.prog 69 #[.pointer (some a),.int .i64 x,.int .i64 y] w λ e w'=>e=.returned (.bool true)/\w.setCell a (.int .i64 y)=w':=by
 have h:=ext_casI1 (y:=y) hc hz
 clear hc hz
 go_enter Try.func69,Try.ntmps69
 go_wp2
 go_ret
 exact ⟨rfl,rfl⟩
theorem casI0 (hc:w.cell? a=some (.int .i64 x)) (hz:w.frozen? a=false) (hne:¬x=o):Calls Try.prog 69 #[.pointer (some a),.int .i64 o,.int .i64 y] w λ e w'=>e=.returned (.bool false)/\w=w':=by
 have h:=ext_casI0 (y:=y) hc hz hne
 clear hc hz hne
 go_enter Try.func69,Try.ntmps69
 go_wp2
 go_ret
 exact ⟨rfl,rfl⟩
theorem addU (hc:w.cell? a=some (.int .u64 x)) (hz:w.frozen? a=false):Calls Try.prog 66 #[.pointer (some a),.int .u64 y] w λ e w'=>(∃ v,e=.returned v)/\w.setCell a (.int .u64 ((x+y) % 18446744073709551616))=w':=by
 have h:=ext_addU (y:=y) hc hz
 clear hc hz
 go_enter Try.func66,Try.ntmps66
 go_wp2
 go_ret
 exact ⟨⟨_,rfl⟩,rfl⟩
end
end Go.Proofs.Ytjcgphhpaenjkaa
namespace Go.Proofs.Ytjcgphhpaenjkaa
open Go.RowKit
section
variable {M D:Nat->Prop} {w:World} {p:Nat} {slots:Value} {ids:List Nat} {A:Ar}
theorem used_ (h:ArW w M D p slots ids A):Calls Try.prog 13 #[pV p] w λ e w'=>e=.returned (iV A.sl.length)/\w=w':=by
 have hl:=h.len
 obtain ⟨_,a,c,rfl,_,_,_⟩:=h.row
 have c1:w.cell? ⟨p,1,none⟩=some (.slice a ids.length c):=h.blk.cell 1
 clear h
 rw [<-hl];clear hl
 unfold pV iV
 go_enter Try.func13,Try.ntmps13
 go_wp2
 go_ret
 exact ⟨rfl,rfl⟩
theorem at_in {id:Int} {i:Nat} {b:Nat} (h:ArW w M D p slots ids A) (hid:id=(i:Int)+1) (hb:ids[i]?=some b):Calls Try.prog 33 #[pV p,iV id] w λ e w'=>e=.returned (pV b)/\w=w':=by
 have hlt:i < ids.length:=(List.getElem?_eq_some_iff.1 hb).1
 obtain ⟨g,o,c,rfl,hm,hc⟩:=h.form (by omega)
 have cb:=hc i b hb
 have c1:w.cell? ⟨p,1,none⟩=some (.slice (some ⟨g,o,none⟩) ids.length c):=h.blk.cell 1
 have hl:=h.len
 have hbd:=h.bound
 have hsmall:ids.length<=65536:=by omega
 clear hc h hb hl hbd
 have h1:1<=id:=by omega
 have h2:id<=ids.length:=by omega
 have h3:(id-1).toNat=i:=by omega
 have h3':id.toNat-1=i:=by omega
 have H:=Hd hid;clear hid
 unfold pV iV at *
 go_enter Try.func33,Try.ntmps33
 go_wp2
 go_ret
 exact ⟨rfl,rfl⟩
theorem at_out {id:Int} (h:ArW w M D p slots ids A) (hid:id < 1\/(A.sl.length:Int) < id):Calls Try.prog 33 #[pV p,iV id] w λ e w'=>e=.returned (.pointer none)/\w=w':=by
 rw [<-h.len] at hid
 obtain ⟨_,a,c,rfl,_,_,_⟩:=h.row
 have c1:w.cell? ⟨p,1,none⟩=some (.slice a ids.length c):=h.blk.cell 1
 clear h
 unfold pV iV at *
 by_cases h1:id < 1
 ·clear hid
  go_enter Try.func33,Try.ntmps33
  go_wp2
  go_ret
  exact ⟨rfl,rfl⟩
 ·have h2:(ids.length:Int) < id:=by omega
  have h3:1<=id:=by omega
  clear hid h1
  go_enter Try.func33,Try.ntmps33
  go_wp2
  go_ret
  exact ⟨rfl,rfl⟩
theorem ArW.slotCell {i:Nat} {b:Nat} {s:Sl} (h:ArW w M D p slots ids A) (hb:ids[i]?=some b) (hs:A.sl[i]?=some s):w.cell? ⟨b,0,none⟩=some (.int .u64 s.word):=by
 obtain ⟨_,_,_,_,_,_,hblk,_⟩:=h.slot i b s hb hs
 exact hblk.cell 0
theorem word_in {id:Int} {i:Nat} {b:Nat} {s:Sl} (h:ArW w M D p slots ids A) (hid:id=(i:Int)+1) (hb:ids[i]?=some b) (hs:A.sl[i]?=some s) :
  Calls Try.prog 89 #[pV p,iV id] w λ e w'=>e=.returned (.tuple #[.int .u64 s.word,iV 0])/\w=w':=by
 have ca:=h.slotCell hb hs
 have H:=Hd (at_in h hid hb)
 clear h hid hb hs
 unfold pV iV at *
 go_enter Try.func89,Try.ntmps89
 go_wp2_with (first|(go_at_call 33;refine H.out.mono ?_;rintro e w' ⟨rfl,rfl⟩)|(go_at_call 31;refine (loadU ca).mono ?_;rintro e w' ⟨rfl,rfl⟩))
 go_ret2
 exact ⟨rfl,rfl⟩
theorem word_out {id:Int} (h:ArW w M D p slots ids A) (hid:id < 1\/(A.sl.length:Int) < id) :
  Calls Try.prog 89 #[pV p,iV id] w λ e w'=>e=.returned (.tuple #[.int .u64 0,iV 101])/\w=w':=by
 have H:=Hd (at_out h hid)
 clear h hid
 unfold pV iV at *
 go_enter Try.func89,Try.ntmps89
 go_wp2_with (go_at_call 33;refine H.out.mono ?_;rintro e w' ⟨rfl,rfl⟩)
 go_ret2
 exact ⟨rfl,rfl⟩
theorem root_ (h:ArW w M D p slots ids A):Calls Try.prog 27 #[pV p] w λ e w'=>e=.returned (iV A.root)/\w=w':=by
 have c2:w.cell? ⟨p,2,none⟩=some (.int .i64 A.root):=h.blk.cell 2
 clear h
 unfold pV iV at *
 go_enter Try.func27,Try.ntmps27
 go_wp2_with (go_at_call 49;refine (loadI c2).mono ?_;rintro e w' ⟨rfl,rfl⟩)
 go_ret
 exact ⟨rfl,rfl⟩
theorem new_world (w:World) (n:Nat) (h1:1<=n) (h2:n<=65536) (w':World)
  (hw:w'=((w.alloc (.cells #[.int .u64 0,.int .i64 0,.slice none 0 0,.int .i64 0,.slice none 0 0,.slice none 0 0,.slice none 0 0] 64)).alloc (.cells #[.pointer (some ⟨w.heap.size,0,none⟩)] 54)).alloc
   (.cells #[.int .i64 n,.slice (some ⟨w.heap.size+1,0,none⟩) 1 1,.int .i64 1] 69)) :
  ArX w' (λ b=>w.heap.size<=b/\b < w'.heap.size) Nob (w.heap.size+2) ⟨n,[⟨0,Nd.zero⟩],1⟩/\Keeps Nob w w':=by
 have b0:Blk w' w.heap.size 64 #[.int .u64 0,.int .i64 0,.slice none 0 0,.int .i64 0,.slice none 0 0,.slice none 0 0,.slice none 0 0]:=by
  rw [hw];exact ((Blk.new w _ _).alloc _).alloc _
 have b1:Blk w' (w.heap.size+1) 54 #[.pointer (some ⟨w.heap.size,0,none⟩)]:=by
  rw [hw];have:=(Blk.new (w.alloc (.cells #[.int .u64 0,.int .i64 0,.slice none 0 0,.int .i64 0,.slice none 0 0,.slice none 0 0,.slice none 0 0] 64)) 54 #[.pointer (some ⟨w.heap.size,0,none⟩)])
  rw [World.size_alloc] at this
  exact this.alloc _
 have b2:Blk w' (w.heap.size+2) 69 #[.int .i64 n,.slice (some ⟨w.heap.size+1,0,none⟩) 1 1,.int .i64 1]:=by
  rw [hw];have:=(Blk.new ((w.alloc (.cells #[.int .u64 0,.int .i64 0,.slice none 0 0,.int .i64 0,.slice none 0 0,.slice none 0 0,.slice none 0 0] 64)).alloc (.cells #[.pointer (some ⟨w.heap.size,0,none⟩)] 54)) 69 #[.int .i64 n,.slice (some ⟨w.heap.size+1,0,none⟩) 1 1,.int .i64 1])
  simpa using this
 have hk:Keeps Nob w w':=by rw [hw];exact ((Keeps.alloc _ w _).alloc' _).alloc' _
 refine ⟨⟨_,[w.heap.size],⟨b2,⟨rfl,_,_,rfl,Nat.le_refl _,by decide,.inr ⟨_,0,_,rfl,⟨by omega,b1.lt⟩,b1,by simp,λ i x hx=>?_⟩⟩,by simp,rfl,λ i id s hi hs=>?_,⟨by omega,b2.lt⟩,λ id hid=>?_,λ b _=>id,λ b hb=>hb.2,λ b hb=>hb.elim,by simp;omega⟩⟩,hk⟩
 ·rw [Nat.zero_add];simpa [pV] using hx
 ·cases i with
  | zero=>
   simp at hi hs;subst hi hs
   exact ⟨_,_,_,_,_,_,b0,IsNd.zero _ _,by unfold U64;decide⟩
  | succ i=>simp at hi
 ·simp at hid;subst hid;exact ⟨Nat.le_refl _,b0.lt⟩
theorem new_ok {n:Nat} (w:World) (h1:1<=n) (h2:n<=65536):Calls Try.prog 7 #[iV n] w λ e w'=>e=.returned (.tuple #[pV (w.heap.size+2),iV 0])/\
  ArX w' (λ b=>w.heap.size<=b/\b < w'.heap.size) Nob (w.heap.size+2) ⟨n,[⟨0,Nd.zero⟩],1⟩/\Keeps Nob w w':=by
 have hq:=λ w'=>new_world w n h1 h2 w'
 have HQ:=Hd hq
 clear hq
 have h1':(1:Int)<=n:=by omega
 have h2':(n:Int)<=65536:=by omega
 clear h1 h2
 unfold iV pV at *
 go_enter Try.func7,Try.ntmps7
 go_wp2_with (go_at_call 17;refine (storeI (u:=.int .i64 0) (by rw [World.cell?_alloc_at _ _ _ _ (by simp)];rfl) (by rw [World.frozen?_alloc_at _ _ _ _ (by simp)])).mono ?_;rintro e w' ⟨rfl,rfl⟩)
 go_ret2
 exact ⟨rfl,HQ.out _ rfl⟩
theorem alloc_full (h:ArW w M D p slots ids A) (hf:A.sl.length=A.nodes):Calls Try.prog 47 #[pV p] w λ e w'=>e=.returned (.tuple #[iV 0,iV 2])/\∃ n,w.drewN n=w':=by
 have hl:=h.len
 obtain ⟨_,a,c,rfl,_,_,_⟩:=h.row
 have c0:w.cell? ⟨p,0,none⟩=some (iV ids.length):=by rw [hl,hf];exact h.blk.cell 0
 have c1:w.cell? ⟨p,1,none⟩=some (.slice a ids.length c):=h.blk.cell 1
 clear h hl hf
 unfold pV iV at *
 go_enter Try.func47,Try.ntmps47
 go_wp2
 go_quiet (fail)
 go_wp2
 go_ret2
 exact ⟨rfl,_,rfl⟩
theorem ArW.rowNe (h:ArW w M D p slots ids A):¬slots.ownBlock=some p:=λ e=>by
 obtain ⟨hl,a,c,rfl,_,_,hr⟩:=h.row
 rcases hr with ⟨rfl,_⟩|⟨g,o,cur,rfl,_,hb,_⟩
 ·simp [Value.ownBlock] at e
 ·simp [Value.ownBlock] at e;subst e;exact Blk.ne_ hb h.blk (by decide) rfl
theorem alloc_world (h:ArW w M D p slots ids A) (hlt:A.sl.length < A.nodes) {w0 w1 w2:World} {v:Value}
  (hw0:w0=(w.alloc (.cells #[.int .u64 1,.int .i64 0,.slice none 0 0,.int .i64 0,.slice none 0 0,.slice none 0 0,.slice none 0 0] 64)).alloc (.cells #[.pointer (some ⟨w.heap.size,0,none⟩)] 54))
  (ho:Own w1 (λ b=>slots.ownBlock=some b\/(w.heap.size+1+1<=b/\b < w1.heap.size)) 54 1 v (ids.length+1) (ids.map pV++[.pointer (some ⟨w.heap.size,0,none⟩)]))
  (hk:Keeps (λ b=>slots.ownBlock=some b) w0 w1) (hw2:w2=w1.setCell ⟨p,1,none⟩ v) :
  ArW w2 (λ b=>M b\/(w.heap.size<=b/\b < w2.heap.size)) D p v (ids++[w.heap.size]) {A with sl:=A.sl++[⟨1,Nd.zero⟩]}/\Keeps M w w2:=by
 have hsz0:w0.heap.size=w.heap.size+2:=by rw [hw0];simp
 have hbM:∀ b,slots.ownBlock=some b->M b:=λ b hb=>(h.row.blk hb).1
 have hk0:Keeps Nob w w0:=by rw [hw0];exact (Keeps.alloc _ w _).alloc' _
 have hk1:Keeps (λ b=>slots.ownBlock=some b) w w1:=(hk0.mono (λ _ _ h=>h.elim)).trans hk (λ _ _ h=>h)
 have hnp:¬slots.ownBlock=some p:=λ e=>by
  obtain ⟨hl,a,c,rfl,_,_,hr⟩:=h.row
  rcases hr with ⟨rfl,_⟩|⟨g,o,cur,rfl,_,hb,_⟩
  ·simp [Value.ownBlock] at e
  ·simp [Value.ownBlock] at e;subst e;exact Blk.ne_ hb h.blk (by decide) rfl
 have hnid:∀ id,id ∈ ids->¬slots.ownBlock=some id:=λ id hid e=>by
  obtain ⟨i,hi⟩:=List.mem_iff_getElem?.1 hid
  obtain ⟨s,hs⟩:∃ s,A.sl[i]?=some s:=⟨_,List.getElem?_eq_getElem (by rw [<-h.len];exact (List.getElem?_eq_some_iff.1 hi).1)⟩
  obtain ⟨_,_,_,_,_,_,hb,_⟩:=h.slot i id s hi hs
  obtain ⟨hl,a,c,rfl,_,_,hr⟩:=h.row
  rcases hr with ⟨rfl,_⟩|⟨g,o,cur,rfl,_,hb',_⟩
  ·simp [Value.ownBlock] at e
  ·simp [Value.ownBlock] at e;subst e;exact Blk.ne_ hb' hb (by decide) rfl
 have hp1:Blk w1 p 69 #[iV A.nodes,slots,iV A.root]:=h.blk.keeps hk1 hnp
 have hsz1:w.heap.size+2<=w1.heap.size:=by have:=hk.size;omega
 have hsz2:w2.heap.size=w1.heap.size:=by rw [hw2];simp
 have hplt:p < w.heap.size:=h.blk.lt
 have hk2:Keeps (λ b=>slots.ownBlock=some b\/b=p) w w2:=by
  rw [hw2];exact (hk1.mono (λ _ _ h=>.inl h)).setCell' (λ _=>.inr rfl) _
 have hk12:Keeps (λ b=>b=p) w1 w2:=by rw [hw2];exact Keeps.setCell w1 (M:=λ b=>b=p) rfl v
 have hne:∀ id,id ∈ ids->id≠p:=λ id hid e=>by
  subst e
  obtain ⟨i,hi⟩:=List.mem_iff_getElem?.1 hid
  obtain ⟨s,hs⟩:∃ s,A.sl[i]?=some s:=⟨_,List.getElem?_eq_getElem (by rw [<-h.len];exact (List.getElem?_eq_some_iff.1 hi).1)⟩
  obtain ⟨_,_,_,_,_,_,hb,_⟩:=h.slot i id s hi hs
  exact Blk.ne_ hb h.blk (by decide) rfl
 have hnew0:Blk w0 w.heap.size 64 #[.int .u64 1,.int .i64 0,.slice none 0 0,.int .i64 0,.slice none 0 0,.slice none 0 0,.slice none 0 0]:=by
  rw [hw0];exact (Blk.new w _ _).alloc _
 have hnew:Blk w2 w.heap.size 64 #[.int .u64 1,.int .i64 0,.slice none 0 0,.int .i64 0,.slice none 0 0,.slice none 0 0,.slice none 0 0]:=
  (hnew0.keeps hk (λ e=>by have:=(h.row.blk e).2;omega)).keeps hk12 (λ e=>by omega)
 refine ⟨⟨?_,?_,?_,?_,?_,.inl h.mp,?_,?_,?_,λ b hb=>Nat.lt_of_lt_of_le (h.dlt b hb) hk2.size,?_⟩,hk2.mono (λ b _ hb=>by
  rcases hb with hb|rfl
  ·exact hbM b hb
  ·exact h.mp)⟩
 ·rw [hw2];exact hp1.set_ 1 v
 ·have:=ho.keeps hk12 (λ b _ hb e=>by
   subst e
   rcases hb with hb|hb
   ·exact hnp hb
   ·omega)
  have:=this.mono (T:=λ b=>M b\/(w.heap.size<=b/\b < w2.heap.size)) (λ b _ hb=>by
   rcases hb with hb|hb
   ·exact .inl (hbM b hb)
   ·exact .inr (by omega))
  simpa [pV] using this
 ·rw [List.nodup_append]
  refine ⟨h.nodup,by simp,λ a ha b hb=>?_⟩
  simp at hb;subst hb
  intro e;subst e
  obtain ⟨i,hi⟩:=List.mem_iff_getElem?.1 ha
  obtain ⟨s,hs⟩:∃ s,A.sl[i]?=some s:=⟨_,List.getElem?_eq_getElem (by rw [<-h.len];exact (List.getElem?_eq_some_iff.1 hi).1)⟩
  obtain ⟨_,_,_,_,_,_,hb,_⟩:=h.slot i _ s hi hs
  have:=hb.lt;omega
 ·simp [h.len]
 ·intro i id s hi hs
  rw [List.getElem?_append] at hi hs
  by_cases hlt:i < ids.length
  ·rw [if_pos hlt] at hi;rw [if_pos (by rw [<-h.len];exact hlt)] at hs
   have hm:id ∈ ids:=List.mem_of_getElem? hi
   refine (h.slot i id s hi hs).keeps hk2 (λ e=>?_) (λ b _ hd e=>?_)
   ·rcases e with e|e
    ·exact hnid id hm e
    ·exact hne id hm e
   ·rcases e with e|e
    ·exact h.apart b (hbM b e) hd
    ·subst e;exact h.apart _ h.mp hd
  ·rw [if_neg hlt] at hi;rw [if_neg (by rw [<-h.len];exact hlt)] at hs
   rw [h.len] at hi
   cases hj:i-A.sl.length with
   | zero=>
    rw [hj] at hi hs;simp at hi hs;subst hi hs
    exact ⟨_,_,_,_,_,_,hnew,IsNd.zero _ _,by unfold U64;decide⟩
   | succ j=>rw [hj] at hi;simp at hi
 ·intro id hid
  rcases List.mem_append.1 hid with hid|hid
  ·exact .inl (h.mids id hid)
  ·simp at hid;subst hid;exact .inr ⟨Nat.le_refl _,hnew.lt⟩
 ·intro b hb hd
  rcases hb with hb|hb
  ·exact h.apart b hb hd
  ·have:=h.dlt b hd;omega
 ·intro b hb
  rcases hb with hb|hb
  ·exact Nat.lt_of_lt_of_le (h.mlt b hb) hk2.size
  ·exact hb.2
 ·have:=h.bound;simp;omega
theorem alloc_room (h:ArW w M D p slots ids A) (hlt:A.sl.length < A.nodes):Calls Try.prog 47 #[pV p] w λ e w'=>e=.returned (.tuple #[iV (A.sl.length+1),iV 0])/\
  ArX w' (λ b=>M b\/(w.heap.size<=b/\b < w'.heap.size)) D p {A with sl:=A.sl++[⟨1,Nd.zero⟩]}/\Keeps M w w':=by
 have hl:=h.len
 have hbd:=h.bound
 have H:=Hd h
 obtain ⟨_,a,c,hsl,_,_,_⟩:=h.row
 subst hsl
 have c0:w.cell? ⟨p,0,none⟩=some (iV A.nodes):=h.blk.cell 0
 have c1:w.cell? ⟨p,1,none⟩=some (.slice a ids.length c):=h.blk.cell 1
 have hne:(ids.length:Int)≠A.nodes:=by omega
 have hne':((ids.length:Int)==A.nodes)=false:=by simpa using hne
 have hsmall:ids.length+1<=65536:=by omega
 have HL:=Hd hl
 have HLT:=Hd hlt
 clear h hl hne hbd
 obtain ⟨i0,hi,hz0,hz1,hz2⟩:=info_parts Try.inf_ptr
 unfold pV iV at *
 go_enter Try.func47,Try.ntmps47
 go_wp2
 go_quiet (fail)
 obtain ⟨wq,hwq⟩:∃ wq,w.drewN nq=wq:=⟨_,rfl⟩
 rw [hwq]
 have hq:=H.out.keeps (hwq▸Keeps.drewN Nob w nq) (λ _ _ _=>id) (λ _ _ _=>id)
 have hkq:Keeps M w wq:=hwq▸Keeps.drewN M w nq
 have hsq:wq.heap.size=w.heap.size:=by rw [<-hwq];rfl
 clear c0 c1 hwq H
 have c1:wq.cell? ⟨p,1,none⟩=some (.slice a ids.length c):=hq.blk.cell 1
 have f1:wq.frozen? ⟨p,1,none⟩=false:=hq.blk.frozen 1
 have HNP:=Hd hq.rowNe
 have hplt:=hq.blk.lt
 have HQ:=Hd hq
 have HKQ:=Hd hkq
 have HSQ:=Hd hsq
 clear hq hkq hsq hlt
 go_wp2_with (first
  | (go_at_call 67;refine (storeU (u:=.int .u64 0) ((Blk.new _ _ _).cell 0) ((Blk.new _ _ _).frozen 0)).mono ?_;rintro e w' ⟨rfl,rfl⟩)
  | (at_builtin;refine wpList_app rfl (.tmp 25) (.tmp 27) 65 rfl Try.underlying65 hi hz0 hz1 hz2 rfl (by decide) (v:=.slice a ids.length c) (n:=ids.length) (m:=1) (S:=M) (T:=λ _=>True) (xs:=ids.map λ b=>.pointer (some ⟨b,0,none⟩)) (news:=[.pointer (some ⟨wq.heap.size,0,none⟩)]) (y:=.slice (some ⟨wq.heap.size+1,0,none⟩) 1 1) rfl ?c1 rfl ?c2 ?c3 ?c4 ?c5 ?c6))
 case c1=>exact HQ.out.row.keeps ((Keeps.alloc Nob _ _).alloc' _) (λ _ _ _=>id)
 case c2=>exact (SlG.lit1 _ _ _ _ (by simp)).mono (λ _ _ _=>trivial)
 case c3=>intro u hu;simp at hu;subst hu;rfl
 case c4=>unfold maxLen;omega
 case c5=>omega
 case c6=>
  intro v' w1 ho hk _
  obtain ⟨A',c',hv⟩:=ho.form
  have hp1:=HQ.out.blk.keeps (((Keeps.alloc Nob _ _).alloc' _ |>.mono (M':=λ b=>(Value.slice a ids.length c).ownBlock=some b) (λ _ _ h=>h.elim)).trans hk (λ _ _ h=>h)) HNP.out
  have HO:=Hd ho
  have HK:=Hd hk
  have cp:=hp1.cell 1
  have fp:=hp1.frozen 1
  clear ho hk hp1
  subst hv
  go_wp2
  go_ret2
  have R:=alloc_world HQ.out HLT.out rfl HO.out HK.out rfl
  rw [HSQ.out] at R
  exact ⟨by rw [HL.out];rfl,⟨_,_,R.1⟩,HKQ.out.trans R.2 (λ _ _ h=>h)⟩
end
end Go.Proofs.Ytjcgphhpaenjkaa
namespace Go.Proofs.Ytjcgphhpaenjkaa
open Go.RowKit
def heldFrom (i:Nat):List Sl->List Int
 | []=>[]
 | s::l=>if s.word % 2=1 then ((i:Int))::heldFrom (i+1) l else heldFrom (i+1) l
theorem heldFrom_len (i:Nat) (l:List Sl):(heldFrom i l).length<=l.length:=by
 induction l generalizing i with
 | nil=>simp [heldFrom]
 | cons s l ih=>have:=ih (i+1);simp only [heldFrom];split<;>simp<;>omega
theorem heldFrom_snoc (i:Nat) (l:List Sl) (s:Sl):heldFrom i (l++[s])=heldFrom i l++if s.word % 2=1 then [((i+l.length:Nat):Int)] else []:=by
 induction l generalizing i with
 | nil=>simp [heldFrom]
 | cons t l ih=>
  simp only [List.cons_append,heldFrom,ih,List.length_cons,show i+1+l.length=i+(l.length+1) by omega]
  split<;>simp
theorem take_snoc' {α:Type} (l:List α) (k:Nat) (x:α) (h:l[k]?=some x):l.take (k+1)=l.take k++[x]:=by
 rw [List.take_add_one,h];rfl
theorem odd_bits (n:Nat) (h:U64 n):bits BinOp.and IntKind.u64 (n:Int) 1=((n % 2:Nat):Int):=by
 unfold U64 at h
 rw [and_one_u64 _ (by omega) (by omega)]
 omega
section
variable {M D:Nat->Prop} {w:World} {p:Nat} {slots:Value} {ids:List Nat} {A:Ar}
theorem held_ (h:ArW w M D p slots ids A):Calls Try.prog 10 #[pV p] w λ e w'=>∃ v,e=.returned v/\
  Own w' (From w.heap.size) 3 1 v (heldFrom 1 A.sl).length ((heldFrom 1 A.sl).map iV)/\Keeps Nob w w':=by
 have hl:=h.len
 have hbd:=h.bound
 have hsmall:ids.length<=65536:=by omega
 have H:=Hd h
 obtain ⟨_,a,c,hsl,_,_,hrow⟩:=h.row
 subst hsl
 have c1:w.cell? ⟨p,1,none⟩=some (.slice a ids.length c):=h.blk.cell 1
 have HL:=Hd hl
 clear h hl hbd hrow
 obtain ⟨i0,hi,hz0,hz1,hz2⟩:=info_parts Try.inf_int
 unfold pV at *
 go_enter Try.func10,Try.ntmps10
 go_wp2
 go_loopw [3,11] (λ l i wr=>∃ k:Nat,k<=ids.length/\i=.int .i64 k/\Own wr (From w.heap.size) 3 1 l (heldFrom 1 (A.sl.take k)).length ((heldFrom 1 (A.sl.take k)).map iV)/\Keeps Nob w wr) (λ _ i _=>ids.length-(intOf i).toNat)
 case atStart=>exact ⟨0,Nat.zero_le _,rfl,Own.nil _ _ _ _,Keeps.refl _ _⟩
 case round=>
  obtain ⟨k,hk,rfl,hown,hkp⟩:=hrel
  obtain ⟨A',c',hv⟩:=hown.form
  subst hv
  have hle:=heldFrom_len 1 (A.sl.take k)
  have hle2:(A.sl.take k).length<=k:=List.length_take_le _ _
  have hsz:=hkp.size
  by_cases hlt:k < ids.length
  ·obtain ⟨b,hb⟩:∃ b,ids[k]?=some b:=⟨_,List.getElem?_eq_getElem hlt⟩
   obtain ⟨s,hs⟩:∃ s,A.sl[k]?=some s:=⟨_,List.getElem?_eq_getElem (by rw [<-HL.out];exact hlt)⟩
   obtain ⟨g,o,c2,hform,_,hcells⟩:=H.out.form (by omega)
   obtain ⟨rfl,rfl⟩:a=some ⟨g,o,none⟩/\c=c2:=by injection hform with h1 _ h3;exact ⟨h1,h3⟩
   have hc1:wr.cell? ⟨g,o+k,none⟩=some (.pointer (some ⟨b,0,none⟩)):=hkp.cell (hcells k b hb) id
   have hc2:wr.cell? ⟨b,0,none⟩=some (.int .u64 s.word):=hkp.cell (H.out.slotCell hb hs) id
   have HT:=Hd (take_snoc' A.sl k s hs)
   have HS:=Hd (heldFrom_snoc 1 (A.sl.take k) s)
   have HO:=Hd hown
   have HK:=Hd hkp
   have HB:=Hd hb
   have HU:Hid (U64 s.word):=(H.out.slot k b s hb hs).choose_spec.choose_spec.choose_spec.choose_spec.choose_spec.choose_spec.2.2
   clear hcells hform hown hkp hb hs
   have hodd:=odd_bits s.word HU.out
   have HODD:=Hd hodd
   clear hodd
   go_wp2_with (first
    | (go_at_call 31;refine (loadU hc2).mono ?_;rintro e w' ⟨rfl,rfl⟩)
    | (at_builtin;refine wpList_app rfl (.tmp 22) (.tmp 25) 39 rfl Try.underlying39 hi hz0 hz1 hz2 rfl (by decide) (v:=.slice A' (heldFrom 1 (List.take k A.sl)).length c') (n:=(heldFrom 1 (List.take k A.sl)).length) (m:=1) (S:=From w.heap.size) (T:=λ _=>True) (xs:=(heldFrom 1 (List.take k A.sl)).map iV) (news:=[.int .i64 ((k:Int)+1)]) rfl ?c1 (y:=.slice (some ⟨wr.heap.size,0,none⟩) 1 1) rfl ?c2 ?c3 ?c4 ?c5 ?c6))
   case c1=>exact HO.out.keeps (Keeps.alloc Nob _ _) (λ _ _ _=>id)
   case c2=>exact (SlG.lit1 _ _ _ _ rfl).mono (λ _ _ _=>trivial)
   case c3=>intro u hu;simp at hu;subst hu;rfl
   case c4=>unfold maxLen;omega
   case c5=>omega
   case c6=>
    intro v' w1 ho hkk _
    have HOO:=Hd ho
    have HKK:=Hd hkk
    clear ho hkk
    go_wp2
    go_roundw
    case rel=>
     have ht:(bits BinOp.and IntKind.u64 (↑s.word) 1==1)=true:=by assumption
     rw [HODD.out] at ht
     have hsw:s.word % 2=1:=by have:=beq_iff_eq.1 ht;omega
     have hlk:(A.sl.take k).length=k:=by rw [List.length_take,<-HL.out];omega
     have heq:heldFrom 1 (A.sl.take (k+1))=heldFrom 1 (A.sl.take k)++[((k:Int)+1)]:=by
      rw [HT.out,HS.out,if_pos hsw,hlk];congr 2;omega
     refine ⟨k+1,by omega,by go_num,?_,?_⟩
     ·rw [heq,List.length_append,List.map_append]
      refine HOO.out.mono (λ b _ hb=>?_)
      rcases hb with hb|hb
      ·exact (HO.out.blk hb).1
      ·have:=HK.out.size;show w.heap.size<=b;have h2:=hb.1;omega
     ·exact (HK.out.alloc' _).trans HKK.out (λ b hb e=>absurd hb (Nat.not_lt.2 (HO.out.blk e).1))
    case measure=>simp [intOf];omega
   all_goals (try (
    go_roundw
    case rel=>
     have ht:(bits BinOp.and IntKind.u64 (↑s.word) 1==1)=false:=by assumption
     rw [HODD.out] at ht
     have hsw:¬s.word % 2=1:=by have:=beq_eq_false_iff_ne.1 ht;omega
     have heq:heldFrom 1 (A.sl.take (k+1))=heldFrom 1 (A.sl.take k):=by
      rw [HT.out,HS.out,if_neg hsw,List.append_nil]
     exact ⟨k+1,by omega,by go_num,by rw [heq];exact HO.out,HK.out⟩
    case measure=>simp [intOf];omega))
  ·have hkk:k=ids.length:=by omega
   have HO:=Hd hown
   have HK:=Hd hkp
   clear hown hkp
   go_wp2
   go_ret
   have heq:A.sl.take k=A.sl:=List.take_of_length_le (by rw [<-HL.out];omega)
   have:=HO.out
   rw [heq] at this
   exact ⟨_,rfl,by rw [heq];exact this,HK.out⟩
end
end Go.Proofs.Ytjcgphhpaenjkaa

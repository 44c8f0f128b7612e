import Derived.Test.YtjcgphhpaenjkaaProg
import Derived.WalkKit
import Derived.WalkSpells
import Derived.WalkLawsBesides
import Derived.Lib.Hide
import Derived.Deep.AppendSrc
import Derived.Deep.Upon
import Derived.Deep.DeepAppendWide
import Derived.Deep.Draws
set_option linter.unusedVariables false
namespace Go.Proofs.Ytjcgphhpaenjkaa
theorem Try.inf_ptr:(Try.prog.info? 54).map (λ i=>(i.zero,i.size,i.bytes))=some (some (.pointer none),1,8):=by kernel_rfl
theorem Try.inf_int:(Try.prog.info? 3).map (λ i=>(i.zero,i.size,i.bytes))=some (some (.int .i64 0),1,8):=by kernel_rfl
theorem Try.inf_u8:(Try.prog.info? 5).map (λ i=>(i.zero,i.size,i.bytes))=some (some (.int .u8 0),1,1):=by kernel_rfl
theorem Try.inf_text:(Try.prog.info? 34).map (λ i=>(i.zero,i.size,i.bytes))=some (some (.slice none 0 0),1,24):=by kernel_rfl
end Go.Proofs.Ytjcgphhpaenjkaa
namespace Go.Proofs.Ytjcgphhpaenjkaa
section
variable {P:Program} {ops:Array Oper} {Q:Exit->Act->World->Prop} {md:Region.Mode} {k:Nat} {C:World->Prop}
def YieldsC (P:Program) (ops:Array Oper) (C:World->Prop) (o:Oper) (v:Value) (a:Act):Prop:=
 (Region.wanted o (yielded ops a.tmps)=true/\∀ w,C w->(execOp a.eval o).run P w=.ok (.value v) w)\/
 (Region.wanted o (yielded ops a.tmps)=false/\v=undef)
theorem YieldsC.wpOp {i:Nat} {o:Oper} {v:Value} {a:Act} (hi:ops[i]?=some o) (hy:YieldsC P ops C o v a)
  {K:Act->World->Prop} {w:World} (hC:C w) (h:K (a.put o.dst v) w):wpOp P ops Q i K a w:=by
 unfold Go.wpOp
 simp only [hi]
 rcases hy with ⟨hw,hv⟩|⟨hw,rfl⟩
 ·simp only [hw,if_true,Oper.wp,hv w hC,Oper.upon];exact .inl h
 ·simp only [hw,Bool.false_eq_true,if_false];exact h
theorem YieldsC.of_same {o:Oper} {v:Value} {a a':Act} (hy:YieldsC P ops C o v a) (he:execOp a'.eval o=execOp a.eval o)
  (hw:Region.wanted o (yielded ops a'.tmps)=Region.wanted o (yielded ops a.tmps)):YieldsC P ops C o v a':=by
 unfold YieldsC at *
 rw [he,hw]
 exact hy
theorem wpOp_putC {j:Nat} {oi oj:Oper} {v:Value} (hj:ops[j]?=some oj) (hap:oi.apart ops oj=true)
  (hsi:∀ cs b,oi.op≠.select cs b) (hsj:∀ cs b,oj.op≠.select cs b)
  (hQ:∀ c a w,Q (.panic c) (a.put oi.dst v) w->Q (.panic c) a w) {K:Act->World->Prop} {a:Act} {w:World}
  (hy:YieldsC P ops C oi v a) (h:wpOp P ops Q j K (a.put oi.dst v) w) :
  wpOp P ops Q j (λ a' w'=>YieldsC P ops C oi v a'/\K (a'.put oi.dst v) w') a w:=by
 obtain ⟨h1,h2,h3⟩:=Oper.apart_spec hap
 have keep:∀ (a:Act),YieldsC P ops C oi v a->∀ u,YieldsC P ops C oi v (a.put oj.dst u):=λ a hy u=>
  hy.of_same (execOp_put oi hsi a oj.dst u h3) (wanted_put oi a oj.dst u h3)
 have keepD:∀ d,YieldsC P ops C oi v {a with defers:=d::a.defers}:=λ d=>hy.of_same rfl rfl
 unfold wpOp at *
 simp only [hj] at *
 rw [wanted_put oj a oi.dst v h1] at h
 by_cases hw:Region.wanted oj (yielded ops a.tmps)=true
 ·rw [if_pos hw] at h ⊢
  rcases h with h|⟨hasks,hlets⟩
  case inr=>exact .inr ⟨by unfold Oper.asks at *;rw [execOp_put oj hsj a oi.dst v h1] at hasks;exact hasks,hlets⟩
  refine .inl ?_
  unfold Oper.wp at *
  rw [execOp_put oj hsj a oi.dst v h1] at h
  generalize (execOp a.eval oj).run P w=r at *
  cases r with
  | ok n w'=>
   cases n<;>simp only [Oper.upon] at h ⊢
   case value u=>exact ⟨keep a hy u,by rw [<-Act.put_comm a v u h2];exact h⟩
   case skip=>exact ⟨keep a hy _,by rw [<-Act.put_comm a v undef h2];exact h⟩
   case defer d=>exact ⟨keep _ (keepD d) _,by rw [<-Act.put_comm _ v undef h2,<-Act.put_defers];exact h⟩
   case enter f args=>
    refine Calls.mono h λ e w'' he=>?_
    cases e with
    | returned u=>exact ⟨keep a hy u,by rw [<-Act.put_comm a v u h2];exact he⟩
    | panicked c=>exact hQ _ _ _ he
    | outgrown=>exact he
   case row row args=>exact Rows.mono h λ u w'' he=>⟨keep a hy u,by rw [<-Act.put_comm a v u h2];exact he⟩
  | halt x w'=>
   cases x<;>simp only [Oper.upon] at h ⊢
   case panic u=>exact hQ _ _ _ h
 ·rw [if_neg hw] at h ⊢
  exact ⟨keep a hy _,by rw [<-Act.put_comm a v undef h2];exact h⟩
def Closed (md:Region.Mode) (ops:Array Oper) (listed:Array Bool):Prop:=
 ∀ j oj,ops[j]?=some oj->listed.getD j false=true->∀ e ∈ oj.after,Region.binds md e=true->listed.getD e.on false=true
def Till (k:Nat) (C:World->Prop) (listed:Array Bool) (w:World):Prop:=listed.getD k false=true\/C w
def wpAnyC (P:Program) (md:Region.Mode) (ops:Array Oper) (Q:Exit->Act->World->Prop) (k:Nat) (C:World->Prop):Nat->Array Bool->Act->World->Prop
 | 0,listed,a,w=>Region.ready md ops listed=[]/\Q .normal a w
 | fuel+1,listed,a,w=>
  (Region.ready md ops listed=[]->Q .normal a w)/\
  ∀ i ∈ Region.ready md ops listed,wpOp P ops Q i (λ a' w'=>Till k C (listed.setIfInBounds i true) w'/\wpAnyC P md ops Q k C fuel (listed.setIfInBounds i true) a' w') a w
theorem wpAny_ofC:∀ (fuel:Nat) (listed:Array Bool) (a:Act) (w:World),wpAnyC P md ops Q k C fuel listed a w->wpAny P md ops Q fuel listed a w
 | 0,_,_,_,h=>h
 | fuel+1,_,_,_,h=>⟨h.1,λ i hi=>wpOp_mono (λ a' w' h'=>wpAny_ofC fuel _ a' w' h'.2) (h.2 i hi)⟩
theorem Closed.set_ {listed:Array Bool} {j:Nat} (h:Closed md ops listed) (hj:j ∈ Region.ready md ops listed):Closed md ops (listed.setIfInBounds j true):=by
 obtain ⟨hjun,oj,hoj,hall⟩:=mem_ready.1 hj
 intro m om hm hl e he hb
 by_cases hmj:m=j
 ·subst hmj
  rw [hoj] at hm;cases hm
  exact getD_set_true (hall e he hb)
 ·have:listed.getD m false=true:=by
   rw [Array.getD_eq_getD_getElem?] at hl ⊢
   rwa [Array.getElem?_setIfInBounds_ne (Ne.symm hmj)] at hl
  exact getD_set_true (h m om hm this e he hb)
theorem getD_two {l:Array Bool} {i:Nat} (h:l.getD i true=false):l.getD i false=false:=by
 rw [Array.getD_eq_getD_getElem?] at h ⊢
 cases hh:l[i]? with
 | none=>rw [hh] at h;simp at h
 | some b=>rw [hh] at h;simpa using h
theorem getD_setf_ne {listed:Array Bool} {i j:Nat} (h:i≠j):(listed.setIfInBounds i true).getD j false=listed.getD j false:=by
 rw [Array.getD_eq_getD_getElem?,Array.getD_eq_getD_getElem?,Array.getElem?_setIfInBounds_ne h]
theorem Till.set_ {i:Nat} {listed:Array Bool} {w:World} (hik:i≠k) (h:Till k C listed w):Till k C (listed.setIfInBounds i true) w:=by
 rcases h with h|h
 ·exact .inl (by rw [getD_setf_ne hik];exact h)
 ·exact .inr h
theorem till_of {i:Nat} (hk:∀ ok,ops[k]?=some ok->∀ listed:Array Bool,Closed md ops listed->listed.getD k false=true->listed.getD i false=true) (listed:Array Bool) (w:World) (hsz:listed.size=ops.size) (hc:Closed md ops listed)
  (hr:i ∈ Region.ready md ops listed) (ht:Till k C listed w):C w:=by
 rcases ht with ht|ht
 ·exfalso
  have hlt:k < ops.size:=by
   rcases Nat.lt_or_ge k listed.size with h|h
   ·omega
   ·rw [Array.getD_eq_getD_getElem?,Array.getElem?_eq_none h] at ht;simp at ht
  have h1:=hk _ (Array.getElem?_eq_getElem hlt) listed hc ht
  have h2:=getD_two (mem_ready.1 hr).1
  rw [h1] at h2;cases h2
 ·exact ht
theorem wpAnyC_first {i:Nat} {oi:Oper} {v:Value} (hi:ops[i]?=some oi) (hsel:∀ (j:Nat) (o:Oper) cs b,ops[j]?=some o->o.op≠.select cs b)
  (hQ:∀ c a w,Q (.panic c) (a.put oi.dst v) w->Q (.panic c) a w) (hik:i≠k) {D:World->Prop}
  (hCof:∀ (listed:Array Bool) (w:World),listed.size=ops.size->Closed md ops listed->i ∈ Region.ready md ops listed->Till k C listed w->D w) :
  ∀ (fuel:Nat) (listed:Array Bool) (a:Act) (w:World),listed.size=ops.size->Closed md ops listed->
   (∀ j oj,ops[j]?=some oj->j≠i->listed.getD j true=false->(∀ e ∈ oj.after,Region.binds md e=true->e.on≠i)->oi.apart ops oj=true)->
   i ∈ Region.ready md ops listed->YieldsC P ops D oi v a->Till k C listed w->
   wpAnyC P md ops Q k C fuel (listed.setIfInBounds i true) (a.put oi.dst v) w->wpAnyC P md ops Q k C (fuel+1) listed a w:=by
 intro fuel
 induction fuel with
 | zero=>
  intro listed a w hsz hc _ hr hy hS H
  refine ⟨λ h=>(by rw [h] at hr;cases hr),λ j hj=>?_⟩
  by_cases hji:j=i
  ·subst hji
   have hCw:=hCof listed w hsz hc hr hS
   exact hy.wpOp hi hCw ⟨Till.set_ hik hS,H⟩
  ·have:=ready_mono hj hji
   rw [H.1] at this
   cases this
 | succ fuel ih=>
  intro listed a w hsz hc hfree hr hy hS H
  refine ⟨λ h=>(by rw [h] at hr;cases hr),λ j hj=>?_⟩
  by_cases hji:j=i
  ·subst hji
   have hCw:=hCof listed w hsz hc hr hS
   exact hy.wpOp hi hCw ⟨Till.set_ hik hS,H⟩
  ·have h1:=H.2 j (ready_mono hj hji)
   obtain ⟨hjun,oj,hoj,hall⟩:=mem_ready.1 hj
   have hnot:∀ e ∈ oj.after,Region.binds md e=true->e.on≠i:=λ e he hb heq=>by
    have h1:=hall e he hb
    have h0:=getD_two (mem_ready.1 hr).1
    rw [heq,h0] at h1
    cases h1
   have h2:=wpOp_putC hoj (hfree j oj hoj hji hjun hnot) (λ cs b=>hsel i oi cs b hi) (λ cs b=>hsel j oj cs b hoj) hQ hy h1
   have hfree':∀ m om,ops[m]?=some om->m≠i->(listed.setIfInBounds j true).getD m true=false->
     (∀ e ∈ om.after,Region.binds md e=true->e.on≠i)->oi.apart ops om=true:=λ m om hm hmi hun hno=>by
    refine hfree m om hm hmi ?_ hno
    by_cases hjm:j=m
    ·subst hjm;exact hjun
    ·rw [getD_set_ne true hjm] at hun;exact hun
   refine wpOp_mono (λ a' w' h3=>?_) h2
   have ht:Till k C (listed.setIfInBounds j true) w':=by
    rcases h3.2.1 with ht|ht
    ·refine .inl ?_
     rw [Array.setIfInBounds_comm _ _ (Ne.symm hji),getD_setf_ne hik] at ht
     exact ht
    ·exact .inr ht
   refine ⟨ht,ih (listed.setIfInBounds j true) a' w' (by simp [hsz]) (hc.set_ hj) hfree' (ready_mono hr (Ne.symm hji)) h3.1 ht ?_⟩
   rw [Array.setIfInBounds_comm _ _ hji]
   exact h3.2.2
def readsOnly:Op->Bool
 | .move _|.assign _|.pick .. | .nilCheck _|.binOp .. | .unOp .. | .fieldAddr .. | .field .. | .indexAddr .. | .extract .. | .slice .. | .load .. | .build ..=>true
 | .convert s d _=>s != d
 | .call {callee:=.builtin .len,..}=>true
 | .call {callee:=.builtin .min,..}=>true
 | _=>false
def memless:Op->Bool
 | .move _|.assign _|.pick .. | .nilCheck _|.binOp .. | .unOp .. | .fieldAddr .. | .field .. | .indexAddr .. | .extract .. | .slice .. | .build ..=>true
 | .call {callee:=.builtin .len,..}=>true
 | .call {callee:=.builtin .min,..}=>true
 | _=>false
def waits (md:Region.Mode) (ops:Array Oper):Nat->Nat->Nat->Bool
 | 0,_,_=>false
 | f+1,k,i=>match ops[k]? with
  | none=>false
  | some ok=>ok.after.any (λ e=>Region.binds md e&&(e.on==i||waits md ops f e.on i))
theorem waits_listed:∀ (f k i:Nat),waits md ops f k i=true->∀ listed:Array Bool,Closed md ops listed->listed.getD k false=true->listed.getD i false=true
 | 0,_,_,h,_,_,_=>by cases h
 | f+1,k,i,h,listed,hc,ht=>by
  unfold waits at h
  cases hok:ops[k]? with
  | none=>rw [hok] at h;cases h
  | some ok=>
   rw [hok] at h
   obtain ⟨e,he,hb⟩:=Array.any_eq_true'.1 h
   simp only [Bool.and_eq_true,Bool.or_eq_true,beq_iff_eq] at hb
   have h1:=hc k ok hok ht e he hb.1
   rcases hb.2 with h2|h2
   ·rw [<-h2];exact h1
   ·exact waits_listed f e.on i h2 listed hc h1
def early (md:Region.Mode) (ops:Array Oper) (k i:Nat) (o:Oper):Bool:=
 i != k&&(memless o.op||readsOnly o.op&&(match ops[k]? with|some _=>waits md ops 3 k i|none=>true))
theorem early_spec {i:Nat} {o:Oper} (h:early md ops k i o=true):i≠k/\(memless o.op=false->∀ ok,ops[k]?=some ok->∀ listed:Array Bool,Closed md ops listed->listed.getD k false=true->listed.getD i false=true):=by
 unfold early at h
 rw [Bool.and_eq_true] at h
 refine ⟨(by simpa using h.1),λ hm=>?_⟩
 have h2:=h.2
 rw [hm,Bool.false_or,Bool.and_eq_true] at h2
 replace h2:=h2.2
 cases hok:ops[k]? with
 | none=>intro ok e;cases e
 | some ok=>
  rw [hok] at h2
  intro ok' e
  cases e
  exact waits_listed 3 k i h2
def OnWhat (C:World->Prop) (o:Oper):World->Prop:=if memless o.op then λ _=>True else C
def canonB (md:Region.Mode) (ops:Array Oper) (k:Nat):List Nat->Array Bool->Bool
 | [],listed=>(Region.ready md ops listed).isEmpty
 | i::rest,listed=>(match ops[i]? with
   | none=>false
   | some o=>if early md ops k i o then (Region.ready md ops listed).contains i&&Region.free md ops listed i else Region.ready md ops listed==[i])&&canonB md ops k rest (listed.setIfInBounds i true)
def wpCanon (P:Program) (md:Region.Mode) (ops:Array Oper) (Q:Exit->Act->World->Prop) (k:Nat) (C:World->Prop):List Nat->Array Bool->Act->World->Prop
 | [],_,a,w=>Q .normal a w
 | i::rest,listed,a,w=>match ops[i]? with
  | none=>False
  | some o=>if early md ops k i o
   then ∃ v,YieldsC P ops (OnWhat C o) o v a/\wpCanon P md ops Q k C rest (listed.setIfInBounds i true) (a.put o.dst v) w
   else wpOp P ops Q i (λ a' w'=>Till k C (listed.setIfInBounds i true) w'/\wpCanon P md ops Q k C rest (listed.setIfInBounds i true) a' w') a w
theorem wpAnyC_canon (hs:Region.noSelect ops=true) (hQ:∀ c (a:Act) (d:Option Tmp) v w,Q (.panic c) (a.put d v) w->Q (.panic c) a w):∀ (l:List Nat) (listed:Array Bool) (a:Act) (w:World),
  listed.size=ops.size->Closed md ops listed->Till k C listed w->canonB md ops k l listed=true->wpCanon P md ops Q k C l listed a w->wpAnyC P md ops Q k C l.length listed a w
 | [],listed,a,w,_,_,_,hB,h=>⟨by simpa [canonB] using hB,h⟩
 | i::rest,listed,a,w,hsz,hc,ht,hB,h=>by
  simp only [canonB,Bool.and_eq_true] at hB
  obtain ⟨hB1,hB2⟩:=hB
  simp only [wpCanon] at h
  cases ho:ops[i]? with
  | none=>rw [ho] at h;exact h.elim
  | some o=>
   rw [ho] at h hB1
   simp only at h hB1
   by_cases hr:early md ops k i o=true
   ·rw [if_pos hr] at h hB1
    obtain ⟨v,hy,hrest⟩:=h
    rw [Bool.and_eq_true] at hB1
    have hrd:i ∈ Region.ready md ops listed:=by simpa using hB1.1
    obtain ⟨hik,hkk⟩:=early_spec hr
    have ht':Till k C (listed.setIfInBounds i true) w:=by
     rcases ht with ht|ht
     ·exact .inl (by rw [getD_setf_ne hik];exact ht)
     ·exact .inr ht
    refine wpAnyC_first ho (Region.noSelect_spec hs) (λ c a w=>hQ c a o.dst v w) hik (D:=OnWhat C o) (λ l w h1 h2 h3 h4=>by
     unfold OnWhat
     cases hm:memless o.op with
     | true=>trivial
     | false=>exact till_of (hkk hm) l w h1 h2 h3 h4) rest.length listed a w hsz hc (Region.free_spec ho hB1.2) hrd hy ht
     (wpAnyC_canon hs hQ rest _ _ w (by simp [hsz]) (hc.set_ hrd) ht' hB2 hrest)
   ·rw [if_neg hr] at h hB1
    have hrd:Region.ready md ops listed=[i]:=by simpa using hB1
    refine ⟨λ h0=>(by rw [hrd] at h0;cases h0),λ j hj=>?_⟩
    rw [hrd] at hj
    simp at hj
    subst hj
    exact wpOp_mono (λ a' w' h'=>⟨h'.1,wpAnyC_canon hs hQ rest _ a' w' (by simp [hsz]) (hc.set_ (by rw [hrd];simp)) h'.1 hB2 h'.2⟩) h
theorem wp_region_canon {id:Nat} {a:Act} {w:World} (l:List Nat) (k:Nat) (C:World->Prop) (hm:P.follows .mixedOrders=true) (hs:Region.noSelect ops=true) (hlen:l.length=ops.size)
  (hB:canonB .any ops k l (Array.replicate ops.size false)=true) (hQ:∀ c (a:Act) (d:Option Tmp) v w,Q (.panic c) (a.put d v) w->Q (.panic c) a w)
  (hC:C w.drew) (h:wpCanon P .any ops Q k C l (Array.replicate ops.size false) a w.drew):(Code.region id ops true).wp P Q a w:=by
 refine wp_region_any hm (wpAny_ofC (k:=k) (C:=C) _ _ _ _ ?_)
 change wpAnyC P .any ops Q k C ops.size _ a w.drew
 have:=wpAnyC_canon (md:=.any) hs hQ l _ a w.drew (by simp) (λ j oj _ hj=>?_) (.inr hC) hB h
 ·rw [hlen] at this;exact this
 ·exfalso
  rw [Array.getD_eq_getD_getElem?,Array.getElem?_replicate] at hj
  split at hj<;>simp at hj
theorem wpCanon_read {i:Nat} {rest:List Nat} {listed:Array Bool} {a:Act} {w:World} {o:Oper} {v:Value} (ho':ops.toList[i]?=some o)
  (hr:early md ops k i o=true) (hw:Region.wanted o (yielded ops a.tmps)=true)
  (hy:∀ w,OnWhat C o w->(execOp a.eval o).run P w=.ok (.value v) w) (h:wpCanon P md ops Q k C rest (listed.setIfInBounds i true) (a.put o.dst v) w):wpCanon P md ops Q k C (i::rest) listed a w:=by
 have ho:ops[i]?=some o:=by rw [<-Array.getElem?_toList];exact ho'
 simp only [wpCanon,ho]
 rw [if_pos hr]
 exact ⟨v,.inl ⟨hw,hy⟩,h⟩
def Behind (Q:Exit->Act->World->Prop) (N:Act->World->Prop):Exit->Act->World->Prop
 | .normal,a,w=>N a w
 | e,a,w=>Q e a w
theorem Oper.wp_behind {o:Oper} {a:Act} {w:World} {N K:Act->World->Prop} (h:o.wp P a w K (Behind Q N)):o.wp P a w K Q:=by
 unfold Oper.wp at *
 generalize (execOp a.eval o).run P w=r at *
 cases r with
 | ok n w'=>
  cases n<;>simp only [Oper.upon] at h ⊢<;>exact h
 | halt x w'=>cases x<;>simp only [Oper.upon] at h ⊢<;>exact h
theorem letsOut_behind {N:Act->World->Prop} (h:LetsOut (Behind Q N)):LetsOut Q:=h
theorem wpCanon_act {i:Nat} {rest:List Nat} {listed:Array Bool} {a:Act} {w:World} {o:Oper} (ho':ops.toList[i]?=some o)
  (hr:early md ops k i o=false)
  (h:wpList P ops (Behind Q (λ a' w'=>Till k C (listed.setIfInBounds i true) w'/\wpCanon P md ops Q k C rest (listed.setIfInBounds i true) a' w')) [o] a w):wpCanon P md ops Q k C (i::rest) listed a w:=by
 have ho:ops[i]?=some o:=by rw [<-Array.getElem?_toList];exact ho'
 simp only [wpCanon,ho]
 rw [if_neg (by rw [hr];simp)]
 simp only [wpList] at h
 unfold wpOp
 simp only [ho]
 split
 ·rename_i hw
  rw [if_pos hw] at h
  rcases h with h|h
  ·exact .inl (Oper.wp_behind h)
  ·exact .inr ⟨h.1,letsOut_behind h.2⟩
 ·rename_i hw
  rw [if_neg hw] at h
  exact h
theorem cA_ {i:Nat} {rest:List Nat} {listed:Array Bool} {a:Act} {w:World} {o:Oper} (ho':ops.toList[i]?=some o)
  (h:wpList P ops (Behind Q (λ a' w'=>Till k C (listed.setIfInBounds i true) w'/\wpCanon P md ops Q k C rest (listed.setIfInBounds i true) a' w')) [o] a w)
  (hr:early md ops k i o=false:=by kernel_rfl):wpCanon P md ops Q k C (i::rest) listed a w:=wpCanon_act ho' hr h
theorem cR_ {i:Nat} {rest:List Nat} {listed:Array Bool} {a:Act} {w:World} {o:Oper} {v:Value} (ho':ops.toList[i]?=some o)
  (hy:∀ w,OnWhat C o w->(execOp a.eval o).run P w=.ok (.value v) w) (h:wpCanon P md ops Q k C rest (listed.setIfInBounds i true) (a.put o.dst v) w)
  (hr:early md ops k i o=true:=by kernel_rfl) (hw:Region.wanted o (yielded ops a.tmps)=true:=by rfl):wpCanon P md ops Q k C (i::rest) listed a w:=wpCanon_read ho' hr hw hy h
theorem cr_ {i:Nat} {rest:List Nat} {listed:Array Bool} {a:Act} {w:World} {o:Oper} {v:Value} (ho':ops.toList[i]?=some o)
  (h:wpCanon P md ops Q k C rest (listed.setIfInBounds i true) (a.put o.dst v) w) (hy:∀ w,OnWhat C o w->(execOp a.eval o).run P w=.ok (.value v) w:=by intro W hW;go_simp;try rfl)
  (hr:early md ops k i o=true:=by kernel_rfl) (hw:Region.wanted o (yielded ops a.tmps)=true:=by rfl):wpCanon P md ops Q k C (i::rest) listed a w:=wpCanon_read ho' hr hw hy h
theorem rC_ {id:Nat} {a:Act} {w:World} (l:List Nat) (k:Nat) (C:World->Prop)
  (hC:C w.drew) (h:wpCanon P .any ops Q k C l (Array.replicate ops.size false) a w.drew) (hm:P.follows .mixedOrders=true:=by kernel_rfl) (hs:Region.noSelect ops=true:=by kernel_rfl) (hlen:l.length=ops.size:=by rfl)
  (hB:canonB .any ops k l (Array.replicate ops.size false)=true:=by kernel_rfl) (hQ:∀ c (a:Act) (d:Option Tmp) v w,Q (.panic c) (a.put d v) w->Q (.panic c) a w:=by exact λ _ _ d _ _ h=>by cases d<;>exact h):(Code.region id ops true).wp P Q a w:=wp_region_canon l k C hm hs hlen hB hQ hC h
theorem wpCanon_nil {listed:Array Bool} {a:Act} {w:World} (h:Q .normal a w):wpCanon P md ops Q k C [] listed a w:=h
theorem code_at {c:Code} {a:Act} {w:World} (h:∀ w',w'=w->c.wp P Q a w'):c.wp P Q a w:=h w rfl
theorem canon_at {l:List Nat} {listed:Array Bool} {a:Act} {w:World} (h:∀ w',w'=w->wpCanon P md ops Q k C l listed a w'):wpCanon P md ops Q k C l listed a w:=h w rfl
theorem canon_at' {l:List Nat} {listed listed':Array Bool} {a:Act} {w:World} (h:∀ w',w'=w->Till k C listed' w'/\wpCanon P md ops Q k C l listed a w'):Till k C listed' w/\wpCanon P md ops Q k C l listed a w:=h w rfl
theorem post_at {fn:Func} {R:Ending->World->Prop} {e:Exit} {a:Act} {w:World} (h:∀ w',w'=w->bodyPost P fn R e a w'):bodyPost P fn R e a w:=h w rfl
theorem calls_at {f:FuncId} {args:Array Value} {R:Ending->World->Prop} {w:World} (h:∀ w',w'=w->Calls P f args w' R):Calls P f args w R:=h w rfl
theorem list_at {l:List Oper} {a:Act} {w:World} (h:∀ w',w'=w->wpList P ops Q l a w'):wpList P ops Q l a w:=h w rfl
end
end Go.Proofs.Ytjcgphhpaenjkaa
namespace Go.Proofs.Ytjcgphhpaenjkaa
open Go.RowKit
theorem Hd {p:Prop} (h:p):Hid p:=h
theorem sa_ {α:Type} {l:List α} {i:Nat} {a:α}:l.toArray.setIfInBounds i a=(l.set i a).toArray:=by simp
theorem sb_ {α:Type} {l:List α} {a b:α}:(a::l).set 0 b=b::l:=rfl
theorem sc_ {α:Type} {l:List α} {n:Nat} {a b:α}:(a::l).set (n+1) b=a::l.set n b:=rfl
def Blk (w:World) (g:Nat) (t:TypeId) (cs:Array Value):Prop:=w.heap[g]?=some (.cells cs t (0,0))
structure Keeps (M:Nat->Prop) (w w':World):Prop where
 os:w'.os=w.os
 tape:w'.tape=w.tape
 output:w'.output=w.output
 size:w.heap.size<=w'.heap.size
 block:∀ k,k < w.heap.size->¬M k->w'.heap[k]?=w.heap[k]?
def Nob:Nat->Prop:=λ _=>False
def From (n:Nat):Nat->Prop:=λ b=>n<=b
section
variable {M M':Nat->Prop} {w w' w'':World} {g:Nat} {t:TypeId} {cs:Array Value}
theorem Keeps.refl (M:Nat->Prop) (w:World):Keeps M w w:=⟨rfl,rfl,rfl,Nat.le_refl _,λ _ _ _=>rfl⟩
theorem Keeps.trans (h:Keeps M w w') (k:Keeps M' w' w'') (hm:∀ b,b < w.heap.size->M' b->M b):Keeps M w w'':=
 ⟨k.os.trans h.os,k.tape.trans h.tape,k.output.trans h.output,Nat.le_trans h.size k.size,λ b hb hn=>(k.block b (Nat.lt_of_lt_of_le hb h.size) (λ x=>hn (hm b hb x))).trans (h.block b hb hn)⟩
theorem Keeps.mono (h:Keeps M w w') (hm:∀ b,b < w.heap.size->M b->M' b):Keeps M' w w':=⟨h.os,h.tape,h.output,h.size,λ b hb hn=>h.block b hb (λ x=>hn (hm b hb x))⟩
theorem Keeps.alloc (M:Nat->Prop) (w:World) (o:Obj):Keeps M w (w.alloc o):=⟨rfl,rfl,rfl,by simp,λ k hk _=>Below.heap_alloc _ _ _ hk⟩
theorem Keeps.drew (M:Nat->Prop) (w:World):Keeps M w w.drew:=⟨rfl,rfl,rfl,Nat.le_refl _,λ _ _ _=>rfl⟩
theorem Keeps.drewN (M:Nat->Prop) (w:World) (n:Nat):Keeps M w (w.drewN n):=⟨rfl,rfl,rfl,Nat.le_refl _,λ _ _ _=>rfl⟩
theorem Keeps.setCell (w:World) {p:Addr} (hp:M p.block) (u:Value):Keeps M w (w.setCell p u):=
 ⟨rfl,rfl,rfl,by simp,λ k _ hn=>Below.heap_setCell _ _ _ _ (λ e=>hn (by rw [e];exact hp))⟩
theorem Keeps.alloc' (h:Keeps M w w') (o:Obj):Keeps M w (w'.alloc o):=h.trans (Keeps.alloc Nob _ o) (λ _ _ h=>h.elim)
theorem Keeps.drew' (h:Keeps M w w'):Keeps M w w'.drew:=h.trans (Keeps.drew Nob _) (λ _ _ h=>h.elim)
theorem Keeps.setCell' (h:Keeps M w w') {p:Addr} (hp:p.block < w.heap.size->M p.block) (u:Value):Keeps M w (w'.setCell p u):=
 h.trans (M':=λ b=>b=p.block) (Keeps.setCell _ (M:=λ b=>b=p.block) rfl u) (λ b hb e=>by subst e;exact hp hb)
theorem Keeps.grown {row:Option Nat} (h:w.grownBy w' row) (hr:∀ k,row=some k->M k):Keeps M w w':=
 ⟨h.os,h.tape,h.output,h.size,λ k hk hn=>h.block k hk (λ e=>hn (hr k e.symm))⟩
theorem Keeps.cell (h:Keeps M w w') {p:Addr} {v:Value} (hc:w.cell? p=some v) (hn:¬M p.block):w'.cell? p=some v:=
 (World.cell?_of_block (w:=w) (h.block p.block (World.block_lt_of_cell? _ _ hc) hn)).trans hc
theorem Blk.lt (h:Blk w g t cs):g < w.heap.size:=by
 rcases Nat.lt_or_ge g w.heap.size with hlt|hge
 ·exact hlt
 ·unfold Blk at h;rw [Array.getElem?_eq_none hge] at h;cases h
theorem Blk.cell (h:Blk w g t cs) (i:Nat):w.cell? ⟨g,i,none⟩=cs[i]?:=cell_of_row w g i cs t (0,0) h
theorem Blk.frozen (h:Blk w g t cs) (i:Nat):w.frozen? ⟨g,i,none⟩=false:=by unfold Blk at h;simp [World.frozen?,h]
theorem Blk.new (w:World) (t:TypeId) (cs:Array Value):Blk (w.alloc (.cells cs t)) w.heap.size t cs:=heap_alloc_new w _
theorem Blk.new' {w:World} {n:Nat} (hn:n=w.heap.size) (t:TypeId) (cs:Array Value):Blk (w.alloc (.cells cs t)) n t cs:=by subst hn;exact Blk.new w t cs
theorem Blk.keeps (h:Blk w g t cs) (k:Keeps M w w') (hn:¬M g):Blk w' g t cs:=(k.block g h.lt hn).trans h
theorem Blk.alloc (h:Blk w g t cs) (o:Obj):Blk (w.alloc o) g t cs:=h.keeps (Keeps.alloc Nob w o) id
theorem Blk.drew (h:Blk w g t cs):Blk w.drew g t cs:=h
theorem Blk.set_ (h:Blk w g t cs) (i:Nat) (u:Value):Blk (w.setCell ⟨g,i,none⟩ u) g t (cs.setIfInBounds i u):=by
 unfold Blk at h ⊢
 simp [World.setCell,Array.getElem?_modify,h]
theorem Blk.far (h:Blk w g t cs) {p:Addr} (hp:g≠p.block) (u:Value):Blk (w.setCell p u) g t cs:=(Below.heap_setCell w p u g hp).trans h
theorem Blk.ne_ {g':Nat} {t':TypeId} {cs':Array Value} (h:Blk w g t cs) (h':Blk w g' t' cs') (hne:t≠t'):g≠g':=by
 rintro rfl
 unfold Blk at h h'
 rw [h] at h'
 injection h' with h'
 injection h' with _ ht
 exact hne ht
end
def SlR (w:World) (S:Nat->Prop) (v:Value) (xs:List Value):Prop:=
 ∃ A c,v=.slice A xs.length c/\xs.length<=c/\c<=maxLen/\(xs≠[]->∃ ad,A=some ad/\S ad.block/\∀ i x,xs[i]?=some x->w.cell? (ad.add i)=some x)
theorem blk_add (a:Addr) (n:Nat):(a.add n).block=a.block:=by unfold Addr.add;split<;>rfl
theorem add_add_ (a:Addr) (i j:Nat):(a.add i).add j=a.add (i+j):=by
 unfold Addr.add
 by_cases hi:i=0<;>by_cases hj:j=0<;>simp [hi,hj,Nat.add_assoc]
theorem add_lit (b o n:Nat):(⟨b,o,none⟩:Addr).add n=⟨b,o+n,none⟩:=by unfold Addr.add;split<;>simp_all
section
variable {S T M:Nat->Prop} {w w':World} {v:Value} {xs ys:List Value}
theorem SlR.keeps (h:SlR w S v xs) (k:Keeps M w w') (hd:∀ b,b < w.heap.size->S b->¬M b):SlR w' S v xs:=by
 obtain ⟨A,c,rfl,h1,h2,h⟩:=h
 refine ⟨A,c,rfl,h1,h2,λ hl=>?_⟩
 obtain ⟨ad,rfl,hs,hc⟩:=h hl
 refine ⟨ad,rfl,hs,λ i x hi=>k.cell (hc i x hi) ?_⟩
 have:=World.block_lt_of_cell? _ _ (hc i x hi)
 rw [blk_add] at this ⊢
 exact hd _ this hs
theorem SlR.mono (h:SlR w S v xs) (hs:∀ b,b < w.heap.size->S b->T b):SlR w T v xs:=by
 obtain ⟨A,c,rfl,h1,h2,h⟩:=h
 refine ⟨A,c,rfl,h1,h2,λ hl=>?_⟩
 obtain ⟨ad,rfl,h3,hc⟩:=h hl
 obtain ⟨x,hx⟩:∃ x,xs[0]?=some x:=by cases xs with|nil=>exact absurd rfl hl|cons x l=>exact ⟨x,rfl⟩
 have:=World.block_lt_of_cell? _ _ (hc 0 x hx)
 rw [blk_add] at this
 exact ⟨ad,rfl,hs _ this h3,hc⟩
theorem SlR.nil (w:World) (S:Nat->Prop) (A:Option Addr) (c:Nat) (hc:c<=maxLen):SlR w S (.slice A 0 c) []:=⟨A,c,rfl,Nat.zero_le _,hc,λ h=>absurd rfl h⟩
end
def SlG (w:World) (S:Nat->Prop) (size:Nat) (v:Value) (n:Nat) (xs:List Value):Prop:=
 xs.length=n*size/\∃ A c,v=.slice A n c/\n<=c/\c<=maxLen/\(xs≠[]->∃ ad,A=some ad/\S ad.block/\∀ i x,xs[i]?=some x->w.cell? (ad.add i)=some x)
def Own (w:World) (S:Nat->Prop) (e:TypeId) (size:Nat) (v:Value) (n:Nat) (xs:List Value):Prop:=
 xs.length=n*size/\∃ A c,v=.slice A n c/\n<=c/\c<=maxLen/\((A=none/\c=0)\/∃ g o cur,A=some ⟨g,o,none⟩/\S g/\Blk w g e cur/\o+c*size<=cur.size/\∀ i x,xs[i]?=some x->cur[o+i]?=some x)
section
variable {S T M:Nat->Prop} {w w':World} {v:Value} {xs ys:List Value} {e:TypeId} {size n:Nat}
theorem SlR.g (h:SlR w S v xs):SlG w S 1 v xs.length xs:=by
 obtain ⟨A,c,rfl,h⟩:=h
 exact ⟨by simp,A,c,rfl,h⟩
theorem SlG.r (h:SlG w S 1 v n xs):SlR w S v xs:=by
 obtain ⟨hl,A,c,rfl,h⟩:=h
 obtain rfl:xs.length=n:=by omega
 exact ⟨A,c,rfl,h⟩
theorem SlG.keeps (h:SlG w S size v n xs) (k:Keeps M w w') (hd:∀ b,b < w.heap.size->S b->¬M b):SlG w' S size v n xs:=by
 obtain ⟨hx,A,c,rfl,h1,h2,h⟩:=h
 refine ⟨hx,A,c,rfl,h1,h2,λ hl=>?_⟩
 obtain ⟨ad,rfl,hs,hc⟩:=h hl
 refine ⟨ad,rfl,hs,λ i x hi=>k.cell (hc i x hi) ?_⟩
 have:=World.block_lt_of_cell? _ _ (hc i x hi)
 rw [blk_add] at this ⊢
 exact hd _ this hs
theorem SlG.mono (h:SlG w S size v n xs) (hs:∀ b,b < w.heap.size->S b->T b):SlG w T size v n xs:=by
 obtain ⟨hx,A,c,rfl,h1,h2,h⟩:=h
 refine ⟨hx,A,c,rfl,h1,h2,λ hl=>?_⟩
 obtain ⟨ad,rfl,h3,hc⟩:=h hl
 obtain ⟨x,hx⟩:∃ x,xs[0]?=some x:=by cases xs with|nil=>exact absurd rfl hl|cons x l=>exact ⟨x,rfl⟩
 have:=World.block_lt_of_cell? _ _ (hc 0 x hx)
 rw [blk_add] at this
 exact ⟨ad,rfl,hs _ this h3,hc⟩
theorem SlG.form (h:SlG w S size v n xs):∃ A c,v=.slice A n c:=by
 obtain ⟨_,A,c,e,_⟩:=h;exact ⟨A,c,e⟩
theorem SlG.cells {A:Option Addr} {c:Nat} (h:SlG w S size (.slice A n c) n xs) (hne:xs≠[]):∃ ad,A=some ad/\S ad.block/\∀ (i:Nat) x,xs[i]?=some x->w.cell? (ad.add i)=some x:=by
 obtain ⟨_,A',c',e,_,_,h⟩:=h
 injection e with e1 _ _
 subst e1
 exact h hne
theorem Own.at_ {A:Option Addr} {c:Nat} (h:Own w S e size (.slice A n c) n xs):n<=c/\c<=maxLen/\((A=none/\c=0)\/∃ g o cur,A=some ⟨g,o,none⟩/\S g/\Blk w g e cur/\o+c*size<=cur.size/\∀ i x,xs[i]?=some x->cur[o+i]?=some x):=by
 obtain ⟨_,A',c',e,h1,h2,h⟩:=h
 injection e with e1 _ e3
 subst e1 e3
 exact ⟨h1,h2,h⟩
theorem Own.nil (w:World) (S:Nat->Prop) (e:TypeId) (size:Nat):Own w S e size (.slice none 0 0) 0 []:=⟨by simp,none,0,rfl,Nat.le_refl _,Nat.zero_le _,.inl ⟨rfl,rfl⟩⟩
theorem Own.keeps (h:Own w S e size v n xs) (k:Keeps M w w') (hd:∀ b,b < w.heap.size->S b->¬M b):Own w' S e size v n xs:=by
 obtain ⟨hx,A,c,rfl,h1,h2,h⟩:=h
 refine ⟨hx,A,c,rfl,h1,h2,?_⟩
 rcases h with h|⟨g,o,cur,rfl,hs,hb,r⟩
 ·exact .inl h
 ·exact .inr ⟨g,o,cur,rfl,hs,hb.keeps k (hd g hb.lt hs),r⟩
theorem Own.mono (h:Own w S e size v n xs) (hs:∀ b,b < w.heap.size->S b->T b):Own w T e size v n xs:=by
 obtain ⟨hx,A,c,rfl,h1,h2,h⟩:=h
 refine ⟨hx,A,c,rfl,h1,h2,?_⟩
 rcases h with h|⟨g,o,cur,rfl,h3,hb,r⟩
 ·exact .inl h
 ·exact .inr ⟨g,o,cur,rfl,hs g hb.lt h3,hb,r⟩
theorem Own.keepsT (h:Own w S e size v n xs) (k:Keeps M w w') (hm:∀ g cs,S g->Blk w g e cs->¬M g):Own w' S e size v n xs:=by
 obtain ⟨hx,A,c,rfl,h1,h2,h⟩:=h
 refine ⟨hx,A,c,rfl,h1,h2,?_⟩
 rcases h with h|⟨g,o,cur,rfl,hs,hb,r⟩
 ·exact .inl h
 ·exact .inr ⟨g,o,cur,rfl,hs,hb.keeps k (hm g cur hs hb),r⟩
theorem Own.ownBlk (h:Own w S e size v n xs) {b:Nat} (hb:v.ownBlock=some b):∃ cs,Blk w b e cs:=by
 obtain ⟨hx,A,c,rfl,h1,h2,h⟩:=h
 rcases h with ⟨rfl,_⟩|⟨g,o,cur,rfl,h3,hbl,r⟩
 ·simp [Value.ownBlock] at hb
 ·simp [Value.ownBlock] at hb;subst hb;exact ⟨_,hbl⟩
theorem Own.keepsO {e':TypeId} {size' n':Nat} {v':Value} {xs':List Value} {S':Nat->Prop} (h:Own w S e size v n xs) (h':Own w S' e' size' v' n' xs') (hne:e≠e') (k:Keeps (λ b=>v'.ownBlock=some b) w w'):Own w' S e size v n xs:=
 h.keepsT k (λ g cs _ hb hg=>by obtain ⟨cs',hb'⟩:=h'.ownBlk hg;exact Blk.ne_ hb hb' hne rfl)
theorem Own.keepsB {g':Nat} {t':TypeId} {cs':Array Value} (h:Own w S e size v n xs) (hg:Blk w g' t' cs') (hne:e≠t') (k:Keeps (λ b=>b=g') w w'):Own w' S e size v n xs:=
 h.keepsT k (λ g cs _ hb e=>by subst e;exact Blk.ne_ hb hg hne rfl)
theorem Own.self (h:Own w S e size v n xs):Own w (λ b=>v.ownBlock=some b) e size v n xs:=by
 obtain ⟨hx,A,c,rfl,h1,h2,h⟩:=h
 refine ⟨hx,A,c,rfl,h1,h2,?_⟩
 rcases h with h|⟨g,o,cur,rfl,h3,hb,r⟩
 ·exact .inl h
 ·exact .inr ⟨g,o,cur,rfl,rfl,hb,r⟩
theorem Own.blk (h:Own w S e size v n xs) {b:Nat} (hb:v.ownBlock=some b):S b/\b < w.heap.size:=by
 obtain ⟨hx,A,c,rfl,h1,h2,h⟩:=h
 rcases h with ⟨rfl,_⟩|⟨g,o,cur,rfl,h3,hbl,r⟩
 ·simp [Value.ownBlock] at hb
 ·simp [Value.ownBlock] at hb;subst hb;exact ⟨h3,hbl.lt⟩
theorem Own.g (h:Own w S e size v n xs):SlG w S size v n xs:=by
 obtain ⟨hx,A,c,rfl,h1,h2,h⟩:=h
 refine ⟨hx,A,c,rfl,h1,h2,λ hne=>?_⟩
 rcases h with ⟨rfl,rfl⟩|⟨g,o,cur,rfl,h3,hb,h4,h5⟩
 ·obtain rfl:n=0:=by omega
  exact absurd (List.eq_nil_of_length_eq_zero (by simpa using hx)) hne
 ·exact ⟨_,rfl,h3,λ i x hi=>by rw [add_lit,hb.cell];exact h5 i x hi⟩
theorem Own.form (h:Own w S e size v n xs):∃ A c,v=.slice A n c:=by
 obtain ⟨_,A,c,e,_⟩:=h
 exact ⟨A,c,e⟩
theorem Own.r (h:Own w S e 1 v n xs):SlR w S v xs:=h.g.r
theorem Own.made (w:World) (cur:Array Value) (n cap:Nat) (hs:S w.heap.size) (hn:n<=cap) (hm:cap<=maxLen) (hz:cur.size=cap*size) (hx:cur.toList.take (n*size)=xs) :
  Own (w.alloc (.cells cur e)) S e size (.slice (some ⟨w.heap.size,0,none⟩) n cap) n xs:=by
 refine ⟨?_,_,_,rfl,hn,hm,.inr ⟨_,0,cur,rfl,hs,Blk.new w e cur,by omega,λ i x hi=>?_⟩⟩
 ·rw [<-hx,List.length_take,Array.length_toList,hz]
  exact Nat.min_eq_left (Nat.mul_le_mul_right _ hn)
 ·rw [<-hx,List.getElem?_take] at hi
  split at hi
  ·simpa using hi
  ·cases hi
end
theorem SlG.lit (w:World) (t:TypeId) (cs:List Value) (size k n:Nat) (hn:n=w.heap.size) (hk:cs.length=k*size) (hm:k<=maxLen) :
  SlG (w.alloc (.cells cs.toArray t)) (λ b=>b=w.heap.size) size (.slice (some ⟨n,0,none⟩) k k) k cs:=by
 subst hn
 refine ⟨hk,_,_,rfl,Nat.le_refl _,hm,λ _=>⟨_,rfl,rfl,λ i x hx=>?_⟩⟩
 rw [add_lit,(Blk.new w t cs.toArray).cell]
 simpa using hx
theorem SlG.lit1 (w:World) (t:TypeId) (x:Value) (n:Nat) (hn:n=w.heap.size):SlG (w.alloc (.cells #[x] t)) (λ b=>b=w.heap.size) 1 (.slice (some ⟨n,0,none⟩) 1 1) 1 [x]:=
 SlG.lit w t [x] 1 1 n hn rfl (by decide)
theorem setCells_blk {g:Nat} {t:TypeId}:∀ (vs:List Value) (o:Nat) (w:World) (cur:Array Value),Blk w g t cur->∃ cur',Blk (w.setCells g o vs) g t cur'/\cur'.size=cur.size/\
  (∀ j x,vs[j]?=some x->o+j < cur.size->cur'[o+j]?=some x)/\(∀ j,j < o\/o+vs.length<=j->cur'[j]?=cur[j]?)
 | [],o,w,cur,h=>⟨cur,h,rfl,λ j x hx=>by simp at hx,λ j _=>rfl⟩
 | v::r,o,w,cur,h=>by
  obtain ⟨cur',h1,h2,h3,h4⟩:=setCells_blk r (o+1) _ _ (h.set_ o v)
  refine ⟨cur',h1,by rw [h2];simp,λ j x hx hl=>?_,λ j hj=>?_⟩
  ·cases j with
   | zero=>
    simp at hx;subst hx
    rw [h4 (o+0) (.inl (by omega)),Nat.add_zero,Array.getElem?_setIfInBounds_self]
    rw [if_pos (by omega)]
   | succ j=>
    have:=h3 j x (by simpa using hx) (by simp;omega)
    rw [show o+(j+1)=o+1+j by omega];exact this
  ·rw [h4 j (by simp at hj;omega)]
   rw [Array.getElem?_setIfInBounds_ne]
   simp at hj;omega
theorem setCells_keeps {g:Nat}:∀ (vs:List Value) (o:Nat) (w:World),Keeps (λ b=>b=g) w (w.setCells g o vs)
 | [],_,w=>Keeps.refl _ w
 | v::r,o,w=>(Keeps.setCell w (M:=λ b=>b=g) rfl v).trans (setCells_keeps r (o+1) _) (λ _ _ h=>h)
section
variable {P:Program} {S T:Nat->Prop} {w:World}
theorem SlG.src {size:Nat} {y:Value} {m:Nat} {news:List Value} {tx e':TypeId} (h:SlG w T size y m news) (hk:P.underlying tx=some (.slice e')) (h1:∀ u ∈ news,u.oneCell'=true):Src P size tx y m news w:=by
 obtain ⟨hl,A,c,rfl,hc,hm,hx⟩:=h
 cases A with
 | some a=>
  refine Src.ofSlice w hk a m c news hl (λ j u hj=>?_) h1
  obtain ⟨ad,e,_,hcell⟩:=hx (by intro e;subst e;simp at hj)
  cases e
  exact hcell j u hj
 | none=>
  have hn:news=[]:=by
   rcases hnn:news with _|⟨x,l⟩
   ·rfl
   ·obtain ⟨ad,e,_⟩:=hx (by rw [hnn];simp)
    cases e
  subst hn
  refine ⟨.inl ⟨e',hk⟩,λ _=>rfl,?_,?_,hl,h1⟩
  ·exact run_firstCells_none w size m m c
  ·exact run_firstCells_none w.drew size m m c
theorem run_append {t ty e:TypeId} {i:TypeInfo} {z:Value} {size bytes:Nat} (ht:P.underlying t=some (.slice e)) (hi:P.info? e=some i) (hz:i.zero=some z)
  (hsize:i.size=size) (hby:i.bytes=bytes) (hzs:z.cells.size=size) (hsz:0 < size)
  {v y:Value} {n m:Nat} {xs news:List Value} (h:Own w S e size v n xs) (hy:SlG w T size y m news) (h1:∀ u ∈ news,u.oneCell'=true)
  (h63:n+m<=maxLen) (hbytes:(n+m)*bytes<=200000000000000) (hbb:bytes<=65536:=by decide) :
  ∃ v' w',(Builtin.append_ #[t,t] ty #[v,y]).run P w=.ok v' w'/\Own w' (λ b=>v.ownBlock=some b\/(w.heap.size<=b/\b < w'.heap.size)) e size v' (n+m) (xs++news)/\
   Keeps (λ b=>v.ownBlock=some b) w w'/\(v'=.slice none 0 0 ↔ v=.slice none 0 0/\m=0):=by
 subst hsize
 subst hby
 have hsrc:Src P i.size t y m news w:=hy.src ht h1
 have h63':n+m<=9223372036854775807:=h63
 obtain ⟨hx,A,c,rfl,hnc,hcm,hA⟩:=h
 have hlen:(xs++news).length=(n+m)*i.size:=by rw [List.length_append,hx,hsrc.newsLen,Nat.add_mul]
 by_cases hroom:n+m<=c
 ·rcases hA with ⟨rfl,rfl⟩|⟨g,o,cur,rfl,hs,hb,hoc,hcur⟩
  ·obtain ⟨rfl,rfl⟩:n=0/\m=0:=by omega
   have hn:news=[]:=List.eq_nil_of_length_eq_zero (by simpa using hsrc.newsLen)
   have hxx:xs=[]:=List.eq_nil_of_length_eq_zero (by simpa using hx)
   subst hn hxx
   exact ⟨_,_,run_append_nothing w t t ty e i ht hi none 0 0 (Nat.le_refl _) y hsrc,Own.nil _ _ _ _,Keeps.refl _ _,by simp⟩
  ·have hfit:o+n*i.size+news.length<=cur.size:=by
    have:(n+m)*i.size<=c*i.size:=Nat.mul_le_mul_right _ hroom
    rw [hsrc.newsLen];rw [Nat.add_mul] at this;omega
   have hr:=run_append_room_src (P:=P) w t t ty e i ht hi g o n c y m news hsrc hroom
    (λ j hj=>by rw [hb.cell];rw [Array.getElem?_eq_getElem (by omega)];rfl) (λ j _=>hb.frozen _)
   obtain ⟨cur',h1',h2',h3',h4'⟩:=setCells_blk news (o+n*i.size) w cur hb
   refine ⟨_,_,hr,⟨hlen,_,_,rfl,hroom,hcm,.inr ⟨g,o,cur',rfl,.inl rfl,h1',by omega,λ j x hj=>?_⟩⟩,(setCells_keeps news _ w).mono (λ b _ e=>by subst e;rfl),by simp⟩
   rw [List.getElem?_append] at hj
   split at hj
   ·rename_i hlt
    rw [h4' (o+j) (.inl (by omega))]
    exact hcur j x hj
   ·rename_i hge
    have hjn:j-xs.length < news.length:=(List.getElem?_eq_some_iff.1 hj).1
    have:=h3' (j-xs.length) x hj (by omega)
    rw [show o+j=o+n*i.size+(j-xs.length) by omega]
    exact this
 ·have hfc:(Builtin.firstCells i.size n (.slice A n c)).run P w.drew=.ok xs.toArray w.drew:=by
   rcases hA with ⟨rfl,rfl⟩|⟨g,o,cur,rfl,hs,hb,hoc,hcur⟩
   ·obtain rfl:n=0:=by omega
    have hxx:xs=[]:=List.eq_nil_of_length_eq_zero (by simpa using hx)
    subst hxx
    exact run_firstCells_none w.drew i.size 0 0 0
   ·exact run_firstCells_some w.drew i.size n ⟨g,o,none⟩ n c xs hx (λ j u hj=>by rw [add_lit];show w.cell? _=_;rw [hb.cell];exact hcur j u hj)
  have hr:=run_append_grow_src (P:=P) w t t ty e i z ht hi hz A n c xs hfc y m news hsrc (by omega) (by omega) (growslice_fits_wide (by omega) (by
   have h4:(n+m) / 4*i.bytes*4<=(n+m)*i.bytes:=by
    rw [Nat.mul_right_comm]
    exact Nat.mul_le_mul_right _ (by omega)
   rw [Nat.add_mul,Nat.add_mul]
   omega))
  have hge:=grownCap_ge w (n+m) c e
  have hcm':grownCap w (n+m) c e<=maxLen:=grownCap_le_maxLen w (n+m) c e h63
  refine ⟨_,_,hr,?_,(Keeps.drew _ w).alloc' _,?_⟩
  ·refine Own.made (S:=λ b=>(Value.slice A n c).ownBlock=some b\/(w.heap.size<=b/\b < (w.drew.alloc (.cells ((xs++news).toArray++Builtin.zeroCells z.cells (grownCap w (n+m) c e-(n+m))) e)).heap.size)) w.drew _ (n+m) (grownCap w (n+m) c e) (.inr ⟨Nat.le_refl _,by simp⟩) hge hcm' ?_ ?_
   ·simp only [Array.size_append,List.size_toArray,size_zeroCells,hzs,hlen,<-Nat.add_mul]
    congr 1
    omega
   ·rw [Array.toList_append,<-hlen]
    exact List.take_left' rfl
  ·simp only [Value.slice.injEq,reduceCtorEq,false_and,false_iff]
   rintro ⟨⟨rfl,rfl,rfl⟩,rfl⟩
   omega
theorem wpList_app {ops:Array Oper} {rest:List Oper} {o:Oper} {a:Act} {Q:Exit->Act->World->Prop} (hgd:o.guard=none) (s x:Operand) (t:TypeId)
  (ho:o.op=.call {callee:=.builtin .append,args:=#[s,x],argTypes:=#[t,t]})
  {e:TypeId} {i:TypeInfo} {z:Value} {size bytes:Nat} (ht:P.underlying t=some (.slice e)) (hi:P.info? e=some i) (hz:i.zero=some z)
  (hsize:i.size=size) (hby:i.bytes=bytes) (hzs:z.cells.size=size) (hsz:0 < size)
  {v y:Value} {n m:Nat} {xs news:List Value} (hs:a.eval s=v) (h:Own w S e size v n xs) (hx:a.eval x=y) (hy:SlG w T size y m news) (h1:∀ u ∈ news,u.oneCell'=true)
  (h63:n+m<=maxLen) (hbytes:(n+m)*bytes<=200000000000000)
  (hK:∀ v' w',Own w' (λ b=>v.ownBlock=some b\/(w.heap.size<=b/\b < w'.heap.size)) e size v' (n+m) (xs++news)->Keeps (λ b=>v.ownBlock=some b) w w'->(v'=.slice none 0 0 ↔ v=.slice none 0 0/\m=0)->wpList P ops Q rest (a.put o.dst v') w') (hbb:bytes<=65536:=by decide) :
  wpList P ops Q (o::rest) a w:=by
 obtain ⟨v',w',hr,h2,h3,h4⟩:=run_append (ty:=o.type) ht hi hz hsize hby hzs hsz h hy h1 h63 hbytes hbb
 refine wpList_plain hgd λ K hK'=>?_
 unfold Oper.wp execOp
 simp only [ho,resolve,invoke,builtin,Sem.run_bind,Sem.run_pure,Result.andThen_ok,List.map_toArray,List.map_cons,List.map_nil,hs,hx,hr]
 exact hK' _ _ (hK v' w' h2 h3 h4)
end
end Go.Proofs.Ytjcgphhpaenjkaa
namespace Go.Proofs.Ytjcgphhpaenjkaa
open Go.RowKit
def bV (x:UInt8):Value:=.int .u8 (x.toNat:Int)
def iV (x:Int):Value:=.int .i64 x
def pV (b:Nat):Value:=.pointer (some ⟨b,0,none⟩)
structure Nd where
 lvl:Int
 high:List UInt8
 right:Int
 keys:List (List UInt8)
 vals:List (List UInt8)
 kids:List Int
def Nd.zero:Nd:=⟨0,[],0,[],[],[]⟩
def Byts (w:World) (S:Nat->Prop) (v:Value) (l:List UInt8):Prop:=SlR w S v (l.map bV)
def Ints (w:World) (S:Nat->Prop) (v:Value) (l:List Int):Prop:=SlR w S v (l.map iV)
def Txts (w:World) (S:Nat->Prop) (v:Value) (l:List (List UInt8)):Prop:=
 ∃ vs,SlR w S v vs/\vs.length=l.length/\∀ (i:Nat) u x,vs[i]?=some u->l[i]?=some x->Byts w S u x
structure IsHd (w:World) (S:Nat->Prop) (c0 c1 c2:Value) (n:Nd):Prop where
 lvl:c0=iV n.lvl
 high:Byts w S c1 n.high
 right:c2=iV n.right
structure IsBd (w:World) (S:Nat->Prop) (c3 c4 c5:Value) (n:Nd):Prop where
 keys:Txts w S c3 n.keys
 vals:Txts w S c4 n.vals
 kids:Ints w S c5 n.kids
def IsNd (w:World) (S:Nat->Prop) (c0 c1 c2 c3 c4 c5:Value) (n:Nd):Prop:=IsHd w S c0 c1 c2 n/\IsBd w S c3 c4 c5 n
section
variable {S T M:Nat->Prop} {w w':World} {v:Value}
theorem Byts.keeps {l} (h:Byts w S v l) (k:Keeps M w w') (hd:∀ b,b < w.heap.size->S b->¬M b):Byts w' S v l:=SlR.keeps h k hd
theorem Byts.mono {l} (h:Byts w S v l) (hs:∀ b,b < w.heap.size->S b->T b):Byts w T v l:=SlR.mono h hs
theorem Ints.keeps {l} (h:Ints w S v l) (k:Keeps M w w') (hd:∀ b,b < w.heap.size->S b->¬M b):Ints w' S v l:=SlR.keeps h k hd
theorem Ints.mono {l} (h:Ints w S v l) (hs:∀ b,b < w.heap.size->S b->T b):Ints w T v l:=SlR.mono h hs
theorem Txts.keeps {l} (h:Txts w S v l) (k:Keeps M w w') (hd:∀ b,b < w.heap.size->S b->¬M b):Txts w' S v l:=by
 obtain ⟨vs,h1,h2,h3⟩:=h
 exact ⟨vs,h1.keeps k hd,h2,λ i u x hu hx=>(h3 i u x hu hx).keeps k hd⟩
theorem Txts.mono {l} (h:Txts w S v l) (hs:∀ b,b < w.heap.size->S b->T b):Txts w T v l:=by
 obtain ⟨vs,h1,h2,h3⟩:=h
 exact ⟨vs,h1.mono hs,h2,λ i u x hu hx=>(h3 i u x hu hx).mono hs⟩
theorem IsHd.keeps {a b c n} (h:IsHd w S a b c n) (k:Keeps M w w') (hd:∀ b,b < w.heap.size->S b->¬M b):IsHd w' S a b c n:=⟨h.1,h.2.keeps k hd,h.3⟩
theorem IsHd.mono {a b c n} (h:IsHd w S a b c n) (hs:∀ b,b < w.heap.size->S b->T b):IsHd w T a b c n:=⟨h.1,h.2.mono hs,h.3⟩
theorem IsBd.keeps {a b c n} (h:IsBd w S a b c n) (k:Keeps M w w') (hd:∀ b,b < w.heap.size->S b->¬M b):IsBd w' S a b c n:=⟨h.1.keeps k hd,h.2.keeps k hd,h.3.keeps k hd⟩
theorem IsBd.mono {a b c n} (h:IsBd w S a b c n) (hs:∀ b,b < w.heap.size->S b->T b):IsBd w T a b c n:=⟨h.1.mono hs,h.2.mono hs,h.3.mono hs⟩
theorem IsNd.keeps {a b c d e f n} (h:IsNd w S a b c d e f n) (k:Keeps M w w') (hd:∀ b,b < w.heap.size->S b->¬M b):IsNd w' S a b c d e f n:=⟨h.1.keeps k hd,h.2.keeps k hd⟩
theorem IsNd.mono {a b c d e f n} (h:IsNd w S a b c d e f n) (hs:∀ b,b < w.heap.size->S b->T b):IsNd w T a b c d e f n:=⟨h.1.mono hs,h.2.mono hs⟩
theorem IsNd.zero (w:World) (S:Nat->Prop):IsNd w S (iV 0) (.slice none 0 0) (iV 0) (.slice none 0 0) (.slice none 0 0) (.slice none 0 0) Nd.zero:=
 ⟨⟨rfl,SlR.nil _ _ _ _ (by decide),rfl⟩,⟨[],SlR.nil _ _ _ _ (by decide),rfl,λ i u x h=>by simp at h⟩,⟨[],SlR.nil _ _ _ _ (by decide),rfl,λ i u x h=>by simp at h⟩,SlR.nil _ _ _ _ (by decide)⟩
end
structure Sl where
 word:Nat
 nd:Nd
structure Ar where
 nodes:Nat
 sl:List Sl
 root:Int
def U64 (n:Nat):Prop:=n < 18446744073709551616
def SlotAt (w:World) (D:Nat->Prop) (id:Nat) (s:Sl):Prop:=
 ∃ c0 c1 c2 c3 c4 c5,Blk w id 64 #[.int .u64 s.word,c0,c1,c2,c3,c4,c5]/\IsNd w D c0 c1 c2 c3 c4 c5 s.nd/\U64 s.word
structure ArW (w:World) (M D:Nat->Prop) (p:Nat) (slots:Value) (ids:List Nat) (A:Ar):Prop where
 blk:Blk w p 69 #[iV A.nodes,slots,iV A.root]
 row:Own w M 54 1 slots ids.length (ids.map pV)
 nodup:ids.Nodup
 len:ids.length=A.sl.length
 slot:∀ (i:Nat) id s,ids[i]?=some id->A.sl[i]?=some s->SlotAt w D id s
 mp:M p
 mids:∀ id,id ∈ ids->M id
 apart:∀ b,M b->¬D b
 mlt:∀ b,M b->b < w.heap.size
 dlt:∀ b,D b->b < w.heap.size
 bound:A.sl.length<=A.nodes/\A.nodes<=65536
def ArX (w:World) (M D:Nat->Prop) (p:Nat) (A:Ar):Prop:=∃ slots ids,ArW w M D p slots ids A
section
variable {M N D:Nat->Prop} {w w':World} {p:Nat} {slots:Value} {ids:List Nat} {A:Ar}
theorem SlotAt.keeps {id s} (h:SlotAt w D id s) (k:Keeps N w w') (hi:¬N id) (hd:∀ b,b < w.heap.size->D b->¬N b):SlotAt w' D id s:=by
 obtain ⟨c0,c1,c2,c3,c4,c5,h1,h2,h3⟩:=h
 exact ⟨c0,c1,c2,c3,c4,c5,h1.keeps k hi,h2.keeps k hd,h3⟩
theorem SlotAt.mono {D':Nat->Prop} {id s} (h:SlotAt w D id s) (hd:∀ b,b < w.heap.size->D b->D' b):SlotAt w D' id s:=by
 obtain ⟨c0,c1,c2,c3,c4,c5,h1,h2,h3⟩:=h
 exact ⟨c0,c1,c2,c3,c4,c5,h1,h2.mono hd,h3⟩
theorem ArW.keeps (h:ArW w M D p slots ids A) (k:Keeps N w w') (hm:∀ b,b < w.heap.size->M b->¬N b) (hd:∀ b,b < w.heap.size->D b->¬N b):ArW w' M D p slots ids A where
 blk:=h.blk.keeps k (hm p h.blk.lt h.mp)
 row:=h.row.keeps k hm
 nodup:=h.nodup
 len:=h.len
 slot:=λ i id s hi hs=>by
  have hx:=h.slot i id s hi hs
  have hlt:id < w.heap.size:=by obtain ⟨_,_,_,_,_,_,hb,_⟩:=hx;exact hb.lt
  exact hx.keeps k (hm id hlt (h.mids id (List.mem_of_getElem? hi))) hd
 mp:=h.mp
 mids:=h.mids
 apart:=h.apart
 mlt:=λ b hb=>Nat.lt_of_lt_of_le (h.mlt b hb) k.size
 dlt:=λ b hb=>Nat.lt_of_lt_of_le (h.dlt b hb) k.size
 bound:=h.bound
theorem ArW.form (h:ArW w M D p slots ids A) (hp:0 < ids.length):∃ g o c,slots=.slice (some ⟨g,o,none⟩) ids.length c/\M g/\∀ (i:Nat) id,ids[i]?=some id->w.cell? ⟨g,o+i,none⟩=some (pV id):=by
 obtain ⟨hl,a,c,rfl,h1,h2,h3⟩:=h.row
 rcases h3 with ⟨rfl,rfl⟩|⟨g,o,cur,rfl,hm,hb,_,hc⟩
 ·omega
 ·exact ⟨g,o,c,rfl,hm,λ i id hi=>by rw [hb.cell];exact hc i _ (by rw [List.getElem?_map,hi];rfl)⟩
end
end Go.Proofs.Ytjcgphhpaenjkaa
namespace Go.Proofs.Ytjcgphhpaenjkaa
open Go.RowKit
def Sm (k bytes n:Nat):Prop:=n*bytes+k<=200000000000000
theorem Sm.mono {k k' b n:Nat} (h:Sm k b n) (hk:k'<=k):Sm k' b n:=by unfold Sm at *;omega
def TxSm (k:Nat) (l:List (List UInt8)):Prop:=Sm k 24 l.length/\∀ x,x ∈ l->Sm k 1 x.length
def NdSm (k:Nat) (n:Nd):Prop:=Sm k 1 n.high.length/\TxSm k n.keys/\TxSm k n.vals/\Sm k 8 n.kids.length
theorem TxSm.mono {k k':Nat} {l} (h:TxSm k l) (hk:k'<=k):TxSm k' l:=⟨h.1.mono hk,λ x hx=>(h.2 x hx).mono hk⟩
theorem NdSm.mono {k k':Nat} {n} (h:NdSm k n) (hk:k'<=k):NdSm k' n:=⟨h.1.mono hk,h.2.1.mono hk,h.2.2.1.mono hk,h.2.2.2.mono hk⟩
def Fresh (w w':World):Nat->Prop:=λ b=>w.heap.size<=b/\b < w'.heap.size
def OBy (w:World) (S:Nat->Prop) (v:Value) (l:List UInt8):Prop:=Own w S 5 1 v l.length (l.map bV)
def OIn (w:World) (S:Nat->Prop) (v:Value) (l:List Int):Prop:=Own w S 3 1 v l.length (l.map iV)
def OTx (w:World) (S:Nat->Prop) (v:Value) (l:List (List UInt8)):Prop:=
 ∃ vs,Own w S 34 1 v l.length vs/\vs.length=l.length/\∀ (i:Nat) u x,vs[i]?=some u->l[i]?=some x->OBy w S u x
structure OHd (w:World) (S:Nat->Prop) (c0 c1 c2:Value) (n:Nd):Prop where
 lvl:c0=iV n.lvl
 high:OBy w S c1 n.high
 right:c2=iV n.right
structure OBd (w:World) (S:Nat->Prop) (c3 c4 c5:Value) (n:Nd):Prop where
 keys:OTx w S c3 n.keys
 vals:OTx w S c4 n.vals
 kids:OIn w S c5 n.kids
def ONd (w:World) (S:Nat->Prop) (c0 c1 c2 c3 c4 c5:Value) (n:Nd):Prop:=OHd w S c0 c1 c2 n/\OBd w S c3 c4 c5 n
section
variable {S T M:Nat->Prop} {w w':World} {v:Value}
theorem OBy.r {l} (h:OBy w S v l):Byts w S v l:=Own.r h
theorem OIn.r {l} (h:OIn w S v l):Ints w S v l:=Own.r h
theorem OTx.r {l} (h:OTx w S v l):Txts w S v l:=by
 obtain ⟨vs,h1,h2,h3⟩:=h
 exact ⟨vs,h1.r,h2,λ i u x hu hx=>(h3 i u x hu hx).r⟩
theorem OHd.r {a b c n} (h:OHd w S a b c n):IsHd w S a b c n:=⟨h.1,h.2.r,h.3⟩
theorem OBd.r {a b c n} (h:OBd w S a b c n):IsBd w S a b c n:=⟨h.1.r,h.2.r,h.3.r⟩
theorem ONd.r {a b c d e f n} (h:ONd w S a b c d e f n):IsNd w S a b c d e f n:=⟨h.1.r,h.2.r⟩
theorem OBy.keeps {l} (h:OBy w S v l) (k:Keeps M w w') (hd:∀ b,b < w.heap.size->S b->¬M b):OBy w' S v l:=Own.keeps h k hd
theorem OBy.mono {l} (h:OBy w S v l) (hs:∀ b,b < w.heap.size->S b->T b):OBy w T v l:=Own.mono h hs
theorem OIn.keeps {l} (h:OIn w S v l) (k:Keeps M w w') (hd:∀ b,b < w.heap.size->S b->¬M b):OIn w' S v l:=Own.keeps h k hd
theorem OIn.mono {l} (h:OIn w S v l) (hs:∀ b,b < w.heap.size->S b->T b):OIn w T v l:=Own.mono h hs
theorem OTx.keeps {l} (h:OTx w S v l) (k:Keeps M w w') (hd:∀ b,b < w.heap.size->S b->¬M b):OTx w' S v l:=by
 obtain ⟨vs,h1,h2,h3⟩:=h
 exact ⟨vs,h1.keeps k hd,h2,λ i u x hu hx=>(h3 i u x hu hx).keeps k hd⟩
theorem OTx.mono {l} (h:OTx w S v l) (hs:∀ b,b < w.heap.size->S b->T b):OTx w T v l:=by
 obtain ⟨vs,h1,h2,h3⟩:=h
 exact ⟨vs,h1.mono hs,h2,λ i u x hu hx=>(h3 i u x hu hx).mono hs⟩
theorem OHd.keeps {a b c n} (h:OHd w S a b c n) (k:Keeps M w w') (hd:∀ b,b < w.heap.size->S b->¬M b):OHd w' S a b c n:=⟨h.1,h.2.keeps k hd,h.3⟩
theorem OHd.mono {a b c n} (h:OHd w S a b c n) (hs:∀ b,b < w.heap.size->S b->T b):OHd w T a b c n:=⟨h.1,h.2.mono hs,h.3⟩
theorem OBd.keeps {a b c n} (h:OBd w S a b c n) (k:Keeps M w w') (hd:∀ b,b < w.heap.size->S b->¬M b):OBd w' S a b c n:=⟨h.1.keeps k hd,h.2.keeps k hd,h.3.keeps k hd⟩
theorem OBd.mono {a b c n} (h:OBd w S a b c n) (hs:∀ b,b < w.heap.size->S b->T b):OBd w T a b c n:=⟨h.1.mono hs,h.2.mono hs,h.3.mono hs⟩
theorem ONd.keeps {a b c d e f n} (h:ONd w S a b c d e f n) (k:Keeps M w w') (hd:∀ b,b < w.heap.size->S b->¬M b):ONd w' S a b c d e f n:=⟨h.1.keeps k hd,h.2.keeps k hd⟩
theorem ONd.mono {a b c d e f n} (h:ONd w S a b c d e f n) (hs:∀ b,b < w.heap.size->S b->T b):ONd w T a b c d e f n:=⟨h.1.mono hs,h.2.mono hs⟩
def Apart (t:TypeId):Prop:=t≠5/\t≠34/\t≠3
theorem OBy.keepsB {l} {g:Nat} {t:TypeId} {cs:Array Value} (h:OBy w S v l) (hg:Blk w g t cs) (ht:Apart t) (k:Keeps (λ b=>b=g) w w'):OBy w' S v l:=Own.keepsB h hg (Ne.symm ht.1) k
theorem OIn.keepsB {l} {g:Nat} {t:TypeId} {cs:Array Value} (h:OIn w S v l) (hg:Blk w g t cs) (ht:Apart t) (k:Keeps (λ b=>b=g) w w'):OIn w' S v l:=Own.keepsB h hg (Ne.symm ht.2.2) k
theorem OTx.keepsB {l} {g:Nat} {t:TypeId} {cs:Array Value} (h:OTx w S v l) (hg:Blk w g t cs) (ht:Apart t) (k:Keeps (λ b=>b=g) w w'):OTx w' S v l:=by
 obtain ⟨vs,h1,h2,h3⟩:=h
 exact ⟨vs,Own.keepsB h1 hg (Ne.symm ht.2.1) k,h2,λ i u x hu hx=>(h3 i u x hu hx).keepsB hg ht k⟩
theorem OBy.nil (w:World) (S:Nat->Prop):OBy w S (.slice none 0 0) []:=Own.nil _ _ _ _
theorem OIn.nil (w:World) (S:Nat->Prop):OIn w S (.slice none 0 0) []:=Own.nil _ _ _ _
theorem OTx.nil (w:World) (S:Nat->Prop):OTx w S (.slice none 0 0) []:=⟨[],Own.nil _ _ _ _,rfl,λ i u x h=>by simp at h⟩
theorem ONd.zero (w:World) (S:Nat->Prop):ONd w S (iV 0) (.slice none 0 0) (iV 0) (.slice none 0 0) (.slice none 0 0) (.slice none 0 0) Nd.zero:=
 ⟨⟨rfl,OBy.nil _ _,rfl⟩,OTx.nil _ _,OTx.nil _ _,OIn.nil _ _⟩
theorem OTx.form {l} (h:OTx w S v l):∃ A c,v=.slice A l.length c:=by
 obtain ⟨vs,h1,_,_⟩:=h;exact Own.form h1
theorem SlR.form {xs} (h:SlR w S v xs):∃ A c,v=.slice A xs.length c/\xs.length<=c/\c<=maxLen:=by
 obtain ⟨A,c,e,h1,h2,_⟩:=h;exact ⟨A,c,e,h1,h2⟩
theorem Byts.form {l} (h:Byts w S v l):∃ A c,v=.slice A l.length c/\l.length<=c/\c<=maxLen:=by
 have:=SlR.form h;rwa [List.length_map] at this
theorem Ints.form {l} (h:Ints w S v l):∃ A c,v=.slice A l.length c/\l.length<=c/\c<=maxLen:=by
 have:=SlR.form h;rwa [List.length_map] at this
theorem Txts.form {l} (h:Txts w S v l):∃ A c,v=.slice A l.length c/\l.length<=c/\c<=maxLen:=by
 obtain ⟨vs,h1,h2,_⟩:=h;have:=SlR.form h1;rwa [h2] at this
theorem SlR.cells {A n c xs} (h:SlR w S (.slice A n c) xs) {i:Nat} (hi:i < xs.length):∃ ad,A=some ad/\S ad.block/\∀ (i:Nat) x,xs[i]?=some x->w.cell? (ad.add i)=some x:=by
 obtain ⟨A',c',e,_,_,h⟩:=h
 injection e with e1 e2 e3
 subst e1
 exact h (by intro e;subst e;simp at hi)
theorem Byts.cells {A n c l} (h:Byts w S (.slice A n c) l) {i:Nat} (hi:i < l.length):∃ ad,A=some ad/\S ad.block/\∀ (i:Nat) x,l[i]?=some x->w.cell? (ad.add i)=some (bV x):=by
 obtain ⟨ad,e,hs,hc⟩:=SlR.cells h (i:=i) (by simpa using hi)
 exact ⟨ad,e,hs,λ i x hx=>hc i _ (by rw [List.getElem?_map,hx];rfl)⟩
theorem Ints.cells {A n c l} (h:Ints w S (.slice A n c) l) {i:Nat} (hi:i < l.length):∃ ad,A=some ad/\S ad.block/\∀ (i:Nat) x,l[i]?=some x->w.cell? (ad.add i)=some (iV x):=by
 obtain ⟨ad,e,hs,hc⟩:=SlR.cells h (i:=i) (by simpa using hi)
 exact ⟨ad,e,hs,λ i x hx=>hc i _ (by rw [List.getElem?_map,hx];rfl)⟩
theorem Txts.cells {A n c l} (h:Txts w S (.slice A n c) l) {i:Nat} (hi:i < l.length):∃ ad,A=some ad/\S ad.block/\∀ (i:Nat) x,l[i]?=some x->∃ u,w.cell? (ad.add i)=some u/\Byts w S u x:=by
 obtain ⟨vs,h1,h2,h3⟩:=h
 obtain ⟨ad,e,hs,hc⟩:=SlR.cells h1 (i:=i) (by rw [h2];exact hi)
 refine ⟨ad,e,hs,λ i x hx=>?_⟩
 have hlt:i < vs.length:=by rw [h2];exact (List.getElem?_eq_some_iff.1 hx).1
 exact ⟨vs[i],hc i _ (List.getElem?_eq_getElem hlt),h3 i _ x (List.getElem?_eq_getElem hlt) hx⟩
end
class Kn (p:World->Prop):Prop where
 k:∀ {w w':World},Keeps Nob w w'->p w->p w'
class Kb (p:World->Prop):Prop where
 k:∀ {w w':World} {g:Nat} {t:TypeId} {cs:Array Value},Blk w g t cs->Apart t->Keeps (λ b=>b=g) w w'->p w->p w'
class Ko (n:outParam Nat) (p:World->Prop):Prop where
 k:∀ {w w':World} {M:Nat->Prop},Keeps M w w'->(∀ b,b < n->¬M b)->p w->p w'
section
variable {S:Nat->Prop} {v c0 c1 c2 c3 c4 c5:Value} {n:Nd} {e:TypeId} {i j g:Nat} {t:TypeId} {cs:Array Value} {xs:List Value}
instance:Kn (λ w=>Blk w g t cs):=⟨λ k h=>Blk.keeps h k id⟩
instance {l}:Kn (λ w=>Byts w S v l):=⟨λ k h=>Byts.keeps h k (λ _ _ _=>id)⟩
instance {l}:Kn (λ w=>Ints w S v l):=⟨λ k h=>Ints.keeps h k (λ _ _ _=>id)⟩
instance {l}:Kn (λ w=>Txts w S v l):=⟨λ k h=>Txts.keeps h k (λ _ _ _=>id)⟩
instance {l}:Kn (λ w=>OBy w S v l):=⟨λ k h=>OBy.keeps h k (λ _ _ _=>id)⟩
instance {l}:Kn (λ w=>OIn w S v l):=⟨λ k h=>OIn.keeps h k (λ _ _ _=>id)⟩
instance {l}:Kn (λ w=>OTx w S v l):=⟨λ k h=>OTx.keeps h k (λ _ _ _=>id)⟩
instance:Kn (λ w=>Own w S e i v j xs):=⟨λ k h=>Own.keeps h k (λ _ _ _=>id)⟩
instance:Kn (λ w=>SlR w S v xs):=⟨λ k h=>SlR.keeps h k (λ _ _ _=>id)⟩
instance:Kn (λ w=>SlG w S i v j xs):=⟨λ k h=>SlG.keeps h k (λ _ _ _=>id)⟩
instance:Kn (λ w=>IsHd w S c0 c1 c2 n):=⟨λ k h=>IsHd.keeps h k (λ _ _ _=>id)⟩
instance:Kn (λ w=>IsBd w S c3 c4 c5 n):=⟨λ k h=>IsBd.keeps h k (λ _ _ _=>id)⟩
instance:Kn (λ w=>IsNd w S c0 c1 c2 c3 c4 c5 n):=⟨λ k h=>IsNd.keeps h k (λ _ _ _=>id)⟩
instance:Kn (λ w=>ONd w S c0 c1 c2 c3 c4 c5 n):=⟨λ k h=>ONd.keeps h k (λ _ _ _=>id)⟩
instance:Kn (λ w=>OHd w S c0 c1 c2 n):=⟨λ k h=>OHd.keeps h k (λ _ _ _=>id)⟩
instance:Kn (λ w=>OBd w S c3 c4 c5 n):=⟨λ k h=>OBd.keeps h k (λ _ _ _=>id)⟩
instance {l}:Kb (λ w=>OBy w S v l):=⟨λ b a k h=>h.keepsB b a k⟩
instance {l}:Kb (λ w=>OIn w S v l):=⟨λ b a k h=>h.keepsB b a k⟩
instance {l}:Kb (λ w=>OTx w S v l):=⟨λ b a k h=>h.keepsB b a k⟩
instance {l}:Ko i (λ w=>Byts w (λ b=>b < i) v l):=⟨λ k m h=>h.keeps k (λ b _ hb=>m b hb)⟩
instance {l}:Ko i (λ w=>Ints w (λ b=>b < i) v l):=⟨λ k m h=>h.keeps k (λ b _ hb=>m b hb)⟩
instance {l}:Ko i (λ w=>Txts w (λ b=>b < i) v l):=⟨λ k m h=>h.keeps k (λ b _ hb=>m b hb)⟩
instance:Ko i (λ w=>IsNd w (λ b=>b < i) c0 c1 c2 c3 c4 c5 n):=⟨λ k m h=>h.keeps k (λ b _ hb=>m b hb)⟩
end
section
variable {w w':World} {g b n:Nat} {t:TypeId} {cs:Array Value} {p:World->Prop}
end
theorem tq_ {S:Nat->Prop} {a b c:World} (K:Hid (Keeps S a b)) (hk:Keeps S b c):Hid (Keeps S a c):=Lib.hid (K.out.trans hk (λ _ _ h=>h))
theorem tr_ {S:Nat->Prop} {a b c:World} (K:Hid (Keeps S a b)) (hk:Keeps Nob b c):Hid (Keeps S a c):=Lib.hid (K.out.trans hk (λ _ _ h=>h.elim))
end Go.Proofs.Ytjcgphhpaenjkaa

/- A region that draws its order: operations that yield the same wherever S holds are taken first; S is asked behind each step but the last one, z, which waits for all others. (OrdersHeld's law, with that one way out.) No program in sight. -/
import Derived.OrdersHeld
import Derived.RegionTactic
import Derived.Below
import Derived.Test.YtdefcbfofonabaaGreatBools
import Derived.Maps.AppendAt
namespace Go.Proofs.YtdefcbfofonabaaGreat
set_option linter.unusedVariables false
set_option linter.unusedSimpArgs false
section
variable {P:Program} {ops:Array Oper} {Q:Exit→Act→World→Prop} {S:World→Prop} {md:Region.Mode} {z:Nat}
def waitsAll (md:Region.Mode) (ops:Array Oper) (z:Nat):Bool:=(List.range ops.size).all fun i=>i == z || ((ops[z]?).map (·.after.any fun e=>Region.binds md e && e.on == i)).getD true
theorem waitsAll_at (h:waitsAll md ops z=true) {i:Nat} {oi oz:Oper} (hi:ops[i]?=some oi) (hz:ops[z]?=some oz) (hne:i≠z):∃ e ∈ oz.after,Region.binds md e=true∧e.on=i:=by
 unfold waitsAll at h;have hlt:i<ops.size:=(Array.getElem?_eq_some_iff.1 hi).1;have h1:=List.all_eq_true.1 h i (List.mem_range.2 hlt);rw [hz] at h1;simp only [Option.map_some,Option.getD_some,Bool.or_eq_true,beq_iff_eq] at h1;rcases h1 with h1 | h1
 · exact absurd h1 hne
 · rw [Array.any_eq_true'] at h1
   obtain ⟨e,he,h2⟩:=h1;simp only [Bool.and_eq_true,beq_iff_eq] at h2;exact ⟨e,he,h2.1,h2.2⟩
def wpAnyE (P:Program) (md:Region.Mode) (ops:Array Oper) (Q:Exit→Act→World→Prop) (S:World→Prop) (z:Nat):Nat→Array Bool→Act→World→Prop
 | 0,listed,a,w=>Region.ready md ops listed=[]∧Q .normal a w
 | fuel+1,listed,a,w=>(Region.ready md ops listed=[]→Q .normal a w) ∧
   ∀ i ∈ Region.ready md ops listed,wpOp P ops Q i (fun a' w'=>(i=z∨S w')∧wpAnyE P md ops Q S z fuel (listed.setIfInBounds i true) a' w') a w
theorem wpAny_of_E:∀ (fuel:Nat) (listed:Array Bool) (a:Act) (w:World),wpAnyE P md ops Q S z fuel listed a w→wpAny P md ops Q fuel listed a w
 | 0,_,_,_,h=>h
 | fuel+1,_,_,_,h=>⟨h.1,fun i hi=>wpOp_mono (fun a' w' h'=>wpAny_of_E fuel _ a' w' h'.2) (h.2 i hi)⟩
theorem wpAnyE_first {i:Nat} {oi:Oper} {v:Value} (hz:waitsAll md ops z=true) (hi:ops[i]?=some oi) (hsel:∀ (j:Nat) (o:Oper) cs b,ops[j]?=some o→o.op≠.select cs b)
 (hQ:∀ c a w,Q (.panic c) (a.put oi.dst v) w→Q (.panic c) a w) :
 ∀ (fuel:Nat) (listed:Array Bool) (a:Act) (w:World),
   (∀ j oj,ops[j]?=some oj→j≠i→listed.getD j true=false→(∀ e ∈ oj.after,Region.binds md e=true→e.on≠i)→oi.apart ops oj=true) →
   i ∈ Region.ready md ops listed→YieldsIf P ops S oi v a→S w →
   wpAnyE P md ops Q S z fuel (listed.setIfInBounds i true) (a.put oi.dst v) w→wpAnyE P md ops Q S z (fuel+1) listed a w:=by
 intro fuel
 induction fuel with
 | zero =>
   intro listed a w _ hr hy hS H;refine ⟨fun h=>(by rw [h] at hr;cases hr),fun j hj=>?_⟩
   by_cases hji:j=i
   · subst hji;exact hy.wpOp hi hS ⟨.inr hS,H⟩
   · have:=ready_mono hj hji
     rw [H.1] at this
     cases this
 | succ fuel ih =>
   intro listed a w hfree hr hy hS H;refine ⟨fun h=>(by rw [h] at hr;cases hr),fun j hj=>?_⟩
   by_cases hji:j=i
   · subst hji;exact hy.wpOp hi hS ⟨.inr hS,H⟩
   · have h1:=H.2 j (ready_mono hj hji)
     obtain ⟨hjun,oj,hoj,hall⟩:=mem_ready.1 hj
     have hnot:∀ e ∈ oj.after,Region.binds md e=true→e.on≠i:=fun e he hb heq=>by
      have h1:=hall e he hb;have h0:=(mem_ready.1 hr).1;rw [heq] at h1;rcases Nat.lt_or_ge i listed.size with h' | h'
      · simp [h'] at h0 h1;rw [h0] at h1;cases h1
      · simp [Array.getElem?_eq_none h'] at h1
     have hjz:j≠z:=fun e=>by
      subst e;obtain ⟨e,he,hb,ho⟩:=waitsAll_at hz hi hoj (Ne.symm hji);exact hnot e he hb ho
     have h2:=wpOp_putIf hoj (hfree j oj hoj hji hjun hnot) (fun cs b=>hsel i oi cs b hi) (fun cs b=>hsel j oj cs b hoj) hQ hy h1
     have hfree':∀ k ok,ops[k]?=some ok→k≠i→(listed.setIfInBounds j true).getD k true=false →
      (∀ e ∈ ok.after,Region.binds md e=true→e.on≠i)→oi.apart ops ok=true:=fun k ok hk hki hun hno=>by
      refine hfree k ok hk hki ?_ hno
      by_cases hjk:j=k
      · subst hjk;exact hjun
      · rw [getD_set_ne true hjk] at hun;exact hun
     refine wpOp_mono (fun a' w' h3=>?_) h2;have hSw:S w':=h3.2.1.resolve_left hjz;refine ⟨.inr hSw,ih (listed.setIfInBounds j true) a' w' hfree' (ready_mono hr (Ne.symm hji)) h3.1 hSw ?_⟩;rw [Array.setIfInBounds_comm _ _ hji];exact h3.2.2
theorem wpAnyE_take {i:Nat} {oi:Oper} {v:Value} {fuel:Nat} {listed:Array Bool} {a:Act} {w:World} (hz:waitsAll md ops z=true) (hi:ops[i]?=some oi)
 (hs:Region.noSelect ops=true) (hf:Region.free md ops listed i=true) (hr:(Region.ready md ops listed).contains i=true)
 (hQ:∀ c a w,Q (.panic c) (a.put oi.dst v) w→Q (.panic c) a w) (hw:Region.wanted oi (yielded ops a.tmps)=true) (hy:∀ w,S w→(execOp a.eval oi).run P w=.ok (.value v) w) (hS:S w)
 (h:wpAnyE P md ops Q S z fuel (listed.setIfInBounds i true) (a.put oi.dst v) w):wpAnyE P md ops Q S z (fuel+1) listed a w :=
 wpAnyE_first hz hi (Region.noSelect_spec hs) hQ fuel listed a w (Region.free_spec hi hf) (by simpa using hr) (.inl ⟨hw,hy⟩) hS h
theorem wpAnyE_skip {i:Nat} {oi:Oper} {fuel:Nat} {listed:Array Bool} {a:Act} {w:World} (hz:waitsAll md ops z=true) (hi:ops[i]?=some oi)
 (hs:Region.noSelect ops=true) (hf:Region.free md ops listed i=true) (hr:(Region.ready md ops listed).contains i=true)
 (hQ:∀ c a w,Q (.panic c) (a.put oi.dst undef) w→Q (.panic c) a w) (hw:Region.wanted oi (yielded ops a.tmps)=false) (hS:S w)
 (h:wpAnyE P md ops Q S z fuel (listed.setIfInBounds i true) (a.put oi.dst undef) w):wpAnyE P md ops Q S z (fuel+1) listed a w :=
 wpAnyE_first hz hi (Region.noSelect_spec hs) hQ fuel listed a w (Region.free_spec hi hf) (by simpa using hr) (.inr ⟨hw,rfl⟩) hS h
theorem wpAnyE_one {i:Nat} {o:Oper} {fuel:Nat} {listed:Array Bool} {a:Act} {w:World} (hr:Region.ready md ops listed=[i]) (ho:ops[i]?=some o)
 (h:∀ K':Act→World→Prop,(∀ a w,(i=z∨S w)→wpAnyE P md ops Q S z fuel (listed.setIfInBounds i true) a w→K' a w)→if Region.wanted o (yielded ops a.tmps)=true then Oper.wp P o a w K' Q else K' (a.put o.dst undef) w):wpAnyE P md ops Q S z (fuel+1) listed a w:=by
 refine ⟨fun h0=>(by rw [hr] at h0;cases h0),fun j hj=>?_⟩;rw [hr] at hj
 obtain rfl:j=i:=by simpa using hj
 exact wpOp_step ho fun K' hK=>h K' fun a w hS hE=>hK a w ⟨hS,hE⟩
theorem sA {α:Type _} (l:List α) (i:Nat) (a:α):l.toArray.setIfInBounds i a=(l.set i a).toArray:=List.setIfInBounds_toArray l i a
theorem sZ {α:Type _} {x:α} {xs:List α} {a:α}:(x :: xs).set 0 a=a :: xs:=rfl
theorem sS {α:Type _} {x:α} {xs:List α} {i:Nat} {a:α}:(x :: xs).set (i+1) a=x :: xs.set i a:=rfl
theorem tkE (i:Nat) {oi:Oper} {v:Value} {fuel:Nat} {listed:Array Bool} {a:Act} {w:World} (hS:S w)
 (h:wpAnyE P md ops Q S z fuel (listed.setIfInBounds i true) (a.put oi.dst v) w) (hz:waitsAll md ops z=true:=by kernel_rfl)
 (hi:ops[i]?=some oi:=by simp only [List.getElem?_toArray,List.getElem?_cons_succ,List.getElem?_cons_zero]<;>rfl)
 (hs:Region.noSelect ops=true:=by kernel_rfl) (hf:Region.free md ops listed i=true:=by kernel_rfl) (hr:(Region.ready md ops listed).contains i=true:=by kernel_rfl)
 (hQ:∀ c a w,Q (.panic c) (a.put oi.dst v) w→Q (.panic c) a w:=by exact fun _ _ _ h=>h) (hw:Region.wanted oi (yielded ops a.tmps)=true:=by rfl)
 (hy:∀ w,S w→(execOp a.eval oi).run P w=.ok (.value v) w:=by (intro w hSw;(try dsimp only at hSw);go_simp<;>with_reducible rfl)):wpAnyE P md ops Q S z (fuel+1) listed a w :=
 wpAnyE_take hz hi hs hf hr hQ hw hy hS h
theorem onE (i:Nat) {o:Oper} {fuel:Nat} {listed:Array Bool} {a:Act} {w:World}
 (h:∀ K':Act→World→Prop,RowKit.Hid (∀ a w,(i=z∨S w)→wpAnyE P md ops Q S z fuel (listed.setIfInBounds i true) a w→K' a w)→if Region.wanted o (yielded ops a.tmps)=true then Oper.wp P o a w K' Q else K' (a.put o.dst undef) w)
 (hr:Region.ready md ops listed=[i]:=by kernel_rfl) (ho:ops[i]?=some o:=by rfl):wpAnyE P md ops Q S z (fuel+1) listed a w :=
 wpAnyE_one hr ho fun K' hK=>h K' hK
theorem wpAnyE_two {i j:Nat} {oi oj:Oper} {fuel:Nat} {listed:Array Bool} {a:Act} {w:World} (hr:Region.ready md ops listed=[i,j]) (hi:ops[i]?=some oi) (hj:ops[j]?=some oj)
 (h1:∀ K':Act→World→Prop,(∀ a w,(i=z∨S w)→wpAnyE P md ops Q S z fuel (listed.setIfInBounds i true) a w→K' a w)→if Region.wanted oi (yielded ops a.tmps)=true then Oper.wp P oi a w K' Q else K' (a.put oi.dst undef) w)
 (h2:∀ K':Act→World→Prop,(∀ a w,(j=z∨S w)→wpAnyE P md ops Q S z fuel (listed.setIfInBounds j true) a w→K' a w)→if Region.wanted oj (yielded ops a.tmps)=true then Oper.wp P oj a w K' Q else K' (a.put oj.dst undef) w):wpAnyE P md ops Q S z (fuel+1) listed a w:=by
 refine ⟨fun h0=>(by rw [hr] at h0;cases h0),fun k hk=>?_⟩;rw [hr] at hk;simp only [List.mem_cons,List.not_mem_nil,or_false] at hk;rcases hk with rfl | rfl
 · exact wpOp_step hi fun K' hK=>h1 K' fun a w hS hE=>hK a w ⟨hS,hE⟩
 · exact wpOp_step hj fun K' hK=>h2 K' fun a w hS hE=>hK a w ⟨hS,hE⟩
theorem wpAnyE_done {listed:Array Bool} {a:Act} {w:World} (hr:Region.ready md ops listed=[]) (h:Q .normal a w):∀ fuel,wpAnyE P md ops Q S z fuel listed a w
 | 0=>⟨hr,h⟩
 | _+1=>⟨fun _=>h,by rw [hr];simp⟩
theorem wp_region_E {id:Nat} {a:Act} {w:World} (z:Nat) (S:World→Prop) (hm:P.follows .mixedOrders=true)
 (h:wpAnyE P .any ops Q S z ops.size (Array.replicate ops.size false) a w.drew):(Code.region id ops true).wp P Q a w :=
 wp_region_any hm (wpAny_of_E _ _ _ _ h)
end
end Go.Proofs.YtdefcbfofonabaaGreat

namespace Go.Proofs.YtdefcbfofonabaaGreat
open Go.RowKit
set_option linter.unusedVariables false
set_option linter.unusedSimpArgs false
section
variable {P:Program} {ops:Array Oper} {Q:Exit→Act→World→Prop} {S:Bool→World→Prop} {md:Region.Mode} {z s:Nat}
def wpAnyF (P:Program) (md:Region.Mode) (ops:Array Oper) (Q:Exit→Act→World→Prop) (S:Bool→World→Prop) (z s:Nat):Nat→Array Bool→Act→World→Prop
 | 0,listed,a,w=>Region.ready md ops listed=[]∧Q .normal a w
 | fuel+1,listed,a,w=>(Region.ready md ops listed=[]→Q .normal a w) ∧
   ∀ i ∈ Region.ready md ops listed,wpOp P ops Q i (fun a' w'=>(i=z∨S ((listed.setIfInBounds i true).getD s false) w')∧wpAnyF P md ops Q S z s fuel (listed.setIfInBounds i true) a' w') a w
theorem wpAny_of_F:∀ (fuel:Nat) (listed:Array Bool) (a:Act) (w:World),wpAnyF P md ops Q S z s fuel listed a w→wpAny P md ops Q fuel listed a w
 | 0,_,_,_,h=>h
 | fuel+1,_,_,_,h=>⟨h.1,fun i hi=>wpOp_mono (fun a' w' h'=>wpAny_of_F fuel _ a' w' h'.2) (h.2 i hi)⟩
def waitsOne (md:Region.Mode) (ops:Array Oper) (s i:Nat):Bool:=((ops[s]?).map (·.after.any fun e=>Region.binds md e && e.on == i)).getD false
theorem waitsOne_at {i:Nat} (h:waitsOne md ops s i=true):∃ os,ops[s]?=some os∧∃ e ∈ os.after,Region.binds md e=true∧e.on=i:=by
 unfold waitsOne at h
 cases ho:ops[s]? with
 | none=>rw [ho] at h;simp at h
 | some os =>
   rw [ho] at h;simp only [Option.map_some,Option.getD_some] at h;rw [Array.any_eq_true'] at h;obtain ⟨e,he,h2⟩:=h;simp only [Bool.and_eq_true,beq_iff_eq] at h2;exact ⟨os,rfl,e,he,h2.1,h2.2⟩
theorem wpAnyF_first {i:Nat} {oi:Oper} {v:Value} {Sy:World→Prop} (hz:waitsOne md ops z i=true) (hi:ops[i]?=some oi) (hsel:∀ (j:Nat) (o:Oper) cs b,ops[j]?=some o→o.op≠.select cs b)
 (hQ:∀ c a w,Q (.panic c) (a.put oi.dst v) w→Q (.panic c) a w) (his:i≠s)
 (hcase:(∀ b w,S b w→Sy w)∨((∀ w,S false w→Sy w)∧∃ os,ops[s]?=some os∧∃ e ∈ os.after,Region.binds md e=true∧e.on=i)) :
 ∀ (fuel:Nat) (listed:Array Bool) (a:Act) (w:World),((∀ b w,S b w→Sy w)∨listed.getD s false=false) →
   (∀ j oj,ops[j]?=some oj→j≠i→listed.getD j true=false→(∀ e ∈ oj.after,Region.binds md e=true→e.on≠i)→oi.apart ops oj=true) →
   i ∈ Region.ready md ops listed→YieldsIf P ops Sy oi v a→S (listed.getD s false) w →
   wpAnyF P md ops Q S z s fuel (listed.setIfInBounds i true) (a.put oi.dst v) w→wpAnyF P md ops Q S z s (fuel+1) listed a w:=by
 have hsy:∀ (listed:Array Bool) (w:World),((∀ b w,S b w→Sy w)∨listed.getD s false=false)→S (listed.getD s false) w→Sy w:=fun listed w hf hS=>by
  rcases hcase with h | ⟨h,_⟩
  · exact h _ _ hS
  · rcases hf with h' | h'
    · exact h' _ _ hS
    · rw [h'] at hS
      exact h w hS
 intro fuel
 induction fuel with
 | zero =>
   intro listed a w hfl _ hr hy hS H;refine ⟨fun h=>(by rw [h] at hr;cases hr),fun j hj=>?_⟩
   by_cases hji:j=i
   · subst hji
     refine hy.wpOp hi (hsy listed w hfl hS) ⟨.inr ?_,H⟩;rw [getD_set_ne false his];exact hS
   · have:=ready_mono hj hji
     rw [H.1] at this
     cases this
 | succ fuel ih =>
   intro listed a w hfl hfree hr hy hS H;refine ⟨fun h=>(by rw [h] at hr;cases hr),fun j hj=>?_⟩
   by_cases hji:j=i
   · subst hji
     refine hy.wpOp hi (hsy listed w hfl hS) ⟨.inr ?_,H⟩;rw [getD_set_ne false his];exact hS
   · have h1:=H.2 j (ready_mono hj hji)
     obtain ⟨hjun,oj,hoj,hall⟩:=mem_ready.1 hj
     have hnot:∀ e ∈ oj.after,Region.binds md e=true→e.on≠i:=fun e he hb heq=>by
      have h1:=hall e he hb;have h0:=(mem_ready.1 hr).1;rw [heq] at h1;rcases Nat.lt_or_ge i listed.size with h' | h'
      · simp [h'] at h0 h1;rw [h0] at h1;cases h1
      · simp [Array.getElem?_eq_none h'] at h1
     have hjz:j≠z:=fun e=>by
      subst e;obtain ⟨oz,hoz,e,he,hb,ho⟩:=waitsOne_at hz;rw [hoj] at hoz
      injection hoz with hoz
      subst hoz;exact hnot e he hb ho
     have hfl':(∀ b w,S b w→Sy w)∨(listed.setIfInBounds j true).getD s false=false:=by
      rcases hcase with h | ⟨_,os,hos,e,he,hb,ho⟩
      · exact .inl h
      · rcases hfl with h | h
        · exact .inl h
        · have hjs:j≠s:=fun e'=>by
           subst e';rw [hos] at hoj
           injection hoj with hoj
           subst hoj;exact hnot e he hb ho
          refine .inr ?_;rw [getD_set_ne false hjs];exact h
     have h2:=wpOp_putIf hoj (hfree j oj hoj hji hjun hnot) (fun cs b=>hsel i oi cs b hi) (fun cs b=>hsel j oj cs b hoj) hQ hy h1
     have hfree':∀ k ok,ops[k]?=some ok→k≠i→(listed.setIfInBounds j true).getD k true=false →
      (∀ e ∈ ok.after,Region.binds md e=true→e.on≠i)→oi.apart ops ok=true:=fun k ok hk hki hun hno=>by
      refine hfree k ok hk hki ?_ hno
      by_cases hjk:j=k
      · subst hjk;exact hjun
      · rw [getD_set_ne true hjk] at hun;exact hun
     refine wpOp_mono (fun a' w' h3=>?_) h2
     have hSw:S ((listed.setIfInBounds j true).getD s false) w':=by
      have:=h3.2.1.resolve_left hjz;rw [Array.setIfInBounds_comm _ _ (Ne.symm hji),getD_set_ne false his] at this;exact this
     refine ⟨.inr hSw,ih (listed.setIfInBounds j true) a' w' hfl' hfree' (ready_mono hr (Ne.symm hji)) h3.1 hSw ?_⟩;rw [Array.setIfInBounds_comm _ _ hji];exact h3.2.2
theorem wpAnyF_take {i:Nat} {oi:Oper} {v:Value} {fuel:Nat} {listed:Array Bool} {a:Act} {w:World} (hz:waitsOne md ops z i=true) (hi:ops[i]?=some oi)
 (hs:Region.noSelect ops=true) (hf:Region.free md ops listed i=true) (hr:(Region.ready md ops listed).contains i=true)
 (hQ:∀ c a w,Q (.panic c) (a.put oi.dst v) w→Q (.panic c) a w) (hw:Region.wanted oi (yielded ops a.tmps)=true) (hy:∀ w,(∃ b,S b w)→(execOp a.eval oi).run P w=.ok (.value v) w) (his:i≠s) (hS:S (listed.getD s false) w)
 (h:wpAnyF P md ops Q S z s fuel (listed.setIfInBounds i true) (a.put oi.dst v) w):wpAnyF P md ops Q S z s (fuel+1) listed a w :=
 wpAnyF_first (Sy:=fun w=>∃ b,S b w) hz hi (Region.noSelect_spec hs) hQ his (.inl fun b w h=>⟨b,h⟩) fuel listed a w (.inl fun b w h=>⟨b,h⟩) (Region.free_spec hi hf) (by simpa using hr) (.inl ⟨hw,hy⟩) hS h
theorem wpAnyF_load {i:Nat} {oi:Oper} {v:Value} {fuel:Nat} {listed:Array Bool} {a:Act} {w:World} (hz:waitsOne md ops z i=true) (hi:ops[i]?=some oi)
 (hs:Region.noSelect ops=true) (hf:Region.free md ops listed i=true) (hr:(Region.ready md ops listed).contains i=true)
 (hQ:∀ c a w,Q (.panic c) (a.put oi.dst v) w→Q (.panic c) a w) (hw:Region.wanted oi (yielded ops a.tmps)=true) (hwt:waitsOne md ops s i=true) (hfl:listed.getD s false=false) (hy:∀ w,S false w→(execOp a.eval oi).run P w=.ok (.value v) w) (his:i≠s) (hS:S false w)
 (h:wpAnyF P md ops Q S z s fuel (listed.setIfInBounds i true) (a.put oi.dst v) w):wpAnyF P md ops Q S z s (fuel+1) listed a w :=
 wpAnyF_first (Sy:=S false) hz hi (Region.noSelect_spec hs) hQ his (.inr ⟨fun w h=>h,waitsOne_at hwt⟩) fuel listed a w (.inr hfl) (Region.free_spec hi hf) (by simpa using hr) (.inl ⟨hw,hy⟩) (by rw [hfl];exact hS) h
theorem wpAnyF_one {i:Nat} {b:Bool} {o:Oper} {fuel:Nat} {listed:Array Bool} {a:Act} {w:World} (hr:Region.ready md ops listed=[i]) (ho:ops[i]?=some o) (hb:(listed.setIfInBounds i true).getD s false=b)
 (h:∀ K':Act→World→Prop,(∀ a w,(i=z∨S b w)→wpAnyF P md ops Q S z s fuel (listed.setIfInBounds i true) a w→K' a w)→if Region.wanted o (yielded ops a.tmps)=true then Oper.wp P o a w K' Q else K' (a.put o.dst undef) w):wpAnyF P md ops Q S z s (fuel+1) listed a w:=by
 refine ⟨fun h0=>(by rw [hr] at h0;cases h0),fun j hj=>?_⟩;rw [hr] at hj
 obtain rfl:j=i:=by simpa using hj
 exact wpOp_step ho fun K' hK=>h K' fun a w hS hE=>hK a w ⟨by rw [hb];exact hS,hE⟩
theorem tkF (i:Nat) {oi:Oper} (v:Value) {fuel:Nat} {listed:Array Bool} {a:Act} {w:World} (hy:∀ w,(∃ b,S b w)→(execOp a.eval oi).run P w=.ok (.value v) w) (hS:S (listed.getD s false) w)
 (h:wpAnyF P md ops Q S z s fuel (listed.setIfInBounds i true) (a.put oi.dst v) w) (hz:waitsOne md ops z i=true:=by kernel_rfl)
 (hi:ops[i]?=some oi:=by simp only [List.getElem?_toArray,List.getElem?_cons_succ,List.getElem?_cons_zero]<;>rfl)
 (hs:Region.noSelect ops=true:=by kernel_rfl) (hf:Region.free md ops listed i=true:=by kernel_rfl) (hr:(Region.ready md ops listed).contains i=true:=by kernel_rfl)
 (hQ:∀ c a w,Q (.panic c) (a.put oi.dst v) w→Q (.panic c) a w:=by exact fun _ _ _ h=>h) (hw:Region.wanted oi (yielded ops a.tmps)=true:=by rfl) (his:i≠s:=by decide):wpAnyF P md ops Q S z s (fuel+1) listed a w :=
 wpAnyF_take hz hi hs hf hr hQ hw hy his hS h
theorem wpAnyF_two {i j:Nat} {oi oj:Oper} {fuel:Nat} {listed:Array Bool} {a:Act} {w:World} (hr:Region.ready md ops listed=[i,j]) (hi:ops[i]?=some oi) (hj:ops[j]?=some oj) (hbi:(listed.setIfInBounds i true).getD s false=false) (hbj:(listed.setIfInBounds j true).getD s false=false)
 (h1:∀ K':Act→World→Prop,(∀ a w,(i=z∨S false w)→wpAnyF P md ops Q S z s fuel (listed.setIfInBounds i true) a w→K' a w)→if Region.wanted oi (yielded ops a.tmps)=true then Oper.wp P oi a w K' Q else K' (a.put oi.dst undef) w)
 (h2:∀ K':Act→World→Prop,(∀ a w,(j=z∨S false w)→wpAnyF P md ops Q S z s fuel (listed.setIfInBounds j true) a w→K' a w)→if Region.wanted oj (yielded ops a.tmps)=true then Oper.wp P oj a w K' Q else K' (a.put oj.dst undef) w):wpAnyF P md ops Q S z s (fuel+1) listed a w:=by
 refine ⟨fun h0=>(by rw [hr] at h0;cases h0),fun k hk=>?_⟩;rw [hr] at hk;simp only [List.mem_cons,List.not_mem_nil,or_false] at hk;rcases hk with rfl | rfl
 · exact wpOp_step hi fun K' hK=>h1 K' fun a w hS hE=>hK a w ⟨by rw [hbi];exact hS,hE⟩
 · exact wpOp_step hj fun K' hK=>h2 K' fun a w hS hE=>hK a w ⟨by rw [hbj];exact hS,hE⟩
theorem wpAnyF_done {listed:Array Bool} {a:Act} {w:World} (hr:Region.ready md ops listed=[]) (h:Q .normal a w):∀ fuel,wpAnyF P md ops Q S z s fuel listed a w
 | 0=>⟨hr,h⟩
 | _+1=>⟨fun _=>h,by rw [hr];simp⟩
theorem wp_region_F {id:Nat} {a:Act} {w:World} (z s:Nat) (S:Bool→World→Prop) (hm:P.follows .mixedOrders=true)
 (h:wpAnyF P .any ops Q S z s ops.size (Array.replicate ops.size false) a w.drew):(Code.region id ops true).wp P Q a w :=
 wp_region_any hm (wpAny_of_F _ _ _ _ h)
theorem stepRn {P:Program} (B:Nat) (w:World) (size:Nat) (E:TypeId) {ops:Array Oper} {o:Oper} {a:Act} {K:Act→World→Prop} {Q:Exit→Act→World→Prop} {E':Prop} (hgd:o.guard=none) (s x:Operand) (t:TypeId)
 (ho:o.op=.call { callee:=.builtin .append,args:=#[s,x],argTypes:=#[t,t] })
 (i:TypeInfo) (zv:Value) (bytes:Nat) (ht:P.underlying t=some (.slice E)) (hi:P.info? E=some i) (hz:i.zero=some zv)
 (hsize:i.size=size) (hby:i.bytes=bytes) (hzs:zv.cells.size=size) (hsz:0<size) (hb1:0<bytes)
 (v:Value) (n:Nat) (xs:List Value) (hs:a.eval s=v) (hB:B≤w.heap.size) (hown:w.ownsRow B E size v n xs)
 (ad:Addr) (m c:Nat) (news:List Value) (hx:a.eval x=.slice (some ad) m c) (hrd:Rd w size (some ad) m news) (h1:∀ u ∈ news,u.oneCell'=true) (hbytes:(n+m)*bytes≤140737488355328)
 (h:∀ v' w',w'.ownsRow B E size v' (n+m) (xs ++ news)→Fr (ownS v) w w'→(v'.ownBlock=v.ownBlock∨v'.ownBlock=some w.heap.size)→K (a.put o.dst v') w') :
 if Region.wanted o (yielded ops a.tmps)=true then Oper.wp P o a w K Q else E':=by
 have hw:Region.wanted o (yielded ops a.tmps)=true:=by simp [Region.wanted,hgd]
 rw [if_pos hw];have hm:n+m≤(n+m)*bytes:=Nat.le_mul_of_pos_right _ hb1
 obtain ⟨v',w',hr,h2,h3,_,h4⟩:=run_append_own_at (P:=P) (w:=w) B t o.type E i zv size bytes ht hi hz hsize hby hzs hsz v n xs hown ad m c news hrd.1 (by
  intro j u hu
  have hj:0<m:=by
   have h2:=(List.getElem?_eq_some_iff.1 hu).1;rw [hrd.1] at h2;rcases Nat.eq_zero_or_pos m with h0 | h0
   · subst h0;simp at h2
   · exact h0
  obtain ⟨b,off,e,hc⟩:=hrd.2 hj
  injection e with e
  subst e;rw [addr_add_none]
  exact hc j u hu) h1 (by unfold maxLen;omega) hbytes hB
 unfold Oper.wp execOp;simp only [ho,resolve,invoke,builtin,Sem.run_bind,Sem.run_pure,Result.andThen_ok,List.map_toArray,List.map_cons,List.map_nil,hs,hx,hr];exact h v' w' h2 (Fr.of_grown (S:=ownS v) h3 (fun k hk=>.inl hk)) h4
theorem appRk {P:Program} (B:Nat) (w:World) (size:Nat) (E:TypeId) {ops:Array Oper} {rest:List Oper} {o:Oper} {a:Act} {Q:Exit→Act→World→Prop} (hgd:o.guard=none) (s x:Operand) (t:TypeId)
 (ho:o.op=.call { callee:=.builtin .append,args:=#[s,x],argTypes:=#[t,t] })
 (i:TypeInfo) (zv:Value) (bytes:Nat) (ht:P.underlying t=some (.slice E)) (hi:P.info? E=some i) (hz:i.zero=some zv)
 (hsize:i.size=size) (hby:i.bytes=bytes) (hzs:zv.cells.size=size) (hsz:0<size) (hb1:0<bytes)
 (v:Value) (n:Nat) (xs:List Value) (hs:a.eval s=v) (hB:B≤w.heap.size) (hown:w.ownsRow B E size v n xs)
 (ad:Addr) (m c:Nat) (news:List Value) (hx:a.eval x=.slice (some ad) m c) (hrd:Rd w size (some ad) m news) (h1:∀ u ∈ news,u.oneCell'=true) (hbytes:(n+m)*bytes≤140737488355328)
 (h:∀ v' w',w'.ownsRow B E size v' (n+m) (xs ++ news)→Fr (ownS v) w w'→(v'.ownBlock=v.ownBlock∨v'.ownBlock=some w.heap.size)→wpList P ops Q rest (a.put o.dst v') w') :
 wpList P ops Q (o :: rest) a w:=by
 refine wpList_plain hgd fun K hK=>?_
 have hw:Region.wanted o (yielded ops a.tmps)=true:=by simp [Region.wanted,hgd]
 have h0:=stepRn (P:=P) (ops:=ops) (o:=o) (a:=a) (K:=K) (Q:=Q) (E':=True) B w size E hgd s x t ho i zv bytes ht hi hz hsize hby hzs hsz hb1 v n xs hs hB hown ad m c news hx hrd h1 hbytes (fun v' w' h2 h3 h4=>hK _ _ (h v' w' h2 h3 h4));rw [if_pos hw] at h0;exact h0
theorem rd_of_blk {w:World} {g size:Nat} {cs:Array Value} {t:TypeId} (h:w.heap[g]?=some (.cells cs t (0,0))) (hs:cs.size=size):Rd w size (some ⟨g,0,none⟩) 1 cs.toList:=by
 refine ⟨by simp [hs],fun _=>⟨g,0,rfl,fun j u hu=>?_⟩⟩;rw [Nat.zero_add,cell_of_blk h]
 simpa using hu
end
end Go.Proofs.YtdefcbfofonabaaGreat

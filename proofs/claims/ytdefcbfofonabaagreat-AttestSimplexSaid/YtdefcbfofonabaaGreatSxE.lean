/- Eliminating variables one by one (Fourier and Motzkin). No program in sight. -/
import Derived.Lib.Hide
namespace Go.Proofs.YtdefcbfofonabaaGreat
set_option linter.unusedVariables false
set_option linter.unusedSimpArgs false
structure Bd where
 c:Int→Rat
 k:Rat
 s:Bool
def holdB (y:Rat) (s:Bool):Prop:=if s then y<0 else y≤0
def pairB (a b:Bd) (v:Int):Bd:=⟨fun u => -(b.c v)*a.c u+a.c v*b.c u, -(b.c v)*a.k+a.c v*b.k,a.s || b.s⟩
def elimB (v:Int) (l:List Bd):List Bd :=
 (l.filter fun b=>decide (b.c v=0)) ++ (l.filter fun b=>decide (0<b.c v)).flatMap fun a=>(l.filter fun b=>decide (b.c v<0)).map fun b=>pairB a b v
theorem mem_elimB {v:Int} {l:List Bd} {e:Bd}:e ∈ elimB v l↔(e ∈ l∧e.c v=0)∨∃ a ∈ l,0<a.c v∧∃ b ∈ l,b.c v<0∧e=pairB a b v:=by
 unfold elimB;simp only [List.mem_append,List.mem_filter,decide_eq_true_eq,List.mem_flatMap,List.mem_map]
 constructor
 · rintro (h | ⟨a,⟨h1,h2⟩,b,⟨h3,h4⟩,h5⟩)
   · exact .inl h
   · exact .inr ⟨a,h1,h2,b,h3,h4,h5.symm⟩
 · rintro (h | ⟨a,h1,h2,b,h3,h4,h5⟩)
   · exact .inl h
   · exact .inr ⟨a,⟨h1,h2⟩,b,⟨h3,h4⟩,h5.symm⟩
theorem best {α:Type} (key:α→Rat) (s:α→Bool):∀ l:List α,l≠[]→∃ b ∈ l,∀ x ∈ l,key x<key b∨(key x=key b∧(s x=true→s b=true))
 | [],h=>absurd rfl h
 | [a],_=>⟨a,by simp,fun x hx=>by simp at hx;subst hx;exact .inr ⟨rfl,id⟩⟩
 | a :: c :: r,_=>by
   obtain ⟨b,hb,h⟩:=best key s (c :: r) (by simp)
   by_cases h1:key a<key b∨(key a=key b∧(s a=true→s b=true))
   · refine ⟨b,by simp only [List.mem_cons] at hb ⊢;exact .inr hb,fun x hx=>?_⟩
     rcases List.mem_cons.1 hx with rfl | hx
     · exact h1
     · exact h x hx
   · refine ⟨a,by simp,fun x hx=>?_⟩
     have h2:key b<key a∨(key b=key a∧(s b=true→s a=true)):=by
      by_cases e:key b<key a
      · exact .inl e
      · right
        have h3:key a=key b:=by
         have:¬ key a<key b:=fun h=>h1 (.inl h)
         grind
        refine ⟨h3.symm,fun hs=>?_⟩
        cases ha:s a
        · exact absurd (.inr ⟨h3,fun hh=>by rw [ha] at hh;cases hh⟩) h1
        · rfl
     rcases List.mem_cons.1 hx with rfl | hx
     · exact .inr ⟨rfl,id⟩
     · rcases h x hx with h3 | ⟨h3,h4⟩<;>rcases h2 with h5 | ⟨h5,h6⟩
       · exact .inl (by grind)
       · exact .inl (by grind)
       · exact .inl (by grind)
       · exact .inr ⟨by grind,fun hh=>h6 (h4 hh)⟩
theorem hold_pos {p y:Rat} {s:Bool} (hp:0<p) (h:holdB y s):holdB (p*y) s:=by
 unfold holdB at *
 cases s
 · simp only [Bool.false_eq_true,if_false] at *
   have:=Rat.mul_nonneg (a:=p) (b := -y) (by grind) (by grind)
   grind
 · simp only [if_true] at *
   have:=Rat.mul_pos hp (b := -y) (by grind)
   grind
theorem hold_add {x y:Rat} {s t:Bool} (h:holdB x s) (g:holdB y t):holdB (x+y) (s || t):=by
 unfold holdB at *
 cases s<;>cases t<;>simp at * <;> grind
theorem inv_mul_ {n:Rat} (h:n≠0) (w:Rat):n*(-w*n⁻¹) = -w:=by
 have:=Rat.mul_inv_cancel n h
 have e:n*(-w*n⁻¹) = -w*(n*n⁻¹):=by grind
 rw [e,this]
 grind
theorem one_dim (v:Int) (w:Bd→Rat) (l:List Bd) (hw:∀ a b,w (pairB a b v) = -(b.c v)*w a+a.c v*w b) :
 (∃ x:Rat,∀ e ∈ l,holdB (e.c v*x+w e) e.s)↔∀ e ∈ elimB v l,holdB (w e) e.s:=by
 constructor
 · rintro ⟨x,h⟩ e he
   rcases mem_elimB.1 he with ⟨h1,h2⟩ | ⟨a,ha,hap,b,hb,hbn,rfl⟩
   · have:=h e h1
     rw [h2] at this
     have e2:0*x+w e=w e:=by grind
     rwa [e2] at this
   · rw [hw]
     have h1:=hold_pos (p := -(b.c v)) (by grind) (h a ha);have h2:=hold_pos hap (h b hb);have h3:=hold_add h1 h2
     have e2 : -(b.c v)*(a.c v*x+w a)+a.c v*(b.c v*x+w b) = -(b.c v)*w a+a.c v*w b:=by grind
     rw [e2] at h3;exact h3
 · intro h
   have hzero:∀ e ∈ l,e.c v=0→∀ x,holdB (e.c v*x+w e) e.s:=fun e he h0 x=>by
    have:=h e (mem_elimB.2 (.inl ⟨he,h0⟩));rw [h0]
    have e2:0*x+w e=w e:=by grind
    rwa [e2]
   have hpair:∀ a ∈ l,0<a.c v→∀ b ∈ l,b.c v<0→holdB (-(b.c v)*w a+a.c v*w b) (a.s || b.s):=fun a ha hap b hb hbn=>by
    have:=h _ (mem_elimB.2 (.inr ⟨a,ha,hap,b,hb,hbn,rfl⟩))
    rwa [hw] at this
   have hup:∀ x,(∀ a ∈ l,0<a.c v→(x < -w a*(a.c v)⁻¹∨(x = -w a*(a.c v)⁻¹∧a.s=false)))→(∀ b ∈ l,b.c v<0→(-w b*(b.c v)⁻¹<x∨(x = -w b*(b.c v)⁻¹∧b.s=false)))→∀ e ∈ l,holdB (e.c v*x+w e) e.s:=by
    intro x h1 h2 e he
    by_cases e0:e.c v=0
    · exact hzero e he e0 x
    · have hm:=inv_mul_ e0 (w e)
      by_cases ep:0<e.c v
      · rcases h1 e he ep with h3 | ⟨h3,h4⟩
        · have:=Rat.mul_pos ep (b := -w e*(e.c v)⁻¹ - x) (by grind)
          unfold holdB
          split<;>grind
        · rw [h4,h3,hm]
          unfold holdB;simp only [Bool.false_eq_true,if_false]
          grind
      · have en:e.c v<0:=by grind
        rcases h2 e he en with h3 | ⟨h3,h4⟩
        · have:=Rat.mul_pos (a := -(e.c v)) (b:=x - -w e*(e.c v)⁻¹) (by grind) (by grind)
          unfold holdB
          split<;>grind
        · rw [h4,h3,hm]
          unfold holdB;simp only [Bool.false_eq_true,if_false]
          grind
   by_cases hU:l.filter (fun b=>decide (0<b.c v))=[]
   · have hU':∀ a ∈ l,¬ 0<a.c v:=fun a ha hp=>by
      have:a ∈ l.filter (fun b=>decide (0<b.c v)):=List.mem_filter.2 ⟨ha,by simpa using hp⟩;rw [hU] at this
      cases this
     by_cases hD:l.filter (fun b=>decide (b.c v<0))=[]
     · have hD':∀ a ∈ l,¬ a.c v<0:=fun a ha hp=>by
        have:a ∈ l.filter (fun b=>decide (b.c v<0)):=List.mem_filter.2 ⟨ha,by simpa using hp⟩;rw [hD] at this
        cases this
       exact ⟨0,hup 0 (fun a ha hp=>absurd hp (hU' a ha)) (fun a ha hp=>absurd hp (hD' a ha))⟩
     · obtain ⟨b,hb,hbest⟩:=best (fun b:Bd => -w b*(b.c v)⁻¹) (fun b=>b.s) _ hD
       refine ⟨-w b*(b.c v)⁻¹+1,hup _ (fun a ha hp=>absurd hp (hU' a ha)) (fun a ha hn=>?_)⟩;have:=hbest a (List.mem_filter.2 ⟨ha,by simpa using hn⟩)
       left
       rcases this with h3 | ⟨h3,_⟩<;>grind
   · obtain ⟨a,ha,habest⟩:=best (fun b:Bd => -(-w b*(b.c v)⁻¹)) (fun b=>b.s) _ hU
     obtain ⟨hal,hap⟩:=List.mem_filter.1 ha;simp only [decide_eq_true_eq] at hap
     by_cases hD:l.filter (fun b=>decide (b.c v<0))=[]
     · have hD':∀ a ∈ l,¬ a.c v<0:=fun a ha hp=>by
        have:a ∈ l.filter (fun b=>decide (b.c v<0)):=List.mem_filter.2 ⟨ha,by simpa using hp⟩;rw [hD] at this
        cases this
       refine ⟨-w a*(a.c v)⁻¹ - 1,hup _ (fun e he hp=>?_) (fun a ha hp=>absurd hp (hD' a ha))⟩;have:=habest e (List.mem_filter.2 ⟨he,by simpa using hp⟩)
       left
       rcases this with h3 | ⟨h3,_⟩<;>grind
     · obtain ⟨b,hb,hbest⟩:=best (fun b:Bd => -w b*(b.c v)⁻¹) (fun b=>b.s) _ hD
       obtain ⟨hbl,hbn⟩:=List.mem_filter.1 hb;simp only [decide_eq_true_eq] at hbn;have hp:=hpair a hal hap b hbl hbn;have ea:=inv_mul_ (n:=a.c v) (by grind) (w a);have eb:=inv_mul_ (n:=b.c v) (by grind) (w b)
       generalize hu : -w a*(a.c v)⁻¹=u at *
       generalize hl : -w b*(b.c v)⁻¹=lo at *
       have hval : -(b.c v)*w a+a.c v*w b=(-(b.c v)*a.c v)*(lo - u):=by
        have e1:w a = -(a.c v*u):=by grind
        have e2:w b = -(b.c v*lo):=by grind
        rw [e1,e2]
        grind
       rw [hval] at hp;have hpp:=Rat.mul_pos (a := -(b.c v)) (b:=a.c v) (by grind) hap
       have hlu:lo<u∨(lo=u∧a.s=false∧b.s=false):=by
        by_cases e:lo<u
        · exact .inl e
        · right
          by_cases e2:lo=u
          · refine ⟨e2,?_⟩
            unfold holdB at hp
            cases has:a.s<;>cases hbs:b.s<;>rw [has,hbs] at hp<;>simp at hp<;>first | exact ⟨rfl,rfl⟩ | skip
            all_goals
             exfalso
             rw [e2] at hp
             grind
          · exfalso
            have:=Rat.mul_pos hpp (b:=lo - u) (by grind);unfold holdB at hp
            split at hp<;>grind
       refine ⟨(lo+u)*(1 / 2),hup _ (fun e he hp'=>?_) (fun e he hn=>?_)⟩
       · have h3:=habest e (List.mem_filter.2 ⟨he,by simpa using hp'⟩)
         rcases hlu with h4 | ⟨h4,h5,h6⟩
         · left
           rcases h3 with h3 | ⟨h3,_⟩<;>grind
         · rcases h3 with h3 | ⟨h3,h7⟩
           · left
             grind
           · right
             refine ⟨by grind,?_⟩
             cases hs:e.s
             · rfl
             · rw [h7 hs] at h5
               cases h5
       · have h3:=hbest e (List.mem_filter.2 ⟨he,by simpa using hn⟩)
         rcases hlu with h4 | ⟨h4,h5,h6⟩
         · left
           rcases h3 with h3 | ⟨h3,_⟩<;>grind
         · rcases h3 with h3 | ⟨h3,h7⟩
           · left
             grind
           · right
             refine ⟨by grind,?_⟩
             cases hs:e.s
             · rfl
             · rw [h7 hs] at h6
               cases h6
def valB (b:Bd) (x0 x1 x2:Rat):Rat:=b.c 0*x0+b.c 1*x1+b.c 2*x2+b.k
theorem elim_zero {v:Int} {l:List Bd}:∀ e ∈ elimB v l,e.c v=0:=by
 intro e he;rcases mem_elimB.1 he with ⟨_,h⟩ | ⟨a,_,_,b,_,_,rfl⟩
 · exact h
 · unfold pairB
   simp only
   grind
theorem elim_keep {v u:Int} {l:List Bd} (h:∀ e ∈ l,e.c u=0):∀ e ∈ elimB v l,e.c u=0:=by
 intro e he;rcases mem_elimB.1 he with ⟨h1,_⟩ | ⟨a,ha,_,b,hb,_,rfl⟩
 · exact h e h1
 · unfold pairB
   simp only;rw [h a ha,h b hb]
   grind
theorem fm_ok (l:List Bd):(∃ x0 x1 x2,∀ b ∈ l,holdB (valB b x0 x1 x2) b.s)↔∀ b ∈ elimB 2 (elimB 1 (elimB 0 l)),holdB b.k b.s:=by
 have p:∀ (a b:Bd) (v u:Int) (y:Rat),(pairB a b v).c u*y = -(b.c v)*(a.c u*y)+a.c v*(b.c u*y):=fun a b v u y=>by unfold pairB;simp only;grind
 have k:∀ (a b:Bd) (v:Int),(pairB a b v).k = -(b.c v)*a.k+a.c v*b.k:=fun _ _ _=>rfl
 have z0:=@elim_zero 0 l
 have z1:∀ e ∈ elimB 1 (elimB 0 l),e.c 0=0∧e.c 1=0:=fun e he=>⟨elim_keep z0 e he,elim_zero e he⟩
 have s0:∀ x1 x2,_:=fun x1 x2=>one_dim 0 (fun b=>b.c 1*x1+b.c 2*x2+b.k) l (fun a b=>by rw [p,p,k];grind)
 have s1:∀ x2,_:=fun x2=>one_dim 1 (fun b=>b.c 2*x2+b.k) (elimB 0 l) (fun a b=>by rw [p,k];grind)
 have s2:=one_dim 2 (fun b=>b.k) (elimB 1 (elimB 0 l)) (fun a b=>k a b 2)
 have t0:∀ x0 x1 x2,(∀ b ∈ l,holdB (valB b x0 x1 x2) b.s)↔∀ b ∈ l,holdB (b.c 0*x0+(b.c 1*x1+b.c 2*x2+b.k)) b.s:=fun x0 x1 x2=>by
  have:∀ b:Bd,valB b x0 x1 x2=b.c 0*x0+(b.c 1*x1+b.c 2*x2+b.k):=fun b=>by unfold valB;grind
  simp only [this]
 have t1:∀ x1 x2,(∀ b ∈ elimB 0 l,holdB (b.c 1*x1+b.c 2*x2+b.k) b.s)↔∀ b ∈ elimB 0 l,holdB (b.c 1*x1+(b.c 2*x2+b.k)) b.s:=fun x1 x2=>by
  have:∀ b:Bd,b.c 1*x1+b.c 2*x2+b.k=b.c 1*x1+(b.c 2*x2+b.k):=fun b=>by grind
  simp only [this]
 rw [←s2]
 constructor
 · rintro ⟨x0,x1,x2,h⟩
   exact ⟨x2,(s1 x2).1 ⟨x1,(t1 x1 x2).1 ((s0 x1 x2).1 ⟨x0,(t0 x0 x1 x2).1 h⟩)⟩⟩
 · rintro ⟨x2,h⟩
   obtain ⟨x1,h⟩:=(s1 x2).2 h;obtain ⟨x0,h⟩:=(s0 x1 x2).2 ((t1 x1 x2).2 h);exact ⟨x0,x1,x2,(t0 x0 x1 x2).2 h⟩
end Go.Proofs.YtdefcbfofonabaaGreat

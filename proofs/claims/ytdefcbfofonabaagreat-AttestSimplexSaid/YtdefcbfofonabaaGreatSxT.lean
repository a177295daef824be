/- The simplex ends: Bland's rule. No program in sight. -/
import Derived.Test.YtdefcbfofonabaaGreatRatMath
namespace Go.Proofs.YtdefcbfofonabaaGreat
set_option linter.unusedVariables false
set_option linter.unusedSimpArgs false
theorem Dl.nn_of_pos {x:Dl} (h:x.pos):x.nn:=by
 rcases h with h | ⟨h,h'⟩
 · exact .inl h
 · exact .inr ⟨h,by grind⟩
theorem pos_nn_add {x y:Dl} (hx:x.pos) (hy:y.nn):(dadd x y).pos:=by
 unfold Dl.pos Dl.nn dadd at *
 simp only
 rcases hx with h | ⟨h,h'⟩<;>rcases hy with g | ⟨g,g'⟩<;>grind
theorem nn_add {x y:Dl} (hx:x.nn) (hy:y.nn):(dadd x y).nn:=by
 unfold Dl.nn dadd at *
 simp only
 rcases hx with h | ⟨h,h'⟩<;>rcases hy with g | ⟨g,g'⟩<;>grind
theorem not_pos_nn {x y:Dl} (h:¬ (dsub x y).pos):(dsub y x).nn:=by
 unfold Dl.pos Dl.nn dsub at *
 simp only at *
 grind
theorem pos_mul {r:Rat} {x:Dl} (hr:0<r) (hx:x.pos):(dmul r x).pos:=by
 unfold Dl.pos dmul at *
 simp only;rcases hx with h | ⟨h,h'⟩
 · exact .inl (Rat.mul_pos hr h)
 · right
   rw [h];exact ⟨by grind,Rat.mul_pos hr h'⟩
theorem nn_mul {r:Rat} {x:Dl} (hr:0≤r) (hx:x.nn):(dmul r x).nn:=by
 by_cases h0:r=0
 · subst h0
   unfold Dl.nn dmul;simp only
   right
   grind
 · have hp:0<r:=by grind
   unfold Dl.nn dmul at *
   simp only;rcases hx with h | ⟨h,h'⟩
   · exact .inl (Rat.mul_pos hp h)
   · right
     rw [h];exact ⟨by grind,Rat.mul_nonneg hr h'⟩
theorem nn_mul_neg {r:Rat} {x y:Dl} (hr:r≤0) (hx:(dsub y x).nn):(dmul r (dsub x y)).nn:=by
 have:=nn_mul (r := -r) (by grind) hx
 unfold Dl.nn dmul dsub at *
 simp only at *
 grind
theorem nn_zero:dzero.nn:=.inr ⟨rfl,by decide⟩
theorem dsub_self (x:Dl):dsub x x=dzero:=by unfold dsub dzero;congr 1<;>grind
theorem not_pos_zero:¬ dzero.pos:=by unfold Dl.pos dzero;simp
theorem dmul_zero (r:Rat):dmul r dzero=dzero:=by unfold dmul dzero;simp only;congr 1<;>grind
theorem zero_dmul (x:Dl):dmul 0 x=dzero:=by unfold dmul dzero;congr 1<;>grind
def Brk (P:Pb) (S:Sx) (v:Nat) (g:Bool):Prop:=P.nv≤v∧v<P.nv+P.m∧0≤S.row v∧((g=true∧(dsub (S.val v) (hiOf P v)).pos)∨(g=false∧(dsub (hiOf P v) (S.val v)).pos∧P.op (v - P.nv)=3))
def canDown (P:Pb) (S:Sx) (k:Nat):Prop:=k<P.nv∨P.op (k - P.nv)≠3∨(dsub (S.val k) (hiOf P k)).pos
def canUp (P:Pb) (S:Sx) (k:Nat):Prop:=k<P.nv∨(dsub (hiOf P k) (S.val k)).pos
def Hlp (P:Pb) (S:Sx) (v:Nat) (g:Bool) (k:Nat):Prop:=k<P.nv+P.m∧S.row k = -1∧S.a (rowOf S v) k≠0∧(((g=true↔0<S.a (rowOf S v) k)∧canDown P S k)∨(¬ (g=true↔0<S.a (rowOf S v) k)∧canUp P S k))
structure Stp (P:Pb) (S:Sx) (v:Nat) (g:Bool) (k:Nat):Prop where
 brk:Brk P S v g
 least:∀ u,u<v→∀ g',¬ Brk P S u g'
 hlp:Hlp P S v g k
 first:∀ u,u<k→¬ Hlp P S v g u
def InvE (P:Pb) (S:Sx):Prop:=∃ N0 N1 N2,Inv P S N0 N1 N2
theorem Brk.row {P:Pb} {S:Sx} {v:Nat} {g:Bool} (h:Brk P S v g):S.row v=(rowOf S v:Int):=by
 have:=h.2.2.1;unfold rowOf;omega
theorem InvE.step {P:Pb} {S:Sx} {v k:Nat} {g:Bool} (h:InvE P S) (hs:Stp P S v g k):InvE P (mov P S v k):=by
 obtain ⟨N0,N1,N2,h⟩:=h;obtain ⟨M1,M2,h⟩:=h.first hs.hlp.1 hs.hlp.2.1;exact ⟨v,M1,M2,h.mov hs.brk.2.1 hs.hlp.1 hs.brk.row hs.hlp.2.2.1⟩
theorem InvE.nb {P:Pb} {S:Sx} (h:InvE P S) {k:Nat} (hk:k<P.nv+P.m) (hr:S.row k = -1):S.val k=hiOf P k:=by
 obtain ⟨N0,N1,N2,h⟩:=h;obtain ⟨M1,M2,h⟩:=h.first hk hr;exact h.h0 hk
theorem Hlp.con {P:Pb} {S:Sx} {v k:Nat} {g:Bool} (hI:InvE P S) (h:Hlp P S v g k) (hk:P.nv≤k):P.op (k - P.nv)≠3∧(g=true↔0<S.a (rowOf S v) k):=by
 obtain ⟨h1,h2,h3,h4⟩:=h;have hv:=hI.nb h1 h2
 have hz:¬ (dsub (S.val k) (hiOf P k)).pos:=by rw [hv,dsub_self];exact not_pos_zero
 have hz2:¬ (dsub (hiOf P k) (S.val k)).pos:=by rw [hv,dsub_self];exact not_pos_zero
 rcases h4 with ⟨h4,h5⟩ | ⟨_,h5⟩
 · rcases h5 with h5 | h5 | h5
   · omega
   · exact ⟨h5,h4⟩
   · exact absurd h5 hz
 · rcases h5 with h5 | h5
   · omega
   · exact absurd h5 hz2
theorem flips {f:Nat→Bool} {i j t:Nat} (h:f i=f j) (hi:i≤t) (hj:t<j) (ht:f t≠f (t+1)) :
 (∃ s,i≤s∧s<j∧f s=true∧f (s+1)=false)∧(∃ s,i≤s∧s<j∧f s=false∧f (s+1)=true):=by
 have key:∀ (b:Bool),(∀ s,i≤s→s<j→f s=b→f (s+1)=b)→∀ d a,i≤a→a+d≤j→f a=b→f (a+d)=b:=by
  intro b hb d
  induction d with
  | zero=>exact fun a _ _ h=>h
  | succ d ih =>
    intro a ha had hf;exact hb (a+d) (by omega) (by omega) (ih a ha (by omega) hf)
 have one:∀ (b:Bool),∃ s,i≤s∧s<j∧f s=b∧f (s+1)=!b:=by
  intro b
  by_cases hx:∃ s,i≤s∧s<j∧f s=b∧f (s+1)=!b
  · exact hx
  · exfalso
    have hb:∀ s,i≤s→s<j→f s=b→f (s+1)=b:=fun s h1 h2 h3=>by
     by_cases h4:f (s+1)=b
     · exact h4
     · exact absurd ⟨s,h1,h2,h3,by cases hb:b<;>cases hf:f (s+1)<;>simp_all⟩ hx
    have k:=key b hb
    by_cases hft:f t=b
    · have:=hb t hi hj hft
      exact ht (hft.trans this.symm)
    · have h1:f (t+1)=b:=by cases hb:b<;>cases hf:f t<;>cases hg:f (t+1)<;>simp_all
      have h2:=k (j - (t+1)) (t+1) (by omega) (by omega) h1;rw [show t+1+(j - (t+1))=j by omega] at h2;rw [←h] at h2;have h3:=k (t - i) i (Nat.le_refl _) (by omega) h2;rw [show i+(t - i)=t by omega] at h3;exact hft h3
 exact ⟨one true,one false⟩
theorem greatest {p:Nat→Prop} {n:Nat} (hb:∀ u,p u→u<n) (h:∃ u,p u):∃ r,p r∧∀ u,p u→u≤r:=by
 induction n with
 | zero =>
   obtain ⟨u,hu⟩:=h;have:=hb u hu;omega
 | succ n ih =>
   by_cases hn:p n
   · exact ⟨n,hn,fun u hu=>by have:=hb u hu;omega⟩
   · exact ih fun u hu=>by
      have:=hb u hu
      have:u≠n:=fun e=>hn (e ▸ hu)
      omega
theorem dl_ext {x y:Dl} (h:x.a=y.a) (h2:x.b=y.b):x=y:=by
 cases x;cases y
 simp only at h h2;rw [h,h2]
theorem no_cycle {P:Pb} (c:Nat→Sx) (vv kk:Nat→Nat) (gg:Nat→Bool) (i j:Nat) (hij:i<j) (hI:InvE P (c i))
 (hs:∀ t,i≤t→t<j→Stp P (c t) (vv t) (gg t) (kk t)∧c (t+1)=mov P (c t) (vv t) (kk t))
 (he:∀ u,u<P.nv+P.m→((c i).row u = -1↔(c j).row u = -1)):False:=by
 have hinv0:∀ d,i+d≤j→InvE P (c (i+d)):=by
  intro d
  induction d with
  | zero=>exact fun _=>hI
  | succ d ih =>
    intro hd;obtain ⟨h1,h2⟩:=hs (i+d) (by omega) (by omega);rw [←Nat.add_assoc,h2];exact (ih (by omega)).step h1
 have hinv:∀ t,i≤t→t≤j→InvE P (c t):=fun t h1 h2=>by
  have:=hinv0 (t - i) (by omega)
  rwa [show i+(t - i)=t by omega] at this
 have hrow:∀ t,i≤t→t<j→∀ u,(c (t+1)).row u=if u=vv t then -1 else if u=kk t then (rowOf (c t) (vv t):Int) else (c t).row u:=fun t h1 h2 u=>by
  rw [(hs t h1 h2).2]
  rfl
 obtain ⟨f,hf⟩:∃ f:Nat→Nat→Bool,∀ u t,f u t=decide ((c t).row u = -1):=⟨_,fun _ _=>rfl⟩
 have hft:∀ u t,f u t=true↔(c t).row u = -1:=fun u t=>by rw [hf];simp
 have hff:∀ u t,f u t=false↔(c t).row u ≠ -1:=fun u t=>by rw [hf];simp
 have hvr:∀ t,i≤t→t<j→(c t).row (vv t) ≠ -1:=fun t h1 h2=>by
  have:=(hs t h1 h2).1.brk.2.2.1;omega
 have hkr:∀ t,i≤t→t<j→(c t).row (kk t) = -1:=fun t h1 h2=>(hs t h1 h2).1.hlp.2.1
 have hvk:∀ t,i≤t→t<j→kk t≠vv t:=fun t h1 h2 e=>hvr t h1 h2 (by rw [←e];exact hkr t h1 h2)
 have hv1:∀ t,i≤t→t<j→f (vv t) t=false∧f (vv t) (t+1)=true:=fun t h1 h2=>by
  refine ⟨(hff _ _).2 (hvr t h1 h2),(hft _ _).2 ?_⟩;rw [hrow t h1 h2,if_pos rfl]
 have hk1:∀ t,i≤t→t<j→f (kk t) t=true∧f (kk t) (t+1)=false:=fun t h1 h2=>by
  refine ⟨(hft _ _).2 (hkr t h1 h2),(hff _ _).2 ?_⟩;rw [hrow t h1 h2,if_neg (hvk t h1 h2),if_pos rfl];omega
 have hup:∀ u t,i≤t→t<j→f u t=false→f u (t+1)=true→u=vv t:=fun u t h1 h2 h3 h4=>by
  rw [hff] at h3;rw [hft,hrow t h1 h2] at h4
  by_cases e:u=vv t
  · exact e
  · rw [if_neg e] at h4
    split at h4
    · omega
    · exact absurd h4 h3
 have hdn:∀ u t,i≤t→t<j→f u t=true→f u (t+1)=false→u=kk t:=fun u t h1 h2 h3 h4=>by
  rw [hft] at h3;rw [hff,hrow t h1 h2] at h4
  by_cases e:u=kk t
  · exact e
  · rw [if_neg e] at h4
    split at h4
    · exact absurd rfl h4
    · exact absurd h3 h4
 obtain ⟨p,hp⟩:∃ p:Nat→Prop,∀ u,p u↔∃ t,i≤t∧t<j∧(u=vv t∨u=kk t):=⟨_,fun _=>Iff.rfl⟩
 have hpn:∀ u,p u→u<P.nv+P.m:=fun u hu=>by
  obtain ⟨t,h1,h2,h3⟩:=(hp u).1 hu;rcases h3 with rfl | rfl
  · exact (hs t h1 h2).1.brk.2.1
  · exact (hs t h1 h2).1.hlp.1
 have hboth:∀ u,p u→(∃ s,i≤s∧s<j∧u=vv s)∧(∃ s,i≤s∧s<j∧u=kk s):=fun u hu=>by
  have hu':=hpn u hu;obtain ⟨t,h1,h2,h3⟩:=(hp u).1 hu
  have hne:f u t≠f u (t+1):=by
   rcases h3 with rfl | rfl
   · rw [(hv1 t h1 h2).1,(hv1 t h1 h2).2];decide
   · rw [(hk1 t h1 h2).1,(hk1 t h1 h2).2];decide
  have hij':f u i=f u j:=by
   rw [hf,hf];exact decide_eq_decide.2 (he u hu')
  obtain ⟨⟨s1,a1,a2,a3,a4⟩,⟨s2,b1,b2,b3,b4⟩⟩:=flips hij' h1 h2 hne;exact ⟨⟨s2,b1,b2,hup u s2 b1 b2 b3 b4⟩,⟨s1,a1,a2,hdn u s1 a1 a2 a3 a4⟩⟩
 have hcon:∀ u,p u→P.nv≤u∧P.op (u - P.nv)≠3:=fun u hu=>by
  obtain ⟨⟨s1,a1,a2,e1⟩,⟨s2,b1,b2,e2⟩⟩:=hboth u hu
  have h1:P.nv≤u:=by rw [e1];exact (hs s1 a1 a2).1.brk.1
  have h2:=((hs s2 b1 b2).1.hlp.con (hinv s2 b1 (Nat.le_of_lt b2)) (by rw [←e2];exact h1)).1;rw [←e2] at h2;exact ⟨h1,h2⟩
 have hsame:∀ u,¬ p u→∀ t,i≤t→t≤j→f u t=f u i:=fun u hu t h1 h2=>by
  have key:∀ d,i+d≤j→f u (i+d)=f u i:=by
   intro d
   induction d with
   | zero=>exact fun _=>rfl
   | succ d ih =>
     intro hd;rw [←ih (by omega)]
     cases h3:f u (i+d)<;>cases h4:f u (i+(d+1))<;>first | rfl | skip
     · exact absurd ((hp u).2 ⟨i+d,by omega,by omega,.inl (hup u (i+d) (by omega) (by omega) h3 h4)⟩) hu
     · exact absurd ((hp u).2 ⟨i+d,by omega,by omega,.inr (hdn u (i+d) (by omega) (by omega) h3 h4)⟩) hu
  have:=key (t - i) (by omega)
  rwa [show i+(t - i)=t by omega] at this
 obtain ⟨r,hr,hmax⟩:=greatest hpn ⟨vv i,(hp _).2 ⟨i,Nat.le_refl _,hij,.inl rfl⟩⟩;obtain ⟨⟨s,s1,s2,es⟩,⟨t,t1,t2,et⟩⟩:=hboth r hr;obtain ⟨hrc,hro⟩:=hcon r hr;have hrn:=hpn r hr;have SS:=(hs s s1 s2).1;have TT:=(hs t t1 t2).1;have IS:=hinv s s1 (Nat.le_of_lt s2);have IT:=hinv t t1 (Nat.le_of_lt t2);rw [←es] at SS;rw [←et] at TT;have hpv:p (vv t):=(hp _).2 ⟨t,t1,t2,.inl rfl⟩;have hvle:=hmax _ hpv
 have hvne:vv t≠r:=fun e=>hvr t t1 t2 (by rw [e];rw [et];exact hkr t t1 t2)
 obtain ⟨hvc,hvo⟩:=hcon _ hpv
 have hrT:(c t).row r = -1:=by rw [et];exact hkr t t1 t2
 generalize hv:vv t=v at *
 have hvr':v<r:=by omega
 have gS:(dsub ((c s).val r) (hiOf P r)).pos:=by
  rcases SS.brk.2.2.2 with ⟨_,h⟩ | ⟨_,_,h⟩
  · exact h
  · exact absurd h hro
 have gT:gg t=true∧(dsub ((c t).val v) (hiOf P v)).pos:=by
  rcases TT.brk.2.2.2 with h | ⟨_,_,h⟩
  · exact h
  · exact absurd h hvo
 have har:0<(c t).a (rowOf (c t) v) r:=by
  have:=(TT.hlp.con IT hrc).2;rw [gT.1] at this;exact this.1 rfl
 obtain ⟨N0,N1,N2,hIT0⟩:=IT;obtain ⟨M1,M2,hIT⟩:=hIT0.first hrn hrT;obtain ⟨K0,K1,K2,hIS⟩:=IS;have hvrow:=TT.brk.row;obtain ⟨hrm,hbas⟩:=hIT.b2 v _ hvrow;have ra:=rows_same hIS hIT hIS.va _ hrm;have rb:=rows_same hIS hIT hIS.vb _ hrm;have qa:=hIT.va _ hrm;have qb:=hIT.vb _ hrm;simp only [hbas] at ra rb qa qb
 generalize hA:(c t).a (rowOf (c t) v)=A at *
 have hsum:dsub ((c s).val v) ((c t).val v)=dadd (dmul (A r) (dsub ((c s).val r) ((c t).val r))) (dadd (dmul (A M1) (dsub ((c s).val M1) ((c t).val M1))) (dmul (A M2) (dsub ((c s).val M2) ((c t).val M2)))):=by
  apply dl_ext
  · unfold dsub dadd dmul
    simp only;rw [ra,qa]
    grind
  · unfold dsub dadd dmul
    simp only;rw [rb,qb]
    grind
 have hpos:(dmul (A r) (dsub ((c s).val r) ((c t).val r))).pos:=by
  rw [hIT.h0 hrn];exact pos_mul har gS
 have nbS:∀ u,u<P.nv+P.m→(c s).row u = -1→(c s).val u=hiOf P u:=fun u hu h=>InvE.nb ⟨_,_,_,hIS⟩ hu h
 have nbT:∀ u,u<P.nv+P.m→(c t).row u = -1→(c t).val u=hiOf P u:=fun u hu h=>InvE.nb ⟨_,_,_,hIT⟩ hu h
 have hstay:∀ u,¬ p u→(c t).row u = -1→(c s).row u = -1:=fun u hu h=>by
  rw [←hft] at h ⊢;rw [hsame u hu s s1 (Nat.le_of_lt s2),←hsame u hu t t1 (Nat.le_of_lt t2)];exact h
 have hterm:∀ u,u≠r→(c t).row u = -1→(dmul (A u) (dsub ((c s).val u) ((c t).val u))).nn:=by
  intro u hur hu
  by_cases hun:u<P.nv+P.m
  · rw [nbT u hun hu]
    by_cases hlt:u<r
    · have hnh:=TT.first u hlt
      unfold Hlp at hnh;rw [hA,gT.1] at hnh
      by_cases hunv:u<P.nv
      · have:A u=0:=by
         by_cases h0:A u=0
         · exact h0
         · exfalso
           apply hnh
           refine ⟨hun,hu,h0,?_⟩
           by_cases h1:(true=true↔0<A u)
           · exact .inl ⟨h1,.inl hunv⟩
           · exact .inr ⟨h1,.inl hunv⟩
        rw [this,zero_dmul];exact nn_zero
      · by_cases h3:P.op (u - P.nv)=3
        · have hnp:¬ p u:=fun h=>(hcon u h).2 h3
          rw [nbS u hun (hstay u hnp hu),dsub_self,dmul_zero];exact nn_zero
        · have hle:A u≤0:=by
           by_cases h0:0<A u
           · exfalso
             apply hnh
             exact ⟨hun,hu,by grind,.inl ⟨by simp [h0],.inr (.inl h3)⟩⟩
           · grind
          by_cases hsb:(c s).row u = -1
          · rw [nbS u hun hsb,dsub_self,dmul_zero]
            exact nn_zero
          · have hnb:=SS.least u hlt true
            have h0:0≤(c s).row u:=by
             have:=hIS.b3 u;omega
            have:¬ (dsub ((c s).val u) (hiOf P u)).pos:=fun h=>hnb ⟨by omega,hun,h0,.inl ⟨rfl,h⟩⟩
            exact nn_mul_neg hle (not_pos_nn this)
    · have hnp:¬ p u:=fun h=>by
       have:=hmax u h;omega
      rw [nbS u hun (hstay u hnp hu),dsub_self,dmul_zero];exact nn_zero
  · have:A u=0:=by
     rw [←hA];exact hIT.a0 _ _ hrm (.inr (by omega))
    rw [this,zero_dmul];exact nn_zero
 have hall:(dsub ((c s).val v) ((c t).val v)).pos:=by
  rw [hsum];exact pos_nn_add hpos (nn_add (hterm M1 hIT.d01.symm hIT.r1) (hterm M2 hIT.d02.symm hIT.r2))
 have hy:(dsub ((c s).val v) (hiOf P v)).pos:=by
  have:=pos_nn_add hall (Dl.nn_of_pos gT.2)
  have e:dadd (dsub ((c s).val v) ((c t).val v)) (dsub ((c t).val v) (hiOf P v))=dsub ((c s).val v) (hiOf P v):=by
   apply dl_ext<;>(unfold dadd dsub;simp only;grind)
  rwa [e] at this
 by_cases hsb:(c s).row v = -1
 · rw [nbS v (by omega) hsb,dsub_self] at hy
   exact not_pos_zero hy
 · have h0:0≤(c s).row v:=by
    have:=hIS.b3 v;omega
   exact SS.least v hvr' true ⟨hvc,by omega,h0,.inl ⟨rfl,hy⟩⟩
end Go.Proofs.YtdefcbfofonabaaGreat

namespace Go.Proofs.YtdefcbfofonabaaGreat
set_option linter.unusedVariables false
set_option linter.unusedSimpArgs false
def sumN (f:Nat→Rat):Nat→Rat
 | 0=>0
 | n+1=>sumN f n+f n
theorem sumN_congr {f g:Nat→Rat}:∀ m,(∀ i,i<m→f i=g i)→sumN f m=sumN g m
 | 0,_=>rfl
 | m+1,h=>by
   rw [sumN,sumN,sumN_congr m fun i hi=>h i (by omega),h m (by omega)]
theorem sumN_add (f g:Nat→Rat):∀ m,sumN (fun i=>f i+g i) m=sumN f m+sumN g m
 | 0=>by simp only [sumN];grind
 | m+1=>by
   simp only [sumN];rw [sumN_add f g m]
   grind
theorem sumN_mul (c:Rat) (f:Nat→Rat):∀ m,sumN (fun i=>c*f i) m=c*sumN f m
 | 0=>by simp only [sumN];grind
 | m+1=>by
   simp only [sumN];rw [sumN_mul c f m]
   grind
theorem sumN_zero:∀ m,sumN (fun _=>0) m=0
 | 0=>rfl
 | m+1=>by
   simp only [sumN];rw [sumN_zero m]
   grind
theorem sumN_le {f:Nat→Rat}:∀ m,(∀ i,i<m→f i≤0)→sumN f m≤0
 | 0,_=>by simp only [sumN];decide
 | m+1,h=>by
   have h1:=sumN_le m fun i hi=>h i (by omega)
   have h2:=h m (by omega);simp only [sumN]
   grind
theorem sumN_lt {f:Nat→Rat}:∀ m,(∀ i,i<m→f i≤0)→(∃ i,i<m∧f i<0)→sumN f m<0
 | 0,_,h=>by
   obtain ⟨i,hi,_⟩:=h;omega
 | m+1,h,hx=>by
   simp only [sumN];obtain ⟨i,hi,hlt⟩:=hx
   by_cases e:i<m
   · have h1:=sumN_lt m (fun i hi=>h i (by omega)) ⟨i,e,hlt⟩
     have h2:=h m (by omega)
     grind
   · obtain rfl:i=m:=by omega
     have h1:=sumN_le i fun k hk=>h k (by omega)
     grind
theorem sumN_pick (nv N:Nat) (x:Rat):∀ m,sumN (fun i=>if nv+i=N then x else 0) m=if nv≤N∧N<nv+m then x else 0
 | 0=>by
   simp only [sumN];rw [if_neg (by omega)]
 | m+1=>by
   simp only [sumN];rw [sumN_pick nv N x m]
   by_cases h1:nv+m=N
   · rw [if_neg (by omega),if_pos h1,if_pos (by omega)]
     grind
   · rw [if_neg h1]
     by_cases h2:nv≤N∧N<nv+m
     · rw [if_pos h2,if_pos (by omega)]
       grind
     · rw [if_neg h2,if_neg (by omega)]
       grind
def Sat (P:Pb) (i:Nat) (y:Rat):Prop:=(P.op i=1∧y≤(P.hi i).a)∨(P.op i=2∧y<(P.hi i).a)∨(P.op i=3∧y=(P.hi i).a)
structure PbOk (P:Pb):Prop where
 op:∀ i,i<P.m→P.op i=1∨P.op i=2∨P.op i=3
 hb:∀ i,i<P.m→(P.hi i).b=if P.op i=2 then -1 else 0
theorem eps_all:∀ (m:Nat) (Q:Nat→Rat→Prop),(∀ i,i<m→∃ e,0<e∧∀ e',0<e'→e'≤e→Q i e')→∃ e,0<e∧∀ i,i<m→∀ e',0<e'→e'≤e→Q i e'
 | 0,Q,_=>⟨1,by decide,fun i hi=>by omega⟩
 | m+1,Q,h=>by
   obtain ⟨e1,h1,h2⟩:=eps_all m Q fun i hi=>h i (by omega)
   obtain ⟨e2,h3,h4⟩:=h m (by omega)
   by_cases hle:e1≤e2
   · refine ⟨e1,h1,fun i hi e' he hl=>?_⟩
     by_cases hm:i<m
     · exact h2 i hm e' he hl
     · obtain rfl:i=m:=by omega
       exact h4 e' he (by grind)
   · refine ⟨e2,h3,fun i hi e' he hl=>?_⟩
     by_cases hm:i<m
     · exact h2 i hm e' he (by grind)
     · obtain rfl:i=m:=by omega
       exact h4 e' he hl
theorem eps_one {g b:Rat} (hg:0<g):∃ e,0<e∧∀ e',0<e'→e'≤e→e'*b<g:=by
 by_cases hb:b≤0
 · refine ⟨1,by decide,fun e' h1 _=>?_⟩
   have:=Rat.mul_nonneg (a:=e') (b := -b) (by grind) (by grind)
   grind
 · have hb':0<b:=by grind
   have hb2:0<2*b:=by grind
   have hi:=Rat.inv_pos.2 hb2;have hc:=Rat.inv_mul_cancel (2*b) (by grind);refine ⟨g*(2*b)⁻¹,Rat.mul_pos hg hi,fun e' h1 h2=>?_⟩;have h3:=Rat.mul_nonneg (a:=g*(2*b)⁻¹ - e') (b:=b) (by grind) (by grind)
   have h4:g*(2*b)⁻¹*b*2=g:=by
    have:g*(2*b)⁻¹*b*2=g*((2*b)⁻¹*(2*b)):=by grind
    rw [this,hc]
    grind
   grind
section
variable {P:Pb} {S:Sx} {N0 N1 N2:Nat}
theorem feas (h:Inv P S N0 N1 N2) (hP:PbOk P) (hno:∀ v g,¬ Brk P S v g):∃ x0 x1 x2,∀ i,i<P.m→Sat P i (linv P x0 x1 x2 (P.nv+i)):=by
 obtain ⟨a0,a1,a2,ha⟩:=lin_of_rows h h.va;obtain ⟨b0,b1,b2,hb⟩:=lin_of_rows h h.vb
 have hI:InvE P S:=⟨_,_,_,h⟩
 have hlex:∀ i,i<P.m→(dsub (P.hi i) (S.val (P.nv+i))).nn∧(P.op i=3→S.val (P.nv+i)=P.hi i):=by
  intro i hi
  have ehi:hiOf P (P.nv+i)=P.hi i:=by unfold hiOf;rw [if_neg (by omega),show P.nv+i - P.nv=i by omega]
  by_cases hn:S.row (P.nv+i) = -1
  · have:=hI.nb (by omega) hn
    rw [ehi] at this;rw [this,dsub_self];exact ⟨nn_zero,fun _=>rfl⟩
  · have h0:0≤S.row (P.nv+i):=by
     have:=h.b3 (P.nv+i);omega
    have h1:¬ (dsub (S.val (P.nv+i)) (hiOf P (P.nv+i))).pos:=fun hp=>hno (P.nv+i) true ⟨by omega,by omega,h0,.inl ⟨rfl,hp⟩⟩
    have h2:P.op i=3→¬ (dsub (hiOf P (P.nv+i)) (S.val (P.nv+i))).pos:=fun e hp=>hno (P.nv+i) false ⟨by omega,by omega,h0,.inr ⟨rfl,hp,by rw [show P.nv+i - P.nv=i by omega];exact e⟩⟩
    rw [ehi] at h1 h2;have n1:=not_pos_nn h1;refine ⟨n1,fun e=>?_⟩;have n2:=not_pos_nn (h2 e);unfold Dl.nn dsub at n1 n2;simp only at n1 n2
    apply dl_ext<;>grind
 obtain ⟨e,he,hall⟩:=eps_all P.m (fun i e=>Sat P i ((S.val (P.nv+i)).a+e*(S.val (P.nv+i)).b)) fun i hi=>by
  obtain ⟨hnn,h3⟩:=hlex i hi;have hbi:=hP.hb i hi
  generalize S.val (P.nv+i)=y at *
  unfold Dl.nn dsub at hnn;simp only at hnn;rcases hnn with hlt | ⟨heq,hle⟩
  · obtain ⟨e,h1,h2⟩:=eps_one (b:=y.b) hlt
    refine ⟨e,h1,fun e' h3' h4=>?_⟩;have h5:=h2 e' h3' h4;rcases hP.op i hi with ho | ho | ho
    · exact .inl ⟨ho,by grind⟩
    · exact .inr (.inl ⟨ho,by grind⟩)
    · have:=h3 ho
      rw [this] at hlt
      grind
  · refine ⟨1,by decide,fun e' h1 _=>?_⟩
    rcases hP.op i hi with ho | ho | ho
    · rw [if_neg (by omega)] at hbi
      have:=Rat.mul_nonneg (a:=e') (b := -y.b) (by grind) (by grind);exact .inl ⟨ho,by grind⟩
    · rw [if_pos ho] at hbi
      have:=Rat.mul_nonneg (a:=e') (b := -1 - y.b) (by grind) (by grind);exact .inr (.inl ⟨ho,by grind⟩)
    · rw [if_neg (by omega)] at hbi
      have:=h3 ho;exact .inr (.inr ⟨ho,by rw [this,hbi];grind⟩)
 refine ⟨a0+e*b0,a1+e*b1,a2+e*b2,fun i hi=>?_⟩;have h1:=hall i hi e he (by grind);have ea:=ha (P.nv+i) (by omega);have eb:=hb (P.nv+i) (by omega);rw [ea,eb] at h1
 have:linv P (a0+e*b0) (a1+e*b1) (a2+e*b2) (P.nv+i)=linv P a0 a1 a2 (P.nv+i)+e*linv P b0 b1 b2 (P.nv+i):=by
  unfold linv
  grind
 rw [this];exact h1
def sgnOf (g:Bool):Rat:=if g then 1 else -1
def timesOf (P:Pb) (S:Sx) (v:Nat) (g:Bool) (i:Nat):Rat:=if P.nv+i=v then sgnOf g else -(sgnOf g*S.a (rowOf S v) (P.nv+i))
theorem times_sum {v:Nat} {g:Bool} (h:Inv P S N0 N1 N2) (hv:Brk P S v g) (hno:∀ k,¬ Hlp P S v g k) (z:Nat→Rat) :
 sumN (fun i=>timesOf P S v g i*z (P.nv+i)) P.m=sgnOf g*z v - sgnOf g*(S.a (rowOf S v) N0*z N0+S.a (rowOf S v) N1*z N1+S.a (rowOf S v) N2*z N2):=by
 obtain ⟨hrm,hbas⟩:=h.b2 v _ hv.row
 have hvn:S.row v ≠ -1:=by have:=hv.2.2.1;omega
 have hv0:v≠N0:=fun e=>hvn (by rw [e];exact h.r0)
 have hv1:v≠N1:=fun e=>hvn (by rw [e];exact h.r1)
 have hv2:v≠N2:=fun e=>hvn (by rw [e];exact h.r2)
 have d01:=h.d01;have d02:=h.d02;have d12:=h.d12
 generalize hr:rowOf S v=r at *
 have hav:S.a r v=0:=h.a0 r v hrm (.inl ⟨hv0,hv1,hv2⟩)
 have hst:∀ N,S.row N = -1→N<P.nv→S.a r N=0:=fun N hN hlt=>by
  by_cases h0:S.a r N=0
  · exact h0
  · exfalso
    apply hno N
    refine ⟨by omega,hN,by rw [hr];exact h0,?_⟩
    by_cases hx:(g=true↔0<S.a (rowOf S v) N)
    · exact .inl ⟨hx,.inl hlt⟩
    · exact .inr ⟨hx,.inl hlt⟩
 have hpick:∀ N,S.row N = -1→(if P.nv≤N∧N<P.nv+P.m then S.a r N*z N else 0)=S.a r N*z N:=fun N hN=>by
  by_cases h1:P.nv≤N∧N<P.nv+P.m
  · rw [if_pos h1]
  · rw [if_neg h1]
    by_cases h2:N<P.nv
    · rw [hst N hN h2]
      grind
    · rw [h.a0 r N hrm (.inr (by omega))]
      grind
 have hterm:∀ i,i<P.m→timesOf P S v g i*z (P.nv+i)=(if P.nv+i=v then sgnOf g*z v else 0) + -sgnOf g*(((if P.nv+i=N0 then S.a r N0*z N0 else 0)+(if P.nv+i=N1 then S.a r N1*z N1 else 0))+(if P.nv+i=N2 then S.a r N2*z N2 else 0)):=by
  intro i hi;unfold timesOf;rw [hr]
  by_cases e:P.nv+i=v
  · rw [if_pos e,if_pos e,e,if_neg hv0,if_neg hv1,if_neg hv2]
    grind
  · rw [if_neg e,if_neg e]
    by_cases e0:P.nv+i=N0
    · rw [if_pos e0,e0,if_neg d01,if_neg d02]
      grind
    · rw [if_neg e0]
      by_cases e1:P.nv+i=N1
      · rw [if_pos e1,e1,if_neg d12]
        grind
      · rw [if_neg e1]
        by_cases e2:P.nv+i=N2
        · rw [if_pos e2,e2]
          grind
        · rw [if_neg e2,h.a0 r (P.nv+i) hrm (.inl ⟨e0,e1,e2⟩)]
          grind
 rw [sumN_congr _ hterm,sumN_add,sumN_mul,sumN_add,sumN_add,sumN_pick,sumN_pick,sumN_pick,sumN_pick,hpick N0 h.r0,hpick N1 h.r1,hpick N2 h.r2,if_pos ⟨hv.1,hv.2.1⟩]
 grind
structure Fark (P:Pb) (t:Nat→Rat):Prop where
 nn:∀ i,i<P.m→P.op i≠3→0≤t i
 zero:∀ x0 x1 x2,sumN (fun i=>t i*linv P x0 x1 x2 (P.nv+i)) P.m=0
 pos:0<sumN (fun i=>t i * -(P.hi i).a) P.m∨(sumN (fun i=>t i * -(P.hi i).a) P.m=0∧∃ i,i<P.m∧P.op i=2∧0<t i)
theorem fark_of {v:Nat} {g:Bool} (h:Inv P S N0 N1 N2) (hP:PbOk P) (hv:Brk P S v g) (hno:∀ k,¬ Hlp P S v g k):Fark P (timesOf P S v g):=by
 have hI:InvE P S:=⟨_,_,_,h⟩
 have hsum:=times_sum h hv hno;obtain ⟨hrm,hbas⟩:=h.b2 v _ hv.row
 have hnn:∀ i,i<P.m→P.op i≠3→0≤timesOf P S v g i:=by
  intro i hi ho;unfold timesOf
  by_cases e:P.nv+i=v
  · rw [if_pos e]
    rcases hv.2.2.2 with ⟨h1,_⟩ | ⟨_,_,h2⟩
    · rw [h1]
      unfold sgnOf;simp only [if_true]
      decide
    · rw [←e,show P.nv+i - P.nv=i by omega] at h2
      exact absurd h2 ho
  · rw [if_neg e]
    have hn:=hno (P.nv+i)
    by_cases hb:S.row (P.nv+i) = -1
    · by_cases h0:S.a (rowOf S v) (P.nv+i)=0
      · rw [h0]
        grind
      · have hcd:canDown P S (P.nv+i):=.inr (.inl (by rw [show P.nv+i - P.nv=i by omega];exact ho))
        have hx:¬ (g=true↔0<S.a (rowOf S v) (P.nv+i)):=fun hx=>hn ⟨by omega,hb,h0,.inl ⟨hx,hcd⟩⟩
        unfold sgnOf
        cases g
        · have:0<S.a (rowOf S v) (P.nv+i):=by
           by_cases hp:0<S.a (rowOf S v) (P.nv+i)
           · exact hp
           · exact absurd (by simp [hp]) hx
          simp only [Bool.false_eq_true,if_false]
          grind
        · have:¬ 0<S.a (rowOf S v) (P.nv+i):=fun hp=>hx (by simp [hp])
          simp only [if_true]
          grind
    · have:S.a (rowOf S v) (P.nv+i)=0:=by
       refine h.a0 _ _ hrm (.inl ⟨fun e=>hb ?_,fun e=>hb ?_,fun e=>hb ?_⟩)
       · rw [e];exact h.r0
       · rw [e];exact h.r1
       · rw [e];exact h.r2
      rw [this]
      grind
 refine ⟨hnn,fun x0 x1 x2=>?_,?_⟩
 · rw [hsum (linv P x0 x1 x2)]
   have:=rows_lin h x0 x1 x2 _ hrm;rw [hbas] at this;rw [this]
   grind
 · have hz:∀ (f:Dl→Rat),(∀ x,f x=x.a)∨(∀ x,f x=x.b)→sumN (fun i=>timesOf P S v g i * -f (P.hi i)) P.m=sgnOf g*(f (S.val v) - f (hiOf P v)):=by
    intro f hf;have e1:=hsum (fun j => -f (hiOf P j))
    have e2:sumN (fun i=>timesOf P S v g i * -f (P.hi i)) P.m=sumN (fun i=>timesOf P S v g i * -f (hiOf P (P.nv+i))) P.m:=sumN_congr _ fun i hi=>by
     unfold hiOf;rw [if_neg (by omega),show P.nv+i - P.nv=i by omega]
    rw [e2,e1]
    have hr:f (S.val v)=S.a (rowOf S v) N0*f (S.val N0)+S.a (rowOf S v) N1*f (S.val N1)+S.a (rowOf S v) N2*f (S.val N2):=by
     have h1:=h.va _ hrm;have h2:=h.vb _ hrm;simp only [hbas] at h1 h2
     rcases hf with hf | hf<;>simp only [hf]<;>assumption
    have key:∀ N,(N<P.nv+P.m→S.val N=hiOf P N)→S.a (rowOf S v) N*f (S.val N)=S.a (rowOf S v) N*f (hiOf P N):=fun N hN=>by
     by_cases hlt:N<P.nv+P.m
     · rw [hN hlt]
     · rw [h.a0 _ N hrm (.inr (by omega))]
       grind
    rw [hr,key N0 h.h0,key N1 h.h1,key N2 h.h2]
    grind
   have za:=hz (fun x=>x.a) (.inl fun _=>rfl);have zb:=hz (fun x=>x.b) (.inr fun _=>rfl)
   have hpos:0<sgnOf g*((S.val v).a - (hiOf P v).a)∨(sgnOf g*((S.val v).a - (hiOf P v).a)=0∧0<sgnOf g*((S.val v).b - (hiOf P v).b)):=by
    rcases hv.2.2.2 with ⟨h1,h2⟩ | ⟨h1,h2,_⟩
    · rw [h1]
      unfold sgnOf;unfold Dl.pos dsub at h2;simp only [if_true] at h2 ⊢
      grind
    · rw [h1]
      unfold sgnOf;unfold Dl.pos dsub at h2;simp only [Bool.false_eq_true,if_false] at h2 ⊢
      grind
   rcases hpos with h1 | ⟨h1,h2⟩
   · left
     rw [za];exact h1
   · right
     refine ⟨by rw [za];exact h1,?_⟩;rw [←zb] at h2
     by_cases hx:∃ i,i<P.m∧P.op i=2∧0<timesOf P S v g i
     · exact hx
     · exfalso
       have:sumN (fun i=>timesOf P S v g i * -(P.hi i).b) P.m≤0:=sumN_le _ fun i hi=>by
        rw [hP.hb i hi]
        by_cases ho:P.op i=2
        · rw [if_pos ho]
          have:¬ 0<timesOf P S v g i:=fun hp=>hx ⟨i,hi,ho,hp⟩
          grind
        · rw [if_neg ho]
          grind
       grind
theorem Fark.no {t:Nat→Rat} (hF:Fark P t) {x0 x1 x2:Rat} (hs:∀ i,i<P.m→t i≠0→Sat P i (linv P x0 x1 x2 (P.nv+i))):False:=by
 have hz:=hF.zero x0 x1 x2
 have hle:∀ i,i<P.m→t i*linv P x0 x1 x2 (P.nv+i)+t i * -(P.hi i).a≤0:=by
  intro i hi
  by_cases h0:t i=0
  · rw [h0]
    grind
  · have hnn:=hF.nn i hi
    rcases hs i hi h0 with ⟨ho,hy⟩ | ⟨ho,hy⟩ | ⟨ho,hy⟩
    · have:=Rat.mul_nonneg (hnn (by omega)) (b:=(P.hi i).a - linv P x0 x1 x2 (P.nv+i)) (by grind)
      grind
    · have:=Rat.mul_nonneg (hnn (by omega)) (b:=(P.hi i).a - linv P x0 x1 x2 (P.nv+i)) (by grind)
      grind
    · rw [hy]
      grind
 have hsum:sumN (fun i=>t i*linv P x0 x1 x2 (P.nv+i)+t i * -(P.hi i).a) P.m=sumN (fun i=>t i * -(P.hi i).a) P.m:=by
  rw [sumN_add,hz]
  grind
 rcases hF.pos with h | ⟨h,i,hi,ho,hp⟩
 · have:=sumN_le _ hle
   rw [hsum] at this
   grind
 · have:=sumN_lt P.m hle ⟨i,hi,by
    rcases hs i hi (by grind) with ⟨ho',_⟩ | ⟨_,hy⟩ | ⟨ho',_⟩
    · omega
    · have:=Rat.mul_pos hp (b:=(P.hi i).a - linv P x0 x1 x2 (P.nv+i)) (by grind)
      grind
    · omega⟩
   rw [hsum,h] at this;exact absurd this (by decide)
theorem Fark.scale {t:Nat→Rat} (hF:Fark P t) {c:Rat} (hc:0<c):Fark P (fun i=>t i*c):=by
 have e:∀ f:Nat→Rat,sumN (fun i=>t i*c*f i) P.m=c*sumN (fun i=>t i*f i) P.m:=fun f=>by
  rw [←sumN_mul]
  exact sumN_congr _ fun i _=>by grind
 refine ⟨fun i hi ho=>Rat.mul_nonneg (hF.nn i hi ho) (by grind),fun x0 x1 x2=>?_,?_⟩
 · rw [e,hF.zero]
   grind
 · rw [e]
   rcases hF.pos with h | ⟨h,i,hi,ho,hp⟩
   · exact .inl (Rat.mul_pos hc h)
   · right
     rw [h];exact ⟨by grind,i,hi,ho,Rat.mul_pos hp hc⟩
end
end Go.Proofs.YtdefcbfofonabaaGreat

/- Long division of limbs: take, give, the guess, the whole. No program in sight. -/
import Derived.Test.YtdefcbfofonabaaGreatNatMath
import Derived.Deep.DeepCutAuto
namespace Go.Proofs.YtdefcbfofonabaaGreat
set_option linter.unusedVariables false
set_option linter.unusedSimpArgs false
def takeSt (g:Nat) (v u:List Nat):Nat→List Nat × Nat
 | 0=>(u,0)
 | i+1=>((takeSt g v u i).1.set i (((takeSt g v u i).1.getD i 0+4294967296 - (g*v.getD i 0+(takeSt g v u i).2) % 4294967296) % 4294967296),(g*v.getD i 0+(takeSt g v u i).2) / 4294967296+(if (takeSt g v u i).1.getD i 0<(g*v.getD i 0+(takeSt g v u i).2) % 4294967296 then 1 else 0))
structure TakeOk (g:Nat) (v u:List Nat) (i:Nat):Prop where
 len:(takeSt g v u i).1.length=u.length
 sm:small (takeSt g v u i).1
 owed:(takeSt g v u i).2<4294967296
 far:∀ t,i≤t→(takeSt g v u i).1.getD t 0=u.getD t 0
 val:lv (takeSt g v u i).1+g*lv (v.take i)=lv u+2 ^ (32*i)*(takeSt g v u i).2
theorem take_p (g w c:Nat) (hg:g<4294967296) (hw:w<4294967296) (hc:c<4294967296):g*w+c≤18446744069414584320:=by
 have h1:g*w≤4294967295*4294967295:=Nat.mul_le_mul (by omega) (by omega);omega
theorem take_owed (p x:Nat) (hp:p≤18446744069414584320):p / 4294967296+(if x<p % 4294967296 then 1 else 0)<4294967296:=by
 split<;>omega
theorem take_val (p x:Nat) (hx:x<4294967296):(x+4294967296 - p % 4294967296) % 4294967296+p=x+4294967296*(p / 4294967296+(if x<p % 4294967296 then 1 else 0)):=by
 split<;>omega
theorem take_ok (g:Nat) (v u:List Nat) (hg:g<4294967296) (hv:small v) (hu:small u) (hl:v.length≤u.length):∀ i,i≤v.length→TakeOk g v u i
 | 0,_=>⟨rfl,hu,by simp [takeSt],fun t _=>rfl,by simp [takeSt,lv]⟩
 | i+1,hi=>by
   have h:=take_ok g v u hg hv hu hl i (by omega);have hp:=take_p g (v.getD i 0) (takeSt g v u i).2 hg (getD_lt hv i) h.owed;refine ⟨by simp only [takeSt];rw [List.length_set,h.len],small_set h.sm _ _ (Nat.mod_lt _ (by decide)),by simp only [takeSt];exact take_owed _ _ hp,fun t ht=>?_,?_⟩
   · simp only [takeSt]
     rw [getD_set_ne' _ _ _ _ (by omega)];exact h.far t (by omega)
   · have hval:=h.val
     have hx:=getD_lt h.sm i;have hs:=lv_set (takeSt g v u i).1 i (((takeSt g v u i).1.getD i 0+4294967296 - (g*v.getD i 0+(takeSt g v u i).2) % 4294967296) % 4294967296) (by rw [h.len];omega);have ht:=lv_takeD v i (by omega);have hk:=take_val (g*v.getD i 0+(takeSt g v u i).2) ((takeSt g v u i).1.getD i 0) hx;simp only [takeSt];rw [pow_succ32,ht]
     generalize lv ((takeSt g v u i).1.set i (((takeSt g v u i).1.getD i 0+4294967296 - (g*v.getD i 0+(takeSt g v u i).2) % 4294967296) % 4294967296))=L' at *
     generalize ((takeSt g v u i).1.getD i 0+4294967296 - (g*v.getD i 0+(takeSt g v u i).2) % 4294967296) % 4294967296=X' at *
     generalize (g*v.getD i 0+(takeSt g v u i).2) / 4294967296+(if (takeSt g v u i).1.getD i 0<(g*v.getD i 0+(takeSt g v u i).2) % 4294967296 then 1 else 0)=C' at *
     generalize (takeSt g v u i).1.getD i 0=x at *
     generalize (takeSt g v u i).2=c at *
     generalize lv (takeSt g v u i).1=L at *
     generalize v.getD i 0=y at *
     generalize lv (v.take i)=T at *
     generalize 2 ^ (32*i)=Q at *
     have e1:Q*(X'+(g*y+c))=Q*(x+4294967296*C'):=by rw [hk]
     have e2:Q*(X'+(g*y+c))=Q*X'+(Q*(g*y)+Q*c):=by rw [Nat.mul_add,Nat.mul_add]
     have e3:Q*(x+4294967296*C')=Q*x+Q*4294967296*C':=by rw [Nat.mul_add,Nat.mul_assoc]
     have e4:g*(T+Q*y)=g*T+Q*(g*y):=by rw [Nat.mul_add,Nat.mul_left_comm]
     rw [e4];omega
def takeRow (g:Nat) (v u:List Nat):List Nat:=(takeSt g v u v.length).1.set v.length ((u.getD v.length 0+4294967296 - (takeSt g v u v.length).2) % 4294967296)
def takeBelow (g:Nat) (v u:List Nat):Bool:=decide (u.getD v.length 0<(takeSt g v u v.length).2)
theorem takeRow_len (g:Nat) (v u:List Nat) (hg:g<4294967296) (hv:small v) (hu:small u) (hl:v.length≤u.length):(takeRow g v u).length=u.length:=by
 unfold takeRow;rw [List.length_set,(take_ok g v u hg hv hu hl _ (Nat.le_refl _)).len]
theorem takeRow_small (g:Nat) (v u:List Nat) (hg:g<4294967296) (hv:small v) (hu:small u) (hl:v.length≤u.length):small (takeRow g v u) :=
 small_set (take_ok g v u hg hv hu hl _ (Nat.le_refl _)).sm _ _ (Nat.mod_lt _ (by decide))
theorem last_val (x c:Nat) (hx:x<4294967296) (hc:c<4294967296):(x+4294967296 - c) % 4294967296+c=x+4294967296*(if x<c then 1 else 0):=by
 split<;>omega
theorem takeRow_val (g:Nat) (v u:List Nat) (hg:g<4294967296) (hv:small v) (hu:small u) (hl:u.length=v.length+1):lv (takeRow g v u)+g*lv v=lv u+2 ^ (32*(v.length+1))*(if takeBelow g v u=true then 1 else 0):=by
 have h:=take_ok g v u hg hv hu (by omega) _ (Nat.le_refl _);have hval:=h.val;rw [List.take_of_length_le (Nat.le_refl _)] at hval;have hs:=lv_set (takeSt g v u v.length).1 v.length ((u.getD v.length 0+4294967296 - (takeSt g v u v.length).2) % 4294967296) (by rw [h.len];omega);rw [h.far _ (Nat.le_refl _)] at hs;have hk:=last_val (u.getD v.length 0) (takeSt g v u v.length).2 (getD_lt hu _) h.owed;unfold takeRow takeBelow;rw [pow_succ32];simp only [decide_eq_true_eq]
 generalize (if u.getD v.length 0<(takeSt g v u v.length).2 then 1 else 0)=b at *
 generalize lv ((takeSt g v u v.length).1.set v.length ((u.getD v.length 0+4294967296 - (takeSt g v u v.length).2) % 4294967296))=L' at *
 generalize (u.getD v.length 0+4294967296 - (takeSt g v u v.length).2) % 4294967296=X' at *
 generalize u.getD v.length 0=x at *
 generalize (takeSt g v u v.length).2=c at *
 generalize lv (takeSt g v u v.length).1=L at *
 generalize 2 ^ (32*v.length)=Q at *
 have e1:Q*(X'+c)=Q*(x+4294967296*b):=by rw [hk]
 rw [Nat.mul_add,Nat.mul_add,←Nat.mul_assoc Q] at e1;omega
def giveSt (v u:List Nat):Nat→List Nat × Nat
 | 0=>(u,0)
 | i+1=>((giveSt v u i).1.set i (((giveSt v u i).2+((giveSt v u i).1.getD i 0+v.getD i 0)) % 4294967296),((giveSt v u i).2+((giveSt v u i).1.getD i 0+v.getD i 0)) / 4294967296)
structure GiveOk (v u:List Nat) (i:Nat):Prop where
 len:(giveSt v u i).1.length=u.length
 sm:small (giveSt v u i).1
 carry:(giveSt v u i).2≤1
 far:∀ t,i≤t→(giveSt v u i).1.getD t 0=u.getD t 0
 val:lv (giveSt v u i).1+2 ^ (32*i)*(giveSt v u i).2=lv u+lv (v.take i)
theorem give_ok (v u:List Nat) (hv:small v) (hu:small u) (hl:v.length≤u.length):∀ i,i≤v.length→GiveOk v u i
 | 0,_=>⟨rfl,hu,by simp [giveSt],fun t _=>rfl,by simp [giveSt,lv]⟩
 | i+1,hi=>by
   have h:=give_ok v u hv hu hl i (by omega);have hx:=getD_lt h.sm i;have hy:=getD_lt hv i;have hc:=h.carry;refine ⟨by simp only [giveSt];rw [List.length_set,h.len],small_set h.sm _ _ (Nat.mod_lt _ (by decide)),by simp only [giveSt];omega,fun t ht=>?_,?_⟩
   · simp only [giveSt]
     rw [getD_set_ne' _ _ _ _ (by omega)];exact h.far t (by omega)
   · have hval:=h.val
     have hs:=lv_set (giveSt v u i).1 i (((giveSt v u i).2+((giveSt v u i).1.getD i 0+v.getD i 0)) % 4294967296) (by rw [h.len];omega);have ht:=lv_takeD v i (by omega);simp only [giveSt];rw [pow_succ32,ht];have hk:=Nat.div_add_mod ((giveSt v u i).2+((giveSt v u i).1.getD i 0+v.getD i 0)) 4294967296
     generalize lv ((giveSt v u i).1.set i (((giveSt v u i).2+((giveSt v u i).1.getD i 0+v.getD i 0)) % 4294967296))=L' at *
     generalize ((giveSt v u i).2+((giveSt v u i).1.getD i 0+v.getD i 0)) % 4294967296=X' at *
     generalize ((giveSt v u i).2+((giveSt v u i).1.getD i 0+v.getD i 0)) / 4294967296=C' at *
     generalize (giveSt v u i).1.getD i 0=x at *
     generalize (giveSt v u i).2=c at *
     generalize lv (giveSt v u i).1=L at *
     generalize v.getD i 0=y at *
     generalize lv (v.take i)=T at *
     generalize 2 ^ (32*i)=Q at *
     have e1:Q*(4294967296*C'+X')=Q*(c+(x+y)):=by rw [hk]
     rw [Nat.mul_add,Nat.mul_add,Nat.mul_add,←Nat.mul_assoc] at e1;omega
def giveRow (v u:List Nat):List Nat:=(giveSt v u v.length).1.set v.length ((u.getD v.length 0+(giveSt v u v.length).2) % 4294967296)
theorem giveRow_len (v u:List Nat) (hv:small v) (hu:small u) (hl:v.length≤u.length):(giveRow v u).length=u.length:=by
 unfold giveRow;rw [List.length_set,(give_ok v u hv hu hl _ (Nat.le_refl _)).len]
theorem giveRow_small (v u:List Nat) (hv:small v) (hu:small u) (hl:v.length≤u.length):small (giveRow v u) :=
 small_set (give_ok v u hv hu hl _ (Nat.le_refl _)).sm _ _ (Nat.mod_lt _ (by decide))
theorem giveRow_val (v u:List Nat) (hv:small v) (hu:small u) (hl:u.length=v.length+1):lv (giveRow v u)+2 ^ (32*(v.length+1))*((u.getD v.length 0+(giveSt v u v.length).2) / 4294967296)=lv u+lv v:=by
 have h:=give_ok v u hv hu (by omega) _ (Nat.le_refl _);have hval:=h.val;rw [List.take_of_length_le (Nat.le_refl _)] at hval;have hs:=lv_set (giveSt v u v.length).1 v.length ((u.getD v.length 0+(giveSt v u v.length).2) % 4294967296) (by rw [h.len];omega);rw [h.far _ (Nat.le_refl _)] at hs;have hk:=Nat.div_add_mod (u.getD v.length 0+(giveSt v u v.length).2) 4294967296;unfold giveRow;rw [pow_succ32]
 generalize lv ((giveSt v u v.length).1.set v.length ((u.getD v.length 0+(giveSt v u v.length).2) % 4294967296))=L' at *
 generalize (u.getD v.length 0+(giveSt v u v.length).2) % 4294967296=X' at *
 generalize (u.getD v.length 0+(giveSt v u v.length).2) / 4294967296=C' at *
 generalize u.getD v.length 0=x at *
 generalize (giveSt v u v.length).2=c at *
 generalize lv (giveSt v u v.length).1=L at *
 generalize 2 ^ (32*v.length)=Q at *
 have e1:Q*(4294967296*C'+X')=Q*(x+c):=by rw [hk]
 rw [Nat.mul_add,Nat.mul_add,←Nat.mul_assoc] at e1;omega
end Go.Proofs.YtdefcbfofonabaaGreat

namespace Go.Proofs.YtdefcbfofonabaaGreat
set_option linter.unusedVariables false
set_option linter.unusedSimpArgs false
theorem guess_down (U V q W P Ul V2 Vl g v1 v2 u3 rest Top:Nat) (hq:q*V≤U) (hU:U=W*P+Ul) (hUl:Ul<P) (hV:V=V2*P+Vl) (hV2:V2=v1*4294967296+v2) (hW:W=Top*4294967296+u3)
 (hT:g*v1+rest=Top) (hqB:q<4294967296) (hg:4294967296≤g∨rest*4294967296+u3<g*v2):q<g:=by
 rcases hg with h | h
 · omega
 · refine Nat.lt_of_not_le fun hle=>?_
   have h1:W+1≤g*V2:=by
    rw [hV2,hW,←hT,Nat.mul_add,←Nat.mul_assoc,Nat.add_mul];omega
   have h2:(W+1)*P≤g*V2*P:=Nat.mul_le_mul_right _ h1;have h3:g*V≤q*V:=Nat.mul_le_mul_right _ hle;rw [hV,Nat.mul_add,←Nat.mul_assoc] at h3;rw [Nat.add_mul,Nat.one_mul] at h2;rw [hV] at hq
   generalize q*(V2*P+Vl)=qV at *
   generalize g*V2*P=gVP at *
   generalize g*Vl=gVl at *
   generalize W*P=WP at *
   omega
theorem guess_near (U V q W P Ul V2 Vl g v1 v2 u3 rest Top:Nat) (hq:U<(q+1)*V) (hU:U=W*P+Ul) (hVl:Vl<P) (hV:V=V2*P+Vl) (hV2:V2=v1*4294967296+v2) (hW:W=Top*4294967296+u3)
 (hT:g*v1+rest=Top) (hv1:1≤v1) (hgB:g<4294967296) (hg:g*v2≤rest*4294967296+u3):g≤q+1:=by
 refine Nat.le_of_not_lt fun hlt=>?_
 obtain ⟨h,rfl⟩:∃ h,g=h+1:=⟨g - 1,by omega⟩
 have h1:(h+1)*V2≤W:=by
  rw [hV2,hW,←hT,Nat.mul_add,←Nat.mul_assoc,Nat.add_mul ((h+1)*v1)];omega
 have h2:(h+1)*V2*P≤W*P:=Nat.mul_le_mul_right _ h1;have h3:(q+1)*V≤h*V:=Nat.mul_le_mul_right _ (by omega)
 have h4:h*V=h*V2*P+h*Vl:=by rw [hV,Nat.mul_add,Nat.mul_assoc]
 have h5:h*Vl≤h*P:=Nat.mul_le_mul_left _ (by omega)
 have h6:(h+1)*V2*P=h*V2*P+V2*P:=by rw [Nat.add_mul,Nat.add_mul,Nat.one_mul]
 have h7:h*P≤V2*P:=Nat.mul_le_mul_right _ (by rw [hV2];have:=Nat.mul_le_mul_right 4294967296 hv1;omega);omega
theorem guess_break (g v2 u3 rest:Nat) (hg:g<4294967296) (hv2:v2<4294967296) (hr:4294967296≤rest):g*v2≤rest*4294967296+u3:=by
 have h1:g*v2≤4294967296*4294967296:=Nat.mul_le_mul (by omega) (by omega);have h2:4294967296*4294967296≤rest*4294967296:=Nat.mul_le_mul_right _ hr;omega
theorem guess_first (u1 u2 v1:Nat) (h1:u1≤v1) (h2:u2<4294967296) (hv:2147483648≤v1):(u1*4294967296+u2) / v1≤4294967297:=by
 refine Nat.le_of_lt_succ ((Nat.div_lt_iff_lt_mul (by omega)).2 ?_);have:u1*4294967296≤v1*4294967296:=Nat.mul_le_mul_right _ h1;omega
theorem first_above (U V q Top P Ul Vl v1:Nat) (hq:q*V≤U) (hU:U=Top*P+Ul) (hUl:Ul<P) (hV:V=v1*P+Vl) (hv:1≤v1):q≤Top / v1:=by
 rw [Nat.le_div_iff_mul_le (by omega)]
 refine Nat.le_of_not_lt fun hlt=>?_
 have h1:(Top+1)*P≤q*v1*P:=Nat.mul_le_mul_right _ hlt;rw [hV,Nat.mul_add,←Nat.mul_assoc] at hq;rw [Nat.add_mul,Nat.one_mul] at h1;omega
theorem quot_of (U V g q L B:Nat) (b:Nat) (hV:0<V) (hq:q=U / V) (h1:q≤g) (h2:g≤q+1) (hB:U<B) (hL:L<B) (hv:L+g*V=U+B*b) (hb:b≤1):(b=0→g=q∧L=U % V)∧(b=1→g=q+1∧L+V=U % V+B):=by
 have hdm:=Nat.div_add_mod U V;have hlt:=Nat.mod_lt U hV;rw [←hq,Nat.mul_comm] at hdm
 have hcase:g=q∨g=q+1:=by omega
 constructor
 · rintro rfl
   rcases hcase with rfl | rfl
   · exact ⟨rfl,by omega⟩
   · rw [Nat.add_mul,Nat.one_mul] at hv;omega
 · rintro rfl
   rcases hcase with rfl | rfl
   · omega
   · rw [Nat.add_mul,Nat.one_mul] at hv;exact ⟨rfl,by omega⟩
def digs:Nat→Nat→List Nat
 | 0,_=>[]
 | k+1,N=>N % 4294967296 :: digs k (N / 4294967296)
theorem digs_len (k N:Nat):(digs k N).length=k:=by
 induction k generalizing N with
 | zero=>rfl
 | succ k ih=>simp only [digs,List.length_cons,ih]
theorem digs_small (k N:Nat):small (digs k N):=by
 induction k generalizing N with
 | zero=>exact small_nil
 | succ k ih=>exact small_cons.2 ⟨Nat.mod_lt _ (by decide),ih _⟩
theorem digs_lv (l:List Nat) (h:small l):digs l.length (lv l)=l:=by
 induction l with
 | nil=>rfl
 | cons a l ih =>
   obtain ⟨h1,h2⟩:=small_cons.1 h;simp only [List.length_cons,digs,lv];rw [show (a+4294967296*lv l) / 4294967296=lv l by omega,ih h2,show (a+4294967296*lv l) % 4294967296=a by omega]
theorem lv_digs (k N:Nat) (h:N<2 ^ (32*k)):lv (digs k N)=N:=by
 induction k generalizing N with
 | zero=>simp at h;subst h;rfl
 | succ k ih =>
   rw [pow_succ32] at h;simp only [digs,lv];rw [ih _ ((Nat.div_lt_iff_lt_mul (by decide)).2 h)];omega
theorem lv_inj {l m:List Nat} (hl:small l) (hm:small m) (h:l.length=m.length) (hv:lv l=lv m):l=m:=by
 rw [←digs_lv l hl,←digs_lv m hm,h,hv]
def win (u:List Nat) (j n:Nat):List Nat:=(u.drop j).take (n+1)
def putWin (u:List Nat) (j:Nat) (x:List Nat):List Nat:=u.take j ++ x ++ u.drop (j+x.length)
theorem win_len (u:List Nat) (j n:Nat) (h:j+n+1≤u.length):(win u j n).length=n+1:=by
 simp only [win,List.length_take,List.length_drop];omega
theorem win_small {u:List Nat} (h:small u) (j n:Nat):small (win u j n):=small_take (small_drop h j) _
theorem putWin_len (u:List Nat) (j:Nat) (x:List Nat) (h:j+x.length≤u.length):(putWin u j x).length=u.length:=by
 simp only [putWin,List.length_append,List.length_take,List.length_drop];omega
theorem putWin_small {u x:List Nat} (hu:small u) (hx:small x) (j:Nat):small (putWin u j x) :=
 small_append.2 ⟨small_append.2 ⟨small_take hu _,hx⟩,small_drop hu _⟩
theorem putWin_drop (u:List Nat) (j:Nat) (x:List Nat) (h:j+x.length≤u.length):(putWin u j x).drop j=x ++ u.drop (j+x.length):=by
 unfold putWin;rw [List.append_assoc,List.drop_append_of_le_length (by rw [List.length_take];omega)];rw [List.drop_of_length_le (by rw [List.length_take];omega),List.nil_append]
theorem putWin_take (u:List Nat) (j:Nat) (x:List Nat) (h:j≤u.length):(putWin u j x).take j=u.take j:=by
 unfold putWin;rw [List.append_assoc,List.take_append_of_le_length (by rw [List.length_take];omega),List.take_take]
 congr 1;omega
theorem lv_win (u:List Nat) (j n:Nat) (h:j+n+1≤u.length):lv (u.drop j)=lv (win u j n)+2 ^ (32*(n+1))*lv (u.drop (j+(n+1))):=by
 have h1:u.drop j=win u j n ++ u.drop (j+(n+1)):=by
  rw [win,←List.drop_drop,List.take_append_drop]
 have h2:=congrArg lv h1;rw [lv_append,win_len u j n h] at h2;exact h2
def longSt (u v:List Nat) (m:Nat):Nat→List Nat × List Nat
 | 0=>(u,List.replicate m 0)
 | k+1=>(putWin (longSt u v m k).1 (m - (k+1)) (digs (v.length+1) (lv (win (longSt u v m k).1 (m - (k+1)) v.length) % lv v)),(longSt u v m k).2.set (m - (k+1)) (lv (win (longSt u v m k).1 (m - (k+1)) v.length) / lv v))
structure LongOk (u v:List Nat) (m k:Nat):Prop where
 len:(longSt u v m k).1.length=u.length
 qlen:(longSt u v m k).2.length=m
 sm:small (longSt u v m k).1
 qsm:small (longSt u v m k).2
 top:lv ((longSt u v m k).1.drop (m - k))<lv v
 low:∀ t,t<m - k→(longSt u v m k).2.getD t 0=0
 val:lv (longSt u v m k).1+lv (longSt u v m k).2*lv v=lv u
theorem drop_cons (l:List Nat) (j:Nat) (h:j<l.length):lv (l.drop j)=l.getD j 0+4294967296*lv (l.drop (j+1)):=by
 rw [List.drop_eq_getElem_cons h];simp only [lv];rw [List.getD_eq_getElem?_getD,List.getElem?_eq_getElem h]
 rfl
theorem high_zero (l:List Nat) (hs:small l) (j n:Nat) (h:lv (l.drop j)<2 ^ (32*n)) (hl:j+n≤l.length):lv (l.drop (j+n))=0:=by
 have h1:l.drop j=(l.drop j).take n ++ l.drop (j+n):=by
  rw [←List.drop_drop,List.take_append_drop]
 have h2:=congrArg lv h1;rw [lv_append,List.length_take,List.length_drop,Nat.min_eq_left (by omega)] at h2;rcases Nat.eq_zero_or_pos (lv (l.drop (j+n))) with h0 | h0
 · exact h0
 · have:2 ^ (32*n)*1≤2 ^ (32*n)*lv (l.drop (j+n)):=Nat.mul_le_mul_left _ h0
   omega
theorem win_lt (u v:List Nat) (hv:small v) (m k:Nat) (hk:k<m) (h:LongOk u v m k) (hl:u.length=m+v.length):lv (win (longSt u v m k).1 (m - (k+1)) v.length)<lv v*4294967296∧lv ((longSt u v m k).1.drop (m - (k+1)+(v.length+1)))=0∧lv ((longSt u v m k).1.drop (m - (k+1)))=lv (win (longSt u v m k).1 (m - (k+1)) v.length):=by
 have htop:=h.top;have hlen:=h.len;have hsm:=h.sm
 obtain ⟨j,hj⟩:∃ j,m - (k+1)=j:=⟨_,rfl⟩
 rw [show m - k=j+1 by omega] at htop;rw [hj];have h1:=drop_cons (longSt u v m k).1 j (by omega);have h2:=getD_lt hsm j;have h3:=high_zero (longSt u v m k).1 hsm (j+1) v.length (Nat.lt_trans htop (lv_lt v hv)) (by omega);have h4:=lv_win (longSt u v m k).1 j v.length (by omega);rw [show j+1+v.length=j+(v.length+1) by omega] at h3;rw [h3,Nat.mul_zero,Nat.add_zero] at h4;refine ⟨?_,h3,h4⟩;rw [←h4,h1];omega
theorem long_ok (u v:List Nat) (hu:small u) (hv:small v) (hV:0<lv v) (m:Nat) (hl:u.length=m+v.length) (h0:lv (u.drop m)<lv v):∀ k,k≤m→LongOk u v m k
 | 0,_=>⟨rfl,by simp [longSt],hu,by simp only [longSt];exact small_zeros _,by simpa [longSt] using h0,fun t _=>by simp only [longSt];exact rep_getD0 _ _,by simp [longSt,lv_zeros]⟩
 | k+1,hk=>by
   have h:=long_ok u v hu hv hV m hl h0 k (by omega);obtain ⟨hw1,hw2,hw3⟩:=win_lt u v hv m k (by omega) h hl;have hlen:=h.len;have hqlen:=h.qlen;have hval:=h.val;have hlow:=h.low (m - (k+1)) (by omega)
   obtain ⟨j,hj⟩:∃ j,m - (k+1)=j:=⟨_,rfl⟩
   rw [hj] at hw1 hw2 hw3 hlow;have hR:lv (win (longSt u v m k).1 j v.length) % lv v<lv v:=Nat.mod_lt _ hV
   have hRb:lv (win (longSt u v m k).1 j v.length) % lv v<2 ^ (32*(v.length+1)):=by
    have:=lv_lt v hv;rw [pow_succ32];omega
   have hdl:=digs_len (v.length+1) (lv (win (longSt u v m k).1 j v.length) % lv v);have hdv:=lv_digs _ _ hRb
   have hq:lv (win (longSt u v m k).1 j v.length) / lv v<4294967296:=by
    rw [Nat.div_lt_iff_lt_mul hV,Nat.mul_comm];exact hw1
   have hpd:=putWin_drop (longSt u v m k).1 j (digs (v.length+1) (lv (win (longSt u v m k).1 j v.length) % lv v)) (by omega);have hpt:=putWin_take (longSt u v m k).1 j (digs (v.length+1) (lv (win (longSt u v m k).1 j v.length) % lv v)) (by omega);have hpl:=putWin_len (longSt u v m k).1 j (digs (v.length+1) (lv (win (longSt u v m k).1 j v.length) % lv v)) (by omega)
   have hdrop:lv ((putWin (longSt u v m k).1 j (digs (v.length+1) (lv (win (longSt u v m k).1 j v.length) % lv v))).drop j)=lv (win (longSt u v m k).1 j v.length) % lv v:=by
    rw [hpd,lv_append,hdl,hw2,Nat.mul_zero,Nat.add_zero,hdv]
   have hs:=lv_set (longSt u v m k).2 j (lv (win (longSt u v m k).1 j v.length) / lv v) (by omega);rw [hlow,Nat.mul_zero,Nat.add_zero] at hs
   refine ⟨?_,?_,?_,?_,?_,fun t ht=>?_,?_⟩<;>simp only [longSt,hj]
   · omega
   · rw [List.length_set,hqlen]
   · exact putWin_small h.sm (digs_small _ _) _
   · exact small_set h.qsm _ _ hq
   · rw [hdrop];exact hR
   · rw [getD_set_ne' _ _ _ _ (by omega)]
     exact h.low t (by omega)
   · have e1:lv (putWin (longSt u v m k).1 j (digs (v.length+1) (lv (win (longSt u v m k).1 j v.length) % lv v)))=lv ((longSt u v m k).1.take j)+2 ^ (32*j)*(lv (win (longSt u v m k).1 j v.length) % lv v):=by
      have e:=congrArg lv (List.take_append_drop j (putWin (longSt u v m k).1 j (digs (v.length+1) (lv (win (longSt u v m k).1 j v.length) % lv v))));rw [lv_append,hdrop,hpt,List.length_take,Nat.min_eq_left (by omega)] at e;exact e.symm
     have e2:lv (longSt u v m k).1=lv ((longSt u v m k).1.take j)+2 ^ (32*j)*lv (win (longSt u v m k).1 j v.length):=by
      have e:=congrArg lv (List.take_append_drop j (longSt u v m k).1);rw [lv_append,hw3,List.length_take,Nat.min_eq_left (by omega)] at e;exact e.symm
     rw [e1,hs];rw [e2] at hval;have hdm:=Nat.div_add_mod (lv (win (longSt u v m k).1 j v.length)) (lv v)
     generalize lv (win (longSt u v m k).1 j v.length) / lv v=Q at *
     generalize lv (win (longSt u v m k).1 j v.length) % lv v=R at *
     generalize lv (win (longSt u v m k).1 j v.length)=W at *
     generalize 2 ^ (32*j)=P at *
     rw [←hval,←hdm,Nat.mul_add,Nat.add_mul,Nat.mul_comm (lv v) Q,Nat.mul_assoc P];omega
theorem long_val (u v:List Nat) (hu:small u) (hv:small v) (hV:0<lv v) (m:Nat) (hl:u.length=m+v.length) (h0:lv (u.drop m)<lv v):lv (longSt u v m m).2=lv u / lv v∧lv (longSt u v m m).1=lv u % lv v:=by
 have h:=long_ok u v hu hv hV m hl h0 m (Nat.le_refl _);have hval:=h.val;have htop:=h.top;rw [Nat.sub_self,List.drop_zero] at htop;rw [←hval]
 constructor
 · rw [Nat.add_mul_div_right _ _ hV,Nat.div_eq_of_lt htop,Nat.zero_add]
 · rw [Nat.add_mul_mod_self_right,Nat.mod_eq_of_lt htop]
theorem long_rest (u v:List Nat) (hu:small u) (hv:small v) (hV:0<lv v) (m:Nat) (hl:u.length=m+v.length) (h0:lv (u.drop m)<lv v):lv ((longSt u v m m).1.take v.length)=lv u % lv v:=by
 have h:=long_ok u v hu hv hV m hl h0 m (Nat.le_refl _);have hlen:=h.len;have htop:=h.top;rw [Nat.sub_self,List.drop_zero] at htop;have h3:=high_zero (longSt u v m m).1 h.sm 0 v.length (by rw [List.drop_zero];exact Nat.lt_trans htop (lv_lt v hv)) (by omega);rw [Nat.zero_add] at h3;have e:=congrArg lv (List.take_append_drop v.length (longSt u v m m).1);rw [lv_append,h3,Nat.mul_zero,Nat.add_zero] at e;rw [e,(long_val u v hu hv hV m hl h0).2]
end Go.Proofs.YtdefcbfofonabaaGreat

namespace Go.Proofs.YtdefcbfofonabaaGreat
open Go.RowKit
set_option linter.unusedVariables false
set_option linter.unusedSimpArgs false
theorem putWin_get (u x:List Nat) (j i:Nat) (hj:j≤u.length) (hi:i<x.length):(putWin u j x).getD (j+i) 0=x.getD i 0:=by
 have h:(u.take j).length=j:=by rw [List.length_take];omega
 rw [List.getD_eq_getElem?_getD,List.getD_eq_getElem?_getD,putWin,List.append_assoc,List.getElem?_append_right (by omega),h,Nat.add_sub_cancel_left,List.getElem?_append_left hi]
theorem putWin_set (u x:List Nat) (j i y:Nat) (hj:j≤u.length) (hi:i<x.length):(putWin u j x).set (j+i) y=putWin u j (x.set i y):=by
 have h:(u.take j).length=j:=by rw [List.length_take];omega
 rw [putWin,putWin,List.append_assoc,List.set_append_right _ _ (by omega),h,Nat.add_sub_cancel_left,List.set_append_left _ _ hi,List.append_assoc,List.length_set]
theorem putWin_self (u:List Nat) (j n:Nat) (h:j+n+1≤u.length):putWin u j (win u j n)=u:=by
 rw [putWin,win_len u j n h,List.append_assoc,win,←List.drop_drop,List.take_append_drop,List.take_append_drop]
theorem putWin_put (u x y:List Nat) (j:Nat) (hx:j+x.length≤u.length) (h:x.length=y.length):putWin (putWin u j x) j y=putWin u j y:=by
 rw [putWin,putWin_take _ _ _ (by omega),←List.drop_drop,putWin_drop _ _ _ hx,←h,List.drop_left,putWin,h]
theorem win_put (u x:List Nat) (j n:Nat) (hx:j+x.length≤u.length) (h:x.length=n+1):win (putWin u j x) j n=x:=by
 rw [win,putWin_drop _ _ _ hx,←h,List.take_left]
structure WRow (g:Nat) (tl:List Value) (w wr:World) (L:List Nat):Prop where
 blk:wr.heap[g]?=some (.cells (lw L ++ tl).toArray 125 (0,0))
 fr:Fr (fun b=>b=g) w wr
theorem WRow.cell {g:Nat} {tl:List Value} {w wr:World} {L:List Nat} (h:WRow g tl w wr L) (k:Nat) (hk:k<L.length):wr.cell? ⟨g,k,none⟩=some (.int .u32 ((L.getD k 0:Nat):Int))∧wr.frozen? ⟨g,k,none⟩=false :=
 ⟨(cell_of_blk h.blk k).trans (by rw [List.getElem?_toArray,List.getElem?_append_left (by rw [lw_length];exact hk)];exact lw_getD L k hk),frozen_of_blk h.blk k⟩
theorem WRow.set {g:Nat} {tl:List Value} {w wr:World} {L:List Nat} (h:WRow g tl w wr L) (k v:Nat) (hk:k<L.length):WRow g tl w (wr.setCell ⟨g,k,none⟩ (.int .u32 (v:Int))) (L.set k v):=by
 refine ⟨?_,h.fr.setCell ⟨g,k,none⟩ _ (.inl rfl)⟩;rw [set_blk h.blk k]
 congr 2
 simp only [List.setIfInBounds_toArray];rw [List.set_append_left _ _ (by rw [lw_length];exact hk)];simp [lw,List.map_set]
theorem WRow.of {w:World} {B n:Nat} {v:Value} {L:List Nat} (h:w.ownsRow B 125 1 v n (lw L)) (hn:0<n):∃ g tl c,v=.slice (some ⟨g,0,none⟩) n c∧n≤c∧B≤g∧g<w.heap.size∧n+tl.length=c∧c≤maxLen∧WRow g tl w w L:=by
 rcases h.2 with ⟨rfl,h0⟩ | ⟨g,cap,cur,rfl,hb,hg,hnc,hm,hs,ht⟩
 · omega
 · refine ⟨g,cur.toList.drop n,cap,rfl,hnc,hb,(Array.getElem?_eq_some_iff.1 hg).1,?_,hm,?_,Fr.refl _ _⟩
   · rw [List.length_drop,Array.length_toList];omega
   · rw [Nat.mul_one] at ht
     rw [←ht,List.take_append_drop,Array.toArray_toList];exact hg
end Go.Proofs.YtdefcbfofonabaaGreat

namespace Go.Proofs.YtdefcbfofonabaaGreat
open Go.RowKit
set_option linter.unusedVariables false
set_option linter.unusedSimpArgs false
set_option maxRecDepth 100000 in
set_option maxHeartbeats 4000000 in
theorem take_any (L V:List Nat) (g j n c gs:Nat) (tl:List Value) (A2:Option Addr) (c2:Nat) (w:World) (hL:small L) (hV:small V) (hVl:V.length=n) (hgs:gs<4294967296) (hj:j+n+1≤L.length) (hLn:L.length≤1099511627776) (hnc:n+1≤c) (hnc2:n≤c2) (hw:WRow g tl w w L) (hv:∀ W,Fr (fun b=>b=g) w W→Rd W 1 A2 n (lw V)) :
 Calls Tryz.prog 103 #[.slice (some ⟨g,j,none⟩) (n+1:Nat) c,.slice A2 n c2,.int .u64 (gs:Int)] w fun e w'=>e=.returned (.bool (takeBelow gs V (win L j n)))∧WRow g tl w w' (putWin L j (takeRow gs V (win L j n))):=by
 have hwl:=win_len L j n hj;have hws:=win_small hL j n
 have hok:=fun k hk=>take_ok gs V (win L j n) hgs hV hws (by omega) k hk
 have hps:=putWin_self L j n hj;have HV:=Lib.hid hv
 have hl0:WRow g tl w w (putWin L j (takeSt gs V (win L j n) 0).1):=by rw [takeSt,hps];exact hw
 have HL0:=Lib.hid hl0;have HS:=Lib.hid hV;have HOK:=Lib.hid hok
 generalize win L j n=U at *
 clear hv hw hl0 hok hV
 go_enter Tryz.func103,Tryz.ntmps103
 go_wp2_with fail
 go_loopw [7,14] (fun cy x wr=>∃ k:Nat,k≤n∧x=.int .i64 (k:Int)∧cy=.int .u64 ((takeSt gs V U k).2:Nat)∧WRow g tl w wr (putWin L j (takeSt gs V U k).1)) (fun _ x _=>n - (intOf x).toNat)
 case atStart=>exact ⟨0,Nat.zero_le _,rfl,rfl,HL0.out⟩
 case round =>
  obtain ⟨k,hk,rfl,rfl,hst⟩:=hrel;have hg:=HOK.out k (by omega);have hgl:=hg.len;have hpl:=putWin_len L j (takeSt gs V U k).1 (by omega)
  by_cases hlt:k<n
  · obtain ⟨b1,o1,rfl,y0⟩:=(HV.out _ hst.fr).limb k hlt hVl
    have hys:=getD_lt HS.out k;have hnx:takeSt gs V U (k+1)=((takeSt gs V U k).1.set k (((takeSt gs V U k).1.getD k 0+4294967296 - (gs*V.getD k 0+(takeSt gs V U k).2) % 4294967296) % 4294967296),(gs*V.getD k 0+(takeSt gs V U k).2) / 4294967296+(if (takeSt gs V U k).1.getD k 0<(gs*V.getD k 0+(takeSt gs V U k).2) % 4294967296 then 1 else 0)):=rfl;have hzs:=getD_lt hg.sm k;obtain ⟨z0,z1⟩:=hst.cell (j+k) (by omega);rw [putWin_get L _ j k (by omega) (by omega)] at z0;have hcs:=hg.owed;obtain ⟨i1,i2,i3⟩:=prod_int gs (V.getD k 0) hgs hys
    generalize V.getD k 0=y at *
    generalize (takeSt gs V U k).1.getD k 0=z at *
    generalize takeSt gs V U k=st at *
    obtain ⟨t,cc⟩:=st;simp only at hst z0 z1 hcs hnx hgl hpl;have hp:=take_p gs y cc hgs hys hcs
    have eN:((gs*y+cc:Nat):Int)=(gs:Int)*(y:Int)+(cc:Int):=by rw [Int.natCast_add,i3]
    have HST:=Lib.hid hst;have HNX:=Lib.hid hnx;have HEN:=Lib.hid eN;clear hst hnx hg eN
    by_cases hlow:z<(gs*y+cc) % 4294967296
    · have hd:decide ((z:Int)<((gs:Int)*(y:Int)+(cc:Int)) % 4294967296)=true:=by rw [decide_eq_true_eq,←HEN.out];omega
      go_wp2_with fail
      refine ⟨⟨k+1,by omega,by go_num,?_,?_⟩,by simp [intOf];omega⟩
      · rw [HNX.out,←HEN.out]
        simp only [if_pos hlow]
        first | rfl | (congr 1;omega)
      · rw [HNX.out,←HEN.out]
        have:=HST.out.set (j+k) ((z+4294967296 - (gs*y+cc) % 4294967296) % 4294967296) (by omega);rw [putWin_set L t j k _ (by omega) (by omega)] at this
        generalize gs*y+cc=N at *
        rw [show (((z+4294967296 - N % 4294967296) % 4294967296:Nat):Int)=((z:Int) - (N:Int)) % 4294967296 by omega] at this;exact this
    · have hd:decide ((z:Int)<((gs:Int)*(y:Int)+(cc:Int)) % 4294967296)=false:=by rw [decide_eq_false_iff_not,←HEN.out];omega
      go_wp2_with fail
      refine ⟨⟨k+1,by omega,by go_num,?_,?_⟩,by simp [intOf];omega⟩
      · rw [HNX.out,←HEN.out]
        simp only [if_neg hlow]
        first | rfl | (congr 1;omega)
      · rw [HNX.out,←HEN.out]
        have:=HST.out.set (j+k) ((z+4294967296 - (gs*y+cc) % 4294967296) % 4294967296) (by omega);rw [putWin_set L t j k _ (by omega) (by omega)] at this
        generalize gs*y+cc=N at *
        rw [show (((z+4294967296 - N % 4294967296) % 4294967296:Nat):Int)=(z:Int) - (N:Int) % 4294967296 by omega] at this;exact this
  · obtain rfl:k=n:=by omega
    obtain ⟨z0,z1⟩:=hst.cell (j+k) (by omega);rw [putWin_get L _ j k (by omega) (by omega),hg.far k (Nat.le_refl _)] at z0;have hzs:=getD_lt hws k;have hcs:=hg.owed
    have hfin:takeRow gs V U=(takeSt gs V U k).1.set k ((U.getD k 0+4294967296 - (takeSt gs V U k).2) % 4294967296):=by rw [takeRow,hVl]
    have hbel:takeBelow gs V U=decide (U.getD k 0<(takeSt gs V U k).2):=by rw [takeBelow,hVl]
    have hrow:=fun y=>putWin_set L (takeSt gs V U k).1 j k y (by omega) (by omega)
    generalize U.getD k 0=z at *
    generalize takeSt gs V U k=st at *
    obtain ⟨t,cc⟩:=st;simp only at hst z0 z1 hcs hgl hpl hfin hrow hbel;have HFIN:=Lib.hid hfin;have HBEL:=Lib.hid hbel;have HR:=Lib.hid hrow;have HST:=Lib.hid hst;clear hst hg hfin hrow hbel
    go_wp2_with fail
    have hn:=HST.out.set (j+k) ((z+4294967296 - cc) % 4294967296) (by omega);rw [show (((z+4294967296 - cc) % 4294967296:Nat):Int)=((z:Int) - (cc:Int)) % 4294967296 by omega] at hn;refine ⟨rfl,.bool (decide (z<cc)),by simp [results,Tryz.results103,go_sem],by rw [HBEL.out],?_⟩;rw [HFIN.out,←HR.out];exact hn
end Go.Proofs.YtdefcbfofonabaaGreat

namespace Go.Proofs.YtdefcbfofonabaaGreat
open Go.RowKit
set_option linter.unusedVariables false
set_option linter.unusedSimpArgs false
set_option maxRecDepth 100000 in
set_option maxHeartbeats 4000000 in
theorem give_any (L V:List Nat) (g j n c:Nat) (tl:List Value) (A2:Option Addr) (c2:Nat) (w:World) (hL:small L) (hV:small V) (hVl:V.length=n) (hj:j+n+1≤L.length) (hLn:L.length≤1099511627776) (hnc:n+1≤c) (hnc2:n≤c2) (hw:WRow g tl w w L) (hv:∀ W,Fr (fun b=>b=g) w W→Rd W 1 A2 n (lw V)) :
 Calls Tryz.prog 104 #[.slice (some ⟨g,j,none⟩) (n+1:Nat) c,.slice A2 n c2] w fun e w'=>(∃ v,e=.returned v)∧WRow g tl w w' (putWin L j (giveRow V (win L j n))):=by
 have hwl:=win_len L j n hj;have hws:=win_small hL j n
 have hok:=fun k hk=>give_ok V (win L j n) hV hws (by omega) k hk
 have hps:=putWin_self L j n hj;have HV:=Lib.hid hv
 have hl0:WRow g tl w w (putWin L j (giveSt V (win L j n) 0).1):=by rw [giveSt,hps];exact hw
 have HL0:=Lib.hid hl0;have HS:=Lib.hid hV;have HOK:=Lib.hid hok
 generalize win L j n=U at *
 clear hv hw hl0 hok hV
 go_enter Tryz.func104,Tryz.ntmps104
 go_wp2_with fail
 go_loopw [4,9] (fun cy x wr=>∃ k:Nat,k≤n∧x=.int .i64 (k:Int)∧cy=.int .u64 ((giveSt V U k).2:Nat)∧WRow g tl w wr (putWin L j (giveSt V U k).1)) (fun _ x _=>n - (intOf x).toNat)
 case atStart=>exact ⟨0,Nat.zero_le _,rfl,rfl,HL0.out⟩
 case round =>
  obtain ⟨k,hk,rfl,rfl,hst⟩:=hrel;have hg:=HOK.out k (by omega);have hgl:=hg.len;have hpl:=putWin_len L j (giveSt V U k).1 (by omega)
  by_cases hlt:k<n
  · obtain ⟨b1,o1,rfl,y0⟩:=(HV.out _ hst.fr).limb k hlt hVl
    have hys:=getD_lt HS.out k;have hnx:giveSt V U (k+1)=((giveSt V U k).1.set k (((giveSt V U k).2+((giveSt V U k).1.getD k 0+V.getD k 0)) % 4294967296),((giveSt V U k).2+((giveSt V U k).1.getD k 0+V.getD k 0)) / 4294967296):=rfl;have hzs:=getD_lt hg.sm k;obtain ⟨z0,z1⟩:=hst.cell (j+k) (by omega);rw [putWin_get L _ j k (by omega) (by omega)] at z0;have hcs:=hg.carry
    generalize V.getD k 0=y at *
    generalize (giveSt V U k).1.getD k 0=z at *
    generalize giveSt V U k=st at *
    obtain ⟨t,cc⟩:=st;simp only at hst z0 z1 hcs hnx hgl hpl;have HST:=Lib.hid hst;have HNX:=Lib.hid hnx;clear hst hnx hg
    go_wp2_with fail
    have eN:((cc+(z+y):Nat):Int)=(cc:Int)+((z:Int)+(y:Int)):=by rw [Int.natCast_add,Int.natCast_add]
    have hN:cc+(z+y)<18446744073709551616:=by omega
    generalize cc+(z+y)=N at *
    rw [←eN];go_roundw
    case rel =>
     refine ⟨k+1,by omega,by go_num,by rw [HNX.out];rfl,?_⟩;rw [HNX.out];have:=HST.out.set (j+k) (N % 4294967296) (by omega);rw [putWin_set L t j k _ (by omega) (by omega)] at this;exact this
    case measure=>simp [intOf];omega
  · obtain rfl:k=n:=by omega
    obtain ⟨z0,z1⟩:=hst.cell (j+k) (by omega);rw [putWin_get L _ j k (by omega) (by omega),hg.far k (Nat.le_refl _)] at z0;have hzs:=getD_lt hws k;have hcs:=hg.carry
    have hfin:giveRow V U=(giveSt V U k).1.set k ((U.getD k 0+(giveSt V U k).2) % 4294967296):=by rw [giveRow,hVl]
    have hrow:=fun y=>putWin_set L (giveSt V U k).1 j k y (by omega) (by omega)
    generalize U.getD k 0=z at *
    generalize giveSt V U k=st at *
    obtain ⟨t,cc⟩:=st;simp only at hst z0 z1 hcs hgl hpl hfin hrow;have HFIN:=Lib.hid hfin;have HR:=Lib.hid hrow;have HST:=Lib.hid hst;clear hst hg hfin hrow
    go_wp2_with fail
    refine ⟨rfl,.tuple #[],by simp [results,Tryz.results104,go_sem],⟨_,rfl⟩,?_⟩;rw [HFIN.out,←HR.out];have hn:=HST.out.set (j+k) ((z+cc) % 4294967296) (by omega);rw [Int.natCast_emod,Int.natCast_add] at hn;exact hn
end Go.Proofs.YtdefcbfofonabaaGreat

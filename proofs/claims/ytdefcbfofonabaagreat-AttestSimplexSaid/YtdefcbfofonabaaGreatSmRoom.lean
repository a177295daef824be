/- Contract of (*simplex.table).room. -/
import Derived.Test.YtdefcbfofonabaaGreatDeC
import Derived.Test.YtdefcbfofonabaaGreatSxT
import Derived.Deep.DeepCutAuto
import Derived.Deep.RegionHeld3
import Derived.BigQuiet
import Derived.IntWalk
import Derived.Deep.QuietTactic
namespace Go.Proofs.YtdefcbfofonabaaGreat
open Go.RowKit
set_option linter.unusedVariables false
set_option linter.unusedSimpArgs false
theorem can_dn (P:Pb) (S:Sx) (u:Nat):canDown P S (P.nv+u)↔¬ P.op u=3∨0<cmpD (S.val (P.nv+u)) (P.hi u):=by
 have h1:¬ (P.nv+u<P.nv):=by omega
 have h2:P.nv+u - P.nv=u:=by omega
 unfold canDown hiOf;rw [cmpD_pos,if_neg h1,h2];simp [h1]
theorem can_up (P:Pb) (S:Sx) (u:Nat):canUp P S (P.nv+u)↔cmpD (S.val (P.nv+u)) (P.hi u)<0:=by
 have h1:¬ (P.nv+u<P.nv):=by omega
 have h2:P.nv+u - P.nv=u:=by omega
 unfold canUp hiOf;rw [cmpD_neg,if_neg h1,h2];simp [h1]
set_option maxRecDepth 100000 in
set_option maxHeartbeats 4000000 in
theorem room_any (B:Nat) (T:TL) (P:Pb) (S:Sx) (k v:Nat) (w:World) (h:TabAt w B T P S k) (hv:v<P.nv+P.m) (hk:k≤1000000) :
 Calls Tryz.prog 44 #[.pointer (some ⟨T.g,0,none⟩),.int .i64 (v:Int)] w fun r w'=>∃ down up:Bool,r=.returned (.tuple #[.bool down,.bool up])∧(down=true↔canDown P S v)∧(up=true↔canUp P S v)∧Below w.heap.size w w':=by
 obtain ⟨x0,x1,x2,x3,x4,x5,x6⟩:=box7 h;have hm8:=h.mm;have hn3:=h.nvm
 by_cases hlt:v<P.nv
 · have hlt':(v:Int)<(P.nv:Int):=by omega
   clear h
   go_enter Tryz.func44,Tryz.ntmps44
   go_wp2_with fail
   go_ret2
   exact ⟨true,true,rfl,by unfold canDown;simp [hlt],by unfold canUp;simp [hlt],Below.refl _ _⟩
 · obtain ⟨u,hu⟩:∃ u,v=P.nv+u:=⟨v - P.nv,by omega⟩
   have hum:u<P.m:=by omega
   have hm0:0<P.m:=by omega
   obtain ⟨d1,⟨y0,y1,y2,y3,y4,y5⟩,hd1,hl1⟩:=h.val.at_ v hv;obtain ⟨d2,⟨z0,z1,z2,z3,z4,z5⟩,hd2,hl2⟩:=h.his.at_ u hum;obtain ⟨b,off,eLA,hbB,hop⟩:=h.opl u hum;have ehA:=h.hA hm0;rw [ehA] at x6;rw [eLA] at x1
   have hcm:=fun W (hW:Below w.heap.size w W)=>dcmp_any d1 d2 (S.val v) (P.hi u) W (hd1.below hW) (hd2.below hW) k hk hl1 hl2
   have hcs:∀ W',Below w.heap.size w W'→(W'.cell? ⟨T.g,0,none⟩=some (.int .i64 (P.nv:Int))∧W'.cell? ⟨T.g,1,none⟩=some (.slice (some ⟨b,off,none⟩) P.m T.lc)∧W'.cell? ⟨T.g,5,none⟩=some (.slice (some ⟨T.gv,0,none⟩) (P.nv+P.m) T.vc)∧W'.cell? ⟨T.g,6,none⟩=some (.slice (some ⟨T.gh,0,none⟩) P.m T.hc))∧(W'.cell? ⟨T.gv,v*6,none⟩=some (.bool (ratNeg (S.val v).a))∧W'.cell? ⟨T.gv,v*6+1,none⟩=some (.slice d1.a.A d1.a.n d1.a.c)∧W'.cell? ⟨T.gv,v*6+2,none⟩=some (.slice d1.a.A2 d1.a.n2 d1.a.c2)∧W'.cell? ⟨T.gv,v*6+3,none⟩=some (.bool (ratNeg (S.val v).b))∧W'.cell? ⟨T.gv,v*6+4,none⟩=some (.slice d1.b.A d1.b.n d1.b.c)∧W'.cell? ⟨T.gv,v*6+5,none⟩=some (.slice d1.b.A2 d1.b.n2 d1.b.c2))∧(W'.cell? ⟨T.gh,u*6,none⟩=some (.bool (ratNeg (P.hi u).a))∧W'.cell? ⟨T.gh,u*6+1,none⟩=some (.slice d2.a.A d2.a.n d2.a.c)∧W'.cell? ⟨T.gh,u*6+2,none⟩=some (.slice d2.a.A2 d2.a.n2 d2.a.c2)∧W'.cell? ⟨T.gh,u*6+3,none⟩=some (.bool (ratNeg (P.hi u).b))∧W'.cell? ⟨T.gh,u*6+4,none⟩=some (.slice d2.b.A d2.b.n d2.b.c)∧W'.cell? ⟨T.gh,u*6+5,none⟩=some (.slice d2.b.A2 d2.b.n2 d2.b.c2))∧W'.cell? ⟨b,off+u*5+4,none⟩=some (.int .i64 (P.op u)):=by
    intro W' hb
    have k1:∀ {g i:Nat} {u:Value},w.cell? ⟨g,i,none⟩=some u→W'.cell? ⟨g,i,none⟩=some u:=fun {g i u} e=>(hb.cell (p:=⟨g,i,none⟩) (World.block_lt_of_cell? w _ e)).trans e
    exact ⟨⟨k1 x0,k1 x1,k1 x5,k1 x6⟩,⟨k1 y0,k1 y1,k1 y2,k1 y3,k1 y4,k1 y5⟩,⟨k1 z0,k1 z1,k1 z2,k1 z3,k1 z4,k1 z5⟩,k1 hop⟩
   have hlt':¬ ((v:Int)<(P.nv:Int)):=by omega
   have b1:IntKind.i64.wrap ((v:Int) - (P.nv:Int))=(u:Int):=by rw [IntWalk.i64_in _ (by omega)];omega
   have b2:(v:Int)<((P.nv+P.m:Nat):Int):=by omega
   have b2':(v:Int)<(P.nv:Int)+(P.m:Int):=by omega
   have b3:(u:Int)<(P.m:Int):=by omega
   have b4:v<P.nv+P.m:=hv
   have b5:(0:Int)≤(u:Int):=by omega
   have b6:(0:Int)≤(v:Int):=by omega
   have hdn:canDown P S v↔¬ P.op u=3∨0<cmpD (S.val v) (P.hi u):=by rw [hu];exact can_dn P S u
   have hup:canUp P S v↔cmpD (S.val v) (P.hi u)<0:=by rw [hu];exact can_up P S u
   obtain ⟨c,hc⟩:∃ c,c=cmpD (S.val v) (P.hi u):=⟨_,rfl⟩
   rw [←hc] at hdn hup;rw [←hc] at hcm;unfold DB.val at hcm;have HCS:=Lib.hid hcs;have HCM:=Lib.hid hcm;have HD:=Lib.hid (And.intro hdn hup);clear hcs hcm hdn hup hc x1 x2 x3 x4 x5 x6 y0 y1 y2 y3 y4 y5 z0 z1 z2 z3 z4 z5 hop hd1 hd2 hl1 hl2 h ehA eLA hbB hu
   go_enter Tryz.func44,Tryz.ntmps44
   go_upto_region 3 with fail
   go_region_held3 (fun W'=>(W'.cell? ⟨T.g,0,none⟩=some (.int .i64 (P.nv:Int))∧W'.cell? ⟨T.g,1,none⟩=some (.slice (some ⟨b,off,none⟩) P.m T.lc)∧W'.cell? ⟨T.g,5,none⟩=some (.slice (some ⟨T.gv,0,none⟩) (P.nv+P.m) T.vc)∧W'.cell? ⟨T.g,6,none⟩=some (.slice (some ⟨T.gh,0,none⟩) P.m T.hc))∧(W'.cell? ⟨T.gv,v*6,none⟩=some (.bool (ratNeg (S.val v).a))∧W'.cell? ⟨T.gv,v*6+1,none⟩=some (.slice d1.a.A d1.a.n d1.a.c)∧W'.cell? ⟨T.gv,v*6+2,none⟩=some (.slice d1.a.A2 d1.a.n2 d1.a.c2)∧W'.cell? ⟨T.gv,v*6+3,none⟩=some (.bool (ratNeg (S.val v).b))∧W'.cell? ⟨T.gv,v*6+4,none⟩=some (.slice d1.b.A d1.b.n d1.b.c)∧W'.cell? ⟨T.gv,v*6+5,none⟩=some (.slice d1.b.A2 d1.b.n2 d1.b.c2))∧(W'.cell? ⟨T.gh,u*6,none⟩=some (.bool (ratNeg (P.hi u).a))∧W'.cell? ⟨T.gh,u*6+1,none⟩=some (.slice d2.a.A d2.a.n d2.a.c)∧W'.cell? ⟨T.gh,u*6+2,none⟩=some (.slice d2.a.A2 d2.a.n2 d2.a.c2)∧W'.cell? ⟨T.gh,u*6+3,none⟩=some (.bool (ratNeg (P.hi u).b))∧W'.cell? ⟨T.gh,u*6+4,none⟩=some (.slice d2.b.A d2.b.n d2.b.c)∧W'.cell? ⟨T.gh,u*6+5,none⟩=some (.slice d2.b.A2 d2.b.n2 d2.b.c2))∧W'.cell? ⟨b,off+u*5+4,none⟩=some (.int .i64 (P.op u))) ((refine HCS.out _ ?_;first | with_reducible exact k1 | with_reducible exact below_drew2 (Below.refl _ _))) ((go_at_call 41;refine (HCM.out _ (below_drew2 (Below.refl _ _))).mono ?_;rintro e w5 ⟨rfl,hb5⟩;have k1:Below w.heap.size w w5:=(below_drew2 (Below.refl _ _)).trans (hb5.mono (Nat.le_refl _));clear hb5))
   all_goals
    obtain ⟨⟨x0,x1,_,_⟩,_,_,hop⟩:=HCS.out _ k1;obtain ⟨hdn,hup⟩:=HD.out
    have hre:∀ (dn up:Bool),(dn=true↔(¬ P.op u=3∨0<c))→(up=true↔c<0)→∃ down up':Bool,Ending.returned (.tuple #[.bool dn,.bool up])=.returned (.tuple #[.bool down,.bool up'])∧(down=true↔canDown P S v)∧(up'=true↔canUp P S v):=fun dn up h1 h2=>⟨dn,up,rfl,h1.trans hdn.symm,h2.trans hup.symm⟩
    have HRE:=Lib.hid hre;clear hre hdn hup HD
    by_cases h3:P.op u=3
    · have h3':(P.op u == 3)=true:=by simpa using h3
      have HH:=Lib.hid h3;clear h3
      go_wp2_with fail
      go_quiet (fail)
      go_wp2_with fail
      go_ret2
      obtain ⟨dn,up,e,h1,h2⟩:=HRE.out (decide (c>0)) (decide (c<0)) (by rw [HH.out];simp) (by simp);exact ⟨dn,up,e,h1,h2,k1.trans (below_drewN (Below.refl _ _) _)⟩
    · have h3':(P.op u == 3)=false:=by simpa using h3
      have HH:=Lib.hid h3;clear h3
      go_wp2_with fail
      go_quiet (fail)
      go_wp2_with fail
      go_ret2
      obtain ⟨dn,up,e,h1,h2⟩:=HRE.out true (decide (c<0)) (by simp [HH.out]) (by simp);exact ⟨dn,up,e,h1,h2,k1.trans (below_drewN (Below.refl _ _) _)⟩
end Go.Proofs.YtdefcbfofonabaaGreat

namespace Go.Proofs.YtdefcbfofonabaaGreat
open Go.RowKit
set_option linter.unusedVariables false
set_option linter.unusedSimpArgs false
theorem hlp_next {P:Pb} {S:Sx} {v k:Nat} {g:Bool} (h:∀ u,u<k→¬ Hlp P S v g u) (hv:¬ Hlp P S v g k):∀ u,u<k+1→¬ Hlp P S v g u:=fun u hu=>by
 by_cases e:u=k
 · subst e
   exact hv
 · exact h u (by omega)
def HlpP (P:Pb) (S:Sx) (v:Nat) (g:Bool) (w:World) (r:Ending) (w':World):Prop:=Below w.heap.size w w'∧((r=.returned (.int .i64 (-1))∧∀ k,¬ Hlp P S v g k)∨∃ k:Nat,r=.returned (.int .i64 (k:Int))∧Hlp P S v g k∧∀ u,u<k→¬ Hlp P S v g u)
set_option maxRecDepth 100000 in
set_option maxHeartbeats 8000000 in
theorem helper_any (B:Nat) (T:TL) (P:Pb) (S:Sx) (k v r:Nat) (g:Bool) (w:World) (h:TabAt w B T P S k) (hk:k≤1000000) (hv:v<P.nv+P.m) (hr:S.row v=(r:Int)) (hrm:r<P.m) (hb3:∀ j,S.row j<0→S.row j = -1) :
 Calls Tryz.prog 19 #[.pointer (some ⟨T.g,0,none⟩),.int .i64 (v:Int),.bool g] w fun e w'=>HlpP P S v g w e w':=by
 have hm8:=h.mm;have hn3:=h.nvm
 have hm0:0<P.m:=by omega
 have hrow:rowOf S v=r:=by unfold rowOf;omega
 obtain ⟨x0,x1,x2,x3,x4,x5,x6⟩:=box7 h;have eaA:=h.aA hm0;rw [eaA] at x4;have hrv:=h.row.at_ v hv;rw [hr] at hrv;have hor:=h.out.at_ r hrm
 have b1:(0:Int)≤(v:Int):=by omega
 have b2:(v:Int)<(P.nv:Int)+(P.m:Int):=by omega
 have b3:(0:Int)≤(r:Int):=by omega
 have b4:(r:Int)<(P.m:Int):=by omega
 have H:=Lib.hid h;have HR:=Lib.hid hrow;have HB3:=Lib.hid hb3;clear h hr hrow hb3 eaA
 go_enter Tryz.func19,Tryz.ntmps19
 go_wp2_with fail
 go_quiet (fail)
 go_wp2_with fail
 clear x0 x1 x2 x3 x4 x5 x6 hrv hor
 go_loopw [27] (fun x wr=>∃ j:Nat,j≤P.nv+P.m∧x=.int .i64 j∧(∀ u,u<j→¬ Hlp P S v g u)∧Below w.heap.size w wr) (fun x _=>P.nv+P.m - (intOf x).toNat)
 case atStart=>exact ⟨0,Nat.zero_le _,rfl,fun u hu=>by omega,below_drewN (Below.refl _ _) _⟩
 case round =>
  obtain ⟨j,hjN,rfl,hno,hbw⟩:=hrel
  obtain ⟨w1,rfl⟩:∃ x,x=wr:=⟨_,rfl⟩
  have h1:=H.out.below hbw;have H1:=Lib.hid h1;have HNO:=Lib.hid hno;have HBW:=Lib.hid hbw;obtain ⟨x0,x1,x2,x3,x4,x5,x6⟩:=box7 h1;clear hno hbw h1
  by_cases hlt:j<P.nv+P.m
  · have b5:(0:Int)≤(j:Int):=by omega
    have b6:(j:Int)<(P.nv:Int)+(P.m:Int):=by omega
    obtain ⟨rb,y0,y1,y2,hra,hla⟩:=(H1.out.rws r hrm).at_ j hlt;have hrj:=H1.out.row.at_ j hlt;have hsg:=sign_any rb (S.a r j) w1 hra
    have hroom:=fun W (hW:Below w1.heap.size w1 W)=>room_any B T P S k j W (H1.out.below hW) hlt hk
    obtain ⟨q,hq⟩:∃ q,q=S.a r j:=⟨_,rfl⟩
    have hsz:=@signZ_nul q;have hsp:=@signZ_pos q;rw [←hq] at hsg y0
    obtain ⟨z,hz⟩:∃ z,z=signZ q:=⟨_,rfl⟩
    rw [←hz] at hsg hsz hsp
    obtain ⟨rv,hrv⟩:∃ rv,rv=S.row j:=⟨_,rfl⟩
    rw [←hrv] at hrj;unfold RB.val at hsg
    have hcs:∀ W',Below w1.heap.size w1 W'→W'.cell? ⟨T.g,3,none⟩=some (.slice (some ⟨T.gr,0,none⟩) (P.nv+P.m) T.rc)∧W'.cell? ⟨T.gr,j,none⟩=some (.int .i64 rv):=fun W' hb=>⟨(hb.cell (p:=⟨T.g,3,none⟩) (World.block_lt_of_cell? w1 _ x3)).trans x3,(hb.cell (p:=⟨T.gr,j,none⟩) (World.block_lt_of_cell? w1 _ hrj)).trans hrj⟩
    have HCS:=Lib.hid hcs;have HSG:=Lib.hid hsg;have HRM:=Lib.hid hroom;have HZ:=Lib.hid (And.intro hsz hsp);have HQ:=Lib.hid (And.intro hq hrv);clear hcs hsg hroom hsz hsp hq hrv hz hra hla;have hcall:=HSG.out
    by_cases hz0:z=0
    · subst hz0
      go_wp2_with (go_at_call 33;refine hcall.mono ?_;clear hcall;rintro e w2 ⟨rfl,hb2⟩;have k2:=HBW.out.trans (hb2.mono HBW.out.size);clear hb2)
      go_roundw
      case rel=>exact ⟨j+1,by omega,by go_num,hlp_next HNO.out (fun hh=>by
       have h3:=hh.2.2.1;rw [HR.out,←HQ.out.1] at h3
       exact h3 (HZ.out.1.1 (by simp))),k2⟩
      case measure=>simp [intOf];omega
    · have hz1:(z == 0)=false:=by simpa using hz0
      have HZ0:=Lib.hid hz0;clear hz0
      by_cases hge:rv≥0
      · go_wp2_with (go_at_call 33;refine hcall.mono ?_;clear hcall;rintro e w2 ⟨rfl,hb2⟩;obtain ⟨x3,hrj⟩:=HCS.out w2 hb2;have k2:=HBW.out.trans (hb2.mono HBW.out.size);clear hb2)
        go_roundw
        case rel=>exact ⟨j+1,by omega,by go_num,hlp_next HNO.out (fun hh=>by
         have h3:=hh.2.1;have h4:=HQ.out.2
         omega),k2⟩
        case measure=>simp [intOf];omega
      · have hge2:¬ (rv≥0):=hge
        go_upto_region 7 with (go_at_call 33;refine hcall.mono ?_;clear hcall;rintro e w2 ⟨rfl,hb2⟩;obtain ⟨x3,hrj⟩:=HCS.out w2 hb2;have HB2:=Lib.hid hb2;clear hb2)
        have hrm:=HRM.out w2 HB2.out;clear x0 x1 x2 x3 x4 x5 x6 y0 y1 y2 hrj
        go_upto_region 8 with (go_at_call 44;refine hrm.mono ?_;clear hrm;rintro e w3 ⟨dn,up,rfl,hdn,hup,hb3⟩;have HB3':=Lib.hid (HB2.out.trans (hb3.mono HB2.out.size));have HDN:=Lib.hid (And.intro hdn hup);clear hdn hup hb3)
        have k3:=HBW.out.trans (HB3'.out.mono HBW.out.size);have hrow1:S.row j = -1:=HB3.out j (by have:=HQ.out.2;omega)
        have hne:S.a (rowOf S v) j≠0:=by
         rw [HR.out,←HQ.out.1]
         exact fun e=>HZ0.out (HZ.out.1.2 e)
        have hpos:0<S.a (rowOf S v) j↔0<z:=by
         rw [HR.out,←HQ.out.1];exact HZ.out.2.symm
        have hh:Hlp P S v g j↔((g=true↔0<z)∧dn=true)∨(¬ (g=true↔0<z)∧up=true):=by
         unfold Hlp;rw [hpos,←HDN.out.1,←HDN.out.2]
         constructor
         · rintro ⟨_,_,_,h⟩
           exact h
         · exact fun h=>⟨hlt,hrow1,hne,h⟩
        have HH:=Lib.hid hh;clear hh hrow1 hne hpos hge hge2 hz1
        by_cases hzp:z>0
        · have hz4:decide (z>0)=true:=decide_eq_true hzp
          have hz5:0<z:=hzp
          cases g
          · cases up
            · skip
              go_wp2_with fail
              go_roundw
              case rel=>exact ⟨j+1,by omega,by go_num,hlp_next HNO.out (fun h=>by have:=HH.out.1 h;simp [hz5] at this),k3⟩
              case measure=>simp [intOf];omega
            · skip
              go_wp2_with fail
              go_ret;exact ⟨k3,.inr ⟨j,rfl,HH.out.2 (by simp [hz5]),HNO.out⟩⟩
          · cases dn
            · skip
              go_wp2_with fail
              go_roundw
              case rel=>exact ⟨j+1,by omega,by go_num,hlp_next HNO.out (fun h=>by have:=HH.out.1 h;simp [hz5] at this),k3⟩
              case measure=>simp [intOf];omega
            · skip
              go_wp2_with fail
              go_ret;exact ⟨k3,.inr ⟨j,rfl,HH.out.2 (by simp [hz5]),HNO.out⟩⟩
        · have hz4:decide (z>0)=false:=decide_eq_false hzp
          have hz5:¬ 0<z:=hzp
          cases g
          · cases dn
            · skip
              go_wp2_with fail
              go_roundw
              case rel=>exact ⟨j+1,by omega,by go_num,hlp_next HNO.out (fun h=>by have:=HH.out.1 h;simp [hz5] at this),k3⟩
              case measure=>simp [intOf];omega
            · skip
              go_wp2_with fail
              go_ret;exact ⟨k3,.inr ⟨j,rfl,HH.out.2 (by simp [hz5]),HNO.out⟩⟩
          · cases up
            · skip
              go_wp2_with fail
              go_roundw
              case rel=>exact ⟨j+1,by omega,by go_num,hlp_next HNO.out (fun h=>by have:=HH.out.1 h;simp [hz5] at this),k3⟩
              case measure=>simp [intOf];omega
            · skip
              go_wp2_with fail
              go_ret;exact ⟨k3,.inr ⟨j,rfl,HH.out.2 (by simp [hz5]),HNO.out⟩⟩
  · have hlt2:¬ ((j:Int)<(P.nv:Int)+(P.m:Int)):=by omega
    go_wp2_with fail
    go_ret;exact ⟨HBW.out,.inl ⟨rfl,fun u hh=>HNO.out u (by have:=hh.1;omega) hh⟩⟩
end Go.Proofs.YtdefcbfofonabaaGreat

namespace Go.Proofs.YtdefcbfofonabaaGreat
open Go.RowKit
set_option linter.unusedVariables false
set_option linter.unusedSimpArgs false
theorem brk_iff (P:Pb) (S:Sx) (u:Nat) (g:Bool):Brk P S (P.nv+u) g↔u<P.m∧0≤S.row (P.nv+u)∧((g=true∧0<cmpD (S.val (P.nv+u)) (P.hi u))∨(g=false∧cmpD (S.val (P.nv+u)) (P.hi u)<0∧P.op u=3)):=by
 have h1:¬ (P.nv+u<P.nv):=by omega
 have h2:P.nv+u - P.nv=u:=by omega
 unfold Brk hiOf;rw [cmpD_neg,cmpD_pos,if_neg h1,h2]
 constructor
 · rintro ⟨_,h3,h4⟩
   exact ⟨by omega,h4⟩
 · rintro ⟨h3,h4⟩
   exact ⟨by omega,by omega,h4⟩
theorem brk_next {P:Pb} {S:Sx} {v:Nat} (h:∀ u,u<v→∀ g,¬ Brk P S u g) (hv:∀ g,¬ Brk P S v g):∀ u,u<v+1→∀ g,¬ Brk P S u g:=fun u hu g=>by
 by_cases e:u=v
 · subst e
   exact hv g
 · exact h u (by omega) g
def BrkP (P:Pb) (S:Sx) (w:World) (r:Ending) (w':World):Prop:=Below w.heap.size w w'∧((r=.returned (.tuple #[.int .i64 (-1),.bool false])∧∀ v g,¬ Brk P S v g)∨∃ (v:Nat) (g:Bool),r=.returned (.tuple #[.int .i64 (v:Int),.bool g])∧Brk P S v g∧∀ u,u<v→∀ g',¬ Brk P S u g')
set_option maxRecDepth 100000 in
set_option maxHeartbeats 8000000 in
theorem broken_any (B:Nat) (T:TL) (P:Pb) (S:Sx) (k:Nat) (w:World) (h:TabAt w B T P S k) (hk:k≤1000000) :
 Calls Tryz.prog 17 #[.pointer (some ⟨T.g,0,none⟩)] w fun r w'=>BrkP P S w r w':=by
 have hm8:=h.mm;have hn3:=h.nvm;obtain ⟨x0,x1,x2,x3,x4,x5,x6⟩:=box7 h;have H:=Lib.hid h;clear h
 go_enter Tryz.func17,Tryz.ntmps17
 go_wp2_with fail
 clear x0 x1 x2 x3 x4 x5 x6
 go_loopw [4] (fun x wr=>∃ v:Nat,P.nv≤v∧v≤P.nv+P.m∧x=.int .i64 v∧(∀ u,u<v→∀ g,¬ Brk P S u g)∧Below w.heap.size w wr) (fun x _=>P.nv+P.m - (intOf x).toNat)
 case atStart=>exact ⟨P.nv,Nat.le_refl _,by omega,rfl,fun u hu g hb=>by have:=hb.1;omega,Below.refl _ _⟩
 case round =>
  obtain ⟨v,hnv,hvN,rfl,hno,hbw⟩:=hrel
  obtain ⟨w1,rfl⟩:∃ x,x=wr:=⟨_,rfl⟩
  have h1:=H.out.below hbw;have H1:=Lib.hid h1;have HNO:=Lib.hid hno;have HBW:=Lib.hid hbw;obtain ⟨x0,x1,x2,x3,x4,x5,x6⟩:=box7 h1;clear hno hbw h1
  by_cases hlt:v<P.nv+P.m
  · obtain ⟨u,hu⟩:∃ u,v=P.nv+u:=⟨v - P.nv,by omega⟩
    have hum:u<P.m:=by omega
    have hm0:0<P.m:=by omega
    have hrv:=H1.out.row.at_ v hlt
    have b2:(v:Int)<(P.nv:Int)+(P.m:Int):=by omega
    have b6:(0:Int)≤(v:Int):=by omega
    obtain ⟨d1,⟨y0,y1,y2,y3,y4,y5⟩,hd1,hl1⟩:=H1.out.val.at_ v hlt;obtain ⟨d2,⟨z0,z1,z2,z3,z4,z5⟩,hd2,hl2⟩:=H1.out.his.at_ u hum;obtain ⟨b,off,eLA,hbB,hop⟩:=H1.out.opl u hum;have ehA:=H1.out.hA hm0;rw [ehA] at x6;rw [eLA] at x1
    have hbi:=fun g=>brk_iff P S u g
    rw [←hu] at hbi
    have hcm:=fun W (hW:Below w1.heap.size w1 W)=>dcmp_any d1 d2 (S.val v) (P.hi u) W (hd1.below hW) (hd2.below hW) k hk hl1 hl2
    obtain ⟨c,hc⟩:∃ c,c=cmpD (S.val v) (P.hi u):=⟨_,rfl⟩
    rw [←hc] at hcm hbi;unfold DB.val at hcm
    have hcs:∀ W',Below w1.heap.size w1 W'→(W'.cell? ⟨T.g,0,none⟩=some (.int .i64 (P.nv:Int))∧W'.cell? ⟨T.g,1,none⟩=some (.slice (some ⟨b,off,none⟩) P.m T.lc)∧W'.cell? ⟨T.g,3,none⟩=some (.slice (some ⟨T.gr,0,none⟩) (P.nv+P.m) T.rc)∧W'.cell? ⟨T.g,5,none⟩=some (.slice (some ⟨T.gv,0,none⟩) (P.nv+P.m) T.vc)∧W'.cell? ⟨T.g,6,none⟩=some (.slice (some ⟨T.gh,0,none⟩) P.m T.hc))∧(W'.cell? ⟨T.gv,v*6,none⟩=some (.bool (ratNeg (S.val v).a))∧W'.cell? ⟨T.gv,v*6+1,none⟩=some (.slice d1.a.A d1.a.n d1.a.c)∧W'.cell? ⟨T.gv,v*6+2,none⟩=some (.slice d1.a.A2 d1.a.n2 d1.a.c2)∧W'.cell? ⟨T.gv,v*6+3,none⟩=some (.bool (ratNeg (S.val v).b))∧W'.cell? ⟨T.gv,v*6+4,none⟩=some (.slice d1.b.A d1.b.n d1.b.c)∧W'.cell? ⟨T.gv,v*6+5,none⟩=some (.slice d1.b.A2 d1.b.n2 d1.b.c2))∧(W'.cell? ⟨T.gh,u*6,none⟩=some (.bool (ratNeg (P.hi u).a))∧W'.cell? ⟨T.gh,u*6+1,none⟩=some (.slice d2.a.A d2.a.n d2.a.c)∧W'.cell? ⟨T.gh,u*6+2,none⟩=some (.slice d2.a.A2 d2.a.n2 d2.a.c2)∧W'.cell? ⟨T.gh,u*6+3,none⟩=some (.bool (ratNeg (P.hi u).b))∧W'.cell? ⟨T.gh,u*6+4,none⟩=some (.slice d2.b.A d2.b.n d2.b.c)∧W'.cell? ⟨T.gh,u*6+5,none⟩=some (.slice d2.b.A2 d2.b.n2 d2.b.c2))∧W'.cell? ⟨b,off+u*5+4,none⟩=some (.int .i64 (P.op u)):=by
     intro W' hb
     have k1:∀ {g i:Nat} {u:Value},w1.cell? ⟨g,i,none⟩=some u→W'.cell? ⟨g,i,none⟩=some u:=fun {g i u} e=>(hb.cell (p:=⟨g,i,none⟩) (World.block_lt_of_cell? w1 _ e)).trans e
     exact ⟨⟨k1 x0,k1 x1,k1 x3,k1 x5,k1 x6⟩,⟨k1 y0,k1 y1,k1 y2,k1 y3,k1 y4,k1 y5⟩,⟨k1 z0,k1 z1,k1 z2,k1 z3,k1 z4,k1 z5⟩,k1 hop⟩
    have HCS:=Lib.hid hcs;have HCM:=Lib.hid hcm;have HBI:=Lib.hid hbi;have HU:=Lib.hid hu;clear hcs hcm hbi hc y0 y1 y2 y3 y4 y5 z0 z1 z2 z3 z4 z5 hop hd1 hd2 hl1 hl2 ehA eLA hbB hu
    obtain ⟨rv,hrw⟩:∃ rv,rv=S.row v:=⟨_,rfl⟩
    rw [←hrw] at hrv;have HRW:=Lib.hid hrw;clear hrw
    by_cases hneg:rv<0
    · go_wp2_with fail
      go_roundw
      case rel=>exact ⟨v+1,by omega,by omega,by go_num,brk_next HNO.out (fun g hb=>by have:=hb.2.2.1;have:=HRW.out;omega),HBW.out⟩
      case measure=>simp [intOf];omega
    · go_upto_region 5 with fail
      clear x0 x1 x2 x3 x4 x5 x6 hrv
      have b1:IntKind.i64.wrap ((v:Int) - (P.nv:Int))=(u:Int):=by have:=HU.out;rw [IntWalk.i64_in _ (by omega)];omega
      have b3:(u:Int)<(P.m:Int):=by omega
      have b5:(0:Int)≤(u:Int):=by omega
      go_region_held3 (fun W'=>(W'.cell? ⟨T.g,0,none⟩=some (.int .i64 (P.nv:Int))∧W'.cell? ⟨T.g,1,none⟩=some (.slice (some ⟨b,off,none⟩) P.m T.lc)∧W'.cell? ⟨T.g,3,none⟩=some (.slice (some ⟨T.gr,0,none⟩) (P.nv+P.m) T.rc)∧W'.cell? ⟨T.g,5,none⟩=some (.slice (some ⟨T.gv,0,none⟩) (P.nv+P.m) T.vc)∧W'.cell? ⟨T.g,6,none⟩=some (.slice (some ⟨T.gh,0,none⟩) P.m T.hc))∧(W'.cell? ⟨T.gv,v*6,none⟩=some (.bool (ratNeg (S.val v).a))∧W'.cell? ⟨T.gv,v*6+1,none⟩=some (.slice d1.a.A d1.a.n d1.a.c)∧W'.cell? ⟨T.gv,v*6+2,none⟩=some (.slice d1.a.A2 d1.a.n2 d1.a.c2)∧W'.cell? ⟨T.gv,v*6+3,none⟩=some (.bool (ratNeg (S.val v).b))∧W'.cell? ⟨T.gv,v*6+4,none⟩=some (.slice d1.b.A d1.b.n d1.b.c)∧W'.cell? ⟨T.gv,v*6+5,none⟩=some (.slice d1.b.A2 d1.b.n2 d1.b.c2))∧(W'.cell? ⟨T.gh,u*6,none⟩=some (.bool (ratNeg (P.hi u).a))∧W'.cell? ⟨T.gh,u*6+1,none⟩=some (.slice d2.a.A d2.a.n d2.a.c)∧W'.cell? ⟨T.gh,u*6+2,none⟩=some (.slice d2.a.A2 d2.a.n2 d2.a.c2)∧W'.cell? ⟨T.gh,u*6+3,none⟩=some (.bool (ratNeg (P.hi u).b))∧W'.cell? ⟨T.gh,u*6+4,none⟩=some (.slice d2.b.A d2.b.n d2.b.c)∧W'.cell? ⟨T.gh,u*6+5,none⟩=some (.slice d2.b.A2 d2.b.n2 d2.b.c2))∧W'.cell? ⟨b,off+u*5+4,none⟩=some (.int .i64 (P.op u))) ((refine HCS.out _ ?_;first | with_reducible exact k1 | with_reducible exact below_drew2 (Below.refl _ _))) ((go_at_call 41;refine (HCM.out _ (below_drew2 (Below.refl _ _))).mono ?_;rintro e w5 ⟨rfl,hb5⟩;have k1:Below w1.heap.size w1 w5:=(below_drew2 (Below.refl _ _)).trans (hb5.mono (Nat.le_refl _));clear hb5))
      obtain ⟨⟨x0,x1,x3,x5,x6⟩,_,_,hop⟩:=HCS.out _ k1;have k5:=HBW.out.trans (k1.mono HBW.out.size)
      by_cases hc1:c>0
      · have t1:decide (c>0)=true:=by simpa using hc1
        have t2:0<c:=hc1
        go_wp2_with fail
        go_quiet (fail)
        go_wp2_with fail
        go_ret2
        exact ⟨k5.trans (below_drewN (Below.refl _ _) _),.inr ⟨v,true,by simp [t1],(HBI.out true).2 ⟨hum,by have:=HRW.out;omega,.inl ⟨rfl,t2⟩⟩,HNO.out⟩⟩
      · have t1:decide (c>0)=false:=by simpa using hc1
        by_cases hc2:c<0
        · have t2:decide (c<0)=true:=by simpa using hc2
          by_cases h3:P.op u=3
          · have h3':(P.op u == 3)=true:=by simpa using h3
            have HH:=Lib.hid h3;clear h3
            go_wp2_with fail
            go_quiet (fail)
            go_wp2_with fail
            go_ret2
            exact ⟨k5.trans (below_drewN (Below.refl _ _) _),.inr ⟨v,false,by simp [t1],(HBI.out false).2 ⟨hum,by have:=HRW.out;omega,.inr ⟨rfl,hc2,HH.out⟩⟩,HNO.out⟩⟩
          · have h3':(P.op u == 3)=false:=by simpa using h3
            have HH:=Lib.hid h3;clear h3
            go_wp2_with fail
            go_quiet (fail)
            go_wp2_with fail
            go_roundw
            case rel=>exact ⟨v+1,by omega,by omega,by go_num,brk_next HNO.out (fun g hb=>by rcases ((HBI.out g).1 hb).2.2 with h | h;have:=h.2;omega;exact HH.out h.2.2),k5.trans (below_drewN (Below.refl _ _) _)⟩
            case measure=>simp [intOf];omega
        · have t2:decide (c<0)=false:=by simpa using hc2
          go_wp2_with fail
          go_quiet (fail)
          go_wp2_with fail
          go_roundw
          case rel=>exact ⟨v+1,by omega,by omega,by go_num,brk_next HNO.out (fun g hb=>by rcases ((HBI.out g).1 hb).2.2 with h | h;have:=h.2;omega;have:=h.2.1;omega),k5.trans (below_drewN (Below.refl _ _) _)⟩
          case measure=>simp [intOf];omega
  · have hlt2:¬ ((v:Int)<(P.nv:Int)+(P.m:Int)):=by omega
    go_wp2_with fail
    go_ret2
    exact ⟨HBW.out,.inl ⟨rfl,fun u g hb=>HNO.out u (by have:=hb.2.1;omega) g hb⟩⟩
end Go.Proofs.YtdefcbfofonabaaGreat

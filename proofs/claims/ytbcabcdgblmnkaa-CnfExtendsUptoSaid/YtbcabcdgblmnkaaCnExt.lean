/- Contract of package cnf: Extend. -/
import Derived.Test.YtbcabcdgblmnkaaCnClau
namespace Go.Proofs.Ytbcabcdgblmnkaa
open Go.RowKit
set_option linter.unusedVariables false
set_option linter.unusedSimpArgs false

/-- the row of truths when k of m are known. -/
def evRow (ns : List Nd) (vals : List Bool) (k m : Nat) : Array Value := (boolL (evL ns vals k) ++ List.replicate (m - k) (Value.bool false)).toArray
theorem evRow_zero (ns : List Nd) (vals : List Bool) (m : Nat) : evRow ns vals 0 m = (List.replicate m (Value.bool false)).toArray := by simp [evRow, boolL, evL]
theorem evRow_get (ns : List Nd) (vals : List Bool) (k m j : Nat) (h : j < k) : (evRow ns vals k m)[j]? = some (.bool (ev ns vals j)) := by
  simp only [evRow, List.getElem?_toArray]
  rw [List.getElem?_append_left (by simp [boolL, evL_length]; omega)]
  simp only [boolL, List.getElem?_map, evL_get _ _ _ _ h]
  rfl
theorem evRow_at (ns : List Nd) (vals : List Bool) (k m : Nat) (h : k < m) : (evRow ns vals k m)[k]? = some (.bool false) := by
  simp only [evRow, List.getElem?_toArray]
  rw [List.getElem?_append_right (by simp [boolL, evL_length])]
  have hl : (boolL (evL ns vals k)).length = k := by simp [boolL, evL_length]
  rw [hl, Nat.sub_self, List.getElem?_replicate, if_pos (by omega)]
theorem evRow_set (ns : List Nd) (vals : List Bool) (k m : Nat) (h : k < m) : (evRow ns vals k m).setIfInBounds k (.bool (ev ns vals k)) = evRow ns vals (k + 1) m := by
  apply Array.ext'
  simp only [evRow, List.setIfInBounds_toArray]
  have hl : (boolL (evL ns vals k)).length = k := by simp [boolL, evL_length]
  obtain ⟨d, rfl⟩ : ∃ d, m = k + 1 + d := ⟨m - (k + 1), by omega⟩
  rw [show k + 1 + d - k = d + 1 by omega, show k + 1 + d - (k + 1) = d by omega, List.replicate_succ]
  rw [List.set_append_right _ _ (by omega), hl, Nat.sub_self]
  simp [boolL, evL, ev]
theorem evRow_skip (ns : List Nd) (vals : List Bool) (k m : Nat) (h : k < m) (he : ev ns vals k = false) : evRow ns vals k m = evRow ns vals (k + 1) m := by
  rw [← evRow_set ns vals k m h, he]
  apply Array.ext_getElem?
  intro i
  by_cases hi : i = k
  · subst hi
    rw [Array.getElem?_setIfInBounds_self, evRow_at _ _ _ _ h]
    simp [evRow, boolL, evL_length]
    omega
  · rw [Array.getElem?_setIfInBounds_ne (by omega)]

theorem step_blk {w : World} {g : Nat} {cs : Array Value} {t : TypeId} (h : w.heap[g]? = some (.cells cs t (0, 0))) (i : Nat) (u : Value) (o : Obj) : ((w.setCell ⟨g, i, none⟩ u).alloc o).heap[g]? = some (.cells (cs.setIfInBounds i u) t (0, 0)) :=
  (alloc_old o (lt_of_blk (set_blk h i u))).trans (set_blk h i u)
theorem xbelow_set {B : Nat} {w : World} {p : Addr} (h : B ≤ w.heap.size) (hp : B ≤ p.block) (u : Value) : Below B w (w.setCell p u) :=
  Fr.below (S := fun b => b = p.block) ((Fr.refl _ w).setCell p u (.inl rfl)) h (fun b hb => by omega)
theorem step_below {B : Nat} {w0 w : World} (h : Below B w0 w) (hB : B ≤ w0.heap.size) {p : Addr} (hp : B ≤ p.block) (u : Value) (o : Obj) : Below B w0 ((w.setCell p u).alloc o) :=
  (h.trans (xbelow_set (Nat.le_trans hB h.size) hp u)).alloc (by have := h.size; simp [World.setCell]; omega) o
theorem boolL_app (xs ys : List Bool) : boolL (xs ++ ys) = boolL xs ++ boolL ys := by simp [boolL]
set_option maxRecDepth 100000 in
set_option maxHeartbeats 8000000 in
theorem extend_any {w0 : World} {fs : List Fm} {sv : Value} (h : FIn w0 fs sv) (vals : List Bool) (A2 : Option Addr) (n c2 : Nat) (hl : vals.length = n) (hnc : n ≤ c2) (hn2 : n ≤ 140737488355328) (w : World) (k a : Int) (hfit : (partsN (placeF (.mk k a fs) ns0).1 (placeF (.mk k a fs) ns0).2).length + n ≤ 140737488355328) (hb : Below w0.heap.size w0 w) (hr2 : Rd w 1 A2 n (boolL vals)) :
    Calls Try.prog 37 #[.agg #[.int .i64 k, .int .i64 a, sv], .slice A2 n c2] w fun e w' => ∃ v, e = .returned (.tuple #[v, .int .i64 (checkF (.mk k a fs) n)]) ∧
      w'.ownsRow w.heap.size 4 1 v (if checkF (.mk k a fs) n = 0 then truthsN (placeF (.mk k a fs) ns0).1 (placeF (.mk k a fs) ns0).2 vals else []).length (boolL (if checkF (.mk k a fs) n = 0 then truthsN (placeF (.mk k a fs) ns0).1 (placeF (.mk k a fs) ns0).2 vals else [])) ∧ Below w.heap.size w w' := by
  obtain ⟨i0, hinf, hz0, hz1, hz2⟩ := info_parts info_bool
  have hin := fun W hW => intern_any h W k a n hW
  unfold internP at hin
  have hb1 : Below w.heap.size w (w.alloc (.cells #[.int .i64 k, .int .i64 a, sv] 58)) := (Below.refl _ _).alloc (Nat.le_refl _) _
  have hin1 := hin _ (hb.trans (hb1.mono hb.size))
  obtain ⟨Af, cf, rfl, _, _⟩ := h.form
  by_cases hC : checkF (.mk k a fs) n = 0
  · rw [if_pos hC]
    have hat := place_atoms (.mk k a fs) ns0 n (checkF_great hC).2 (atoms0 n)
    simp only [hC, if_true] at hin1
    have hpk : Good (placeF (.mk k a fs) ns0).1 ∧ (placeF (.mk k a fs) ns0).2 < (placeF (.mk k a fs) ns0).1.length := ⟨place_good _ _ good0, place_lt _ _ good0⟩
    rw [hC]
    generalize placeF (.mk k a fs) ns0 = P at *
    obtain ⟨ns, root⟩ := P
    simp only at hat hin1 hpk hfit ⊢
    obtain ⟨hG, hroot⟩ := hpk
    have hpa := fun W A' c' hr => parts_any ns root A' c' W hG hroot hr
    have hpl := partsN_length ns root
    have hpm : ∀ p ∈ partsN ns root, p < ns.length := fun p hp => Nat.lt_of_le_of_lt (((partsN_mem hG hroot p).1 hp).1.le hG hroot).1 hroot
    have hml := hG.most
    unfold truthsN
    generalize partsN ns root = ps at *
    have HPA := Lib.hid hpa
    have HAT := Lib.hid hat
    have HG := Lib.hid hG
    have HPM := Lib.hid hpm
    have HR := Lib.hid hr2
    have HB1 := Lib.hid hb1
    clear hin h hb hC hpa hat hG hpm hr2 hb1
    go_enter Try.func37, Try.ntmps37
    go_upto_region 4 with (go_at_call 51; refine hin1.mono ?_; clear hin1; rintro e w1 ⟨v1, rfl, ho1, hx⟩; obtain ⟨A1, c1, rfl, _, _⟩ := ownsRow_form ho1; have hb2 := HB1.out.trans (hx.mono HB1.out.size); have HO1 := Lib.hid (cown_rd ho1); clear ho1 hx)
    have HR1 := Lib.hid (HR.out.below hb2)
    have HB2 := Lib.hid hb2
    clear hb2 HB1 HR
    go_wp2_with (at_make; refine make1 w1.heap.size w1 w1 rfl _ _ 23 rfl 4 i0 (.bool false) 1 Try.underlying23 hinf hz0 hz1 hz2 rfl (by decide) .i64 .i64 (ns.length : Int) (ns.length : Int) ns.length rfl rfl (by omega) (by omega) (by omega) _ rfl (Nat.le_refl _) (Below.refl _ _) ?_)
    intro w2 hown2 hb2 hg2
    have hblk := full_blk hown2
    rw [← evRow_zero ns vals ns.length] at hblk
    clear hown2 hg2
    go_wp2_with fail
    go_loopw [31] (fun x wr => ∃ k : Nat, k ≤ ns.length ∧ x = .int .i64 k ∧ wr.heap[w1.heap.size]? = some (.cells (evRow ns vals k ns.length) 4 (0, 0)) ∧ Below w1.heap.size w1 wr) (fun x _ => ns.length - (intOf x).toNat)
    case atStart => exact ⟨0, Nat.zero_le _, rfl, hblk, hb2⟩
    case round =>
     obtain ⟨k, hk, rfl, hblk', hbk⟩ := hrel
     have hrk := HR1.out.below hbk
     by_cases hlt : k < ns.length
     · have hev := HG.out.ev vals k (by omega)
       have hpt := HG.out.lt k (by omega)
       obtain ⟨g, off, rfl, x0, x1, x2, hg⟩ := (HO1.out.below hbk).nd3 k hlt rfl
       have z0 := cell_of_blk hblk' k
       rw [evRow_at _ _ _ _ hlt] at z0
       have z1 := frozen_of_blk hblk' k
       have zr := fun j (hj : j < k) => (cell_of_blk hblk' j).trans (evRow_get ns vals k ns.length j hj)
       have hs1 : w1.heap.size < wr.heap.size := lt_of_blk hblk'
       have hkl : k < ns.length := by omega
       have hat := HAT.out k hkl
       have HBLK := Lib.hid hblk'
       have HB := Lib.hid hbk
       have ZR := Lib.hid zr
       have HRK := Lib.hid hrk
       clear hblk' hbk zr hrk
       generalize nd ns k = X at *
       obtain ⟨xk, xa, xb⟩ := X
       simp only at x0 x1 x2 hpt hev hat
       obtain ⟨p3, p4, p5⟩ := hpt
       by_cases k2 : xk = 2
       · subst k2
         clear p3 p4 p5
         have hv : ev ns vals k = true := by rw [hev]; rfl
         have HEV := Lib.hid hv
         clear hev hv
         go_wp2_with fail
         go_roundw
         case rel => exact ⟨k + 1, by omega, by go_num, (step_blk HBLK.out k _ _).trans (by rw [← HEV.out, evRow_set _ _ _ _ hlt]), step_below HB.out (Nat.le_refl _) (Nat.le_refl _) _ _⟩
         case measure => simp [intOf]; omega
       by_cases k3 : xk = 3
       · subst k3
         clear p4 p5 k2
         have ha := p3 rfl
         obtain ⟨a, rfl⟩ : ∃ a : Nat, xa = a := ⟨xa.toNat, by omega⟩
         clear p3 ha
         have han : a < n := by have := hat rfl; omega
         obtain ⟨b5, o5, u, rfl, hu, hc5⟩ := HRK.out.at_ han
         have hb5 : b5 < wr.heap.size := World.block_lt_of_cell? _ _ hc5
         have hx : vals[a]? = some (vals.getD a false) := by rw [List.getD_eq_getElem?_getD, List.getElem?_eq_getElem (by omega)]; rfl
         simp only [boolL, List.getElem?_map, hx, Option.map_some, Option.some.injEq] at hu
         subst hu
         have hv : ev ns vals k = vals.getD a false := by rw [hev]; simp [ev1]
         generalize vals.getD a false = y at *
         have HEV := Lib.hid hv
         clear hev hv hx
         go_wp2_with fail
         go_roundw
         case rel => exact ⟨k + 1, by omega, by go_num, (step_blk HBLK.out k _ _).trans (by rw [← HEV.out, evRow_set _ _ _ _ hlt]), step_below HB.out (Nat.le_refl _) (Nat.le_refl _) _ _⟩
         case measure => simp [intOf]; omega
       by_cases k4 : xk = 4
       · subst k4
         clear p3 p5 k2 k3
         obtain ⟨ha, hak⟩ := p4 rfl
         obtain ⟨a, rfl⟩ : ∃ a : Nat, xa = a := ⟨xa.toNat, by omega⟩
         have zra := ZR.out a (by omega)
         have hv : ev ns vals k = !(ev ns vals a) := by rw [hev]; simp [ev1]
         generalize ev ns vals a = y at *
         have HEV := Lib.hid hv
         clear hev hv p4 ha
         go_wp2_with fail
         go_roundw
         case rel => exact ⟨k + 1, by omega, by go_num, (step_blk HBLK.out k _ _).trans (by rw [← HEV.out, evRow_set _ _ _ _ hlt]), step_below HB.out (Nat.le_refl _) (Nat.le_refl _) _ _⟩
         case measure => simp [intOf]; omega
       by_cases k5 : xk = 5
       · subst k5
         clear p3 p4 k2 k3 k4
         obtain ⟨ha, hak, hb, hbk⟩ := p5 (.inl rfl)
         obtain ⟨a, rfl⟩ : ∃ a : Nat, xa = a := ⟨xa.toNat, by omega⟩
         obtain ⟨b, rfl⟩ : ∃ b : Nat, xb = b := ⟨xb.toNat, by omega⟩
         have zra := ZR.out a (by omega)
         have zrb := ZR.out b (by omega)
         have hv : ev ns vals k = (ev ns vals a && ev ns vals b) := by rw [hev]; simp [ev1]
         generalize ev ns vals a = y at *
         generalize ev ns vals b = z at *
         have HEV := Lib.hid hv
         clear hev hv p5 ha hb
         cases y
         · rw [Bool.false_and] at HEV
           go_wp2_with fail
           go_roundw
           case rel => exact ⟨k + 1, by omega, by go_num, (step_blk HBLK.out k _ _).trans (by rw [← HEV.out, evRow_set _ _ _ _ hlt]), step_below HB.out (Nat.le_refl _) (Nat.le_refl _) _ _⟩
           case measure => simp [intOf]; omega
         · rw [Bool.true_and] at HEV
           go_wp2_with fail
           go_roundw
           case rel => exact ⟨k + 1, by omega, by go_num, (step_blk HBLK.out k _ _).trans (by rw [← HEV.out, evRow_set _ _ _ _ hlt]), step_below HB.out (Nat.le_refl _) (Nat.le_refl _) _ _⟩
           case measure => simp [intOf]; omega
       by_cases k6 : xk = 6
       · subst k6
         clear p3 p4 k2 k3 k4 k5
         obtain ⟨ha, hak, hb, hbk⟩ := p5 (.inr rfl)
         obtain ⟨a, rfl⟩ : ∃ a : Nat, xa = a := ⟨xa.toNat, by omega⟩
         obtain ⟨b, rfl⟩ : ∃ b : Nat, xb = b := ⟨xb.toNat, by omega⟩
         have zra := ZR.out a (by omega)
         have zrb := ZR.out b (by omega)
         have hv : ev ns vals k = (ev ns vals a || ev ns vals b) := by rw [hev]; simp [ev1]
         generalize ev ns vals a = y at *
         generalize ev ns vals b = z at *
         have HEV := Lib.hid hv
         clear hev hv p5 ha hb
         cases y
         · rw [Bool.false_or] at HEV
           go_wp2_with fail
           go_roundw
           case rel => exact ⟨k + 1, by omega, by go_num, (step_blk HBLK.out k _ _).trans (by rw [← HEV.out, evRow_set _ _ _ _ hlt]), step_below HB.out (Nat.le_refl _) (Nat.le_refl _) _ _⟩
           case measure => simp [intOf]; omega
         · rw [Bool.true_or] at HEV
           go_wp2_with fail
           go_roundw
           case rel => exact ⟨k + 1, by omega, by go_num, (step_blk HBLK.out k _ _).trans (by rw [← HEV.out, evRow_set _ _ _ _ hlt]), step_below HB.out (Nat.le_refl _) (Nat.le_refl _) _ _⟩
           case measure => simp [intOf]; omega
       · clear p3 p4 p5
         have hv : ev ns vals k = false := by rw [hev]; simp [ev1, k2, k3, k4, k5, k6]
         have HEV := Lib.hid hv
         clear hev hv
         go_wp2_with fail
         go_roundw
         case rel => exact ⟨k + 1, by omega, by go_num, ((alloc_old _ (lt_of_blk HBLK.out)).trans HBLK.out).trans (by rw [evRow_skip _ _ _ _ hlt HEV.out]), HB.out.alloc HB.out.size _⟩
         case measure => simp [intOf]; omega
     · obtain rfl : k = ns.length := by omega
       have hpc := HPA.out wr A1 c1 (HO1.out.below hbk)
       have hvr := fun j (hj : j < ns.length) => (cell_of_blk hblk' j).trans (evRow_get ns vals ns.length ns.length j hj)
       have hlb := lt_of_blk hblk'
       have HVR := Lib.hid hvr
       have HBK := Lib.hid hbk
       have HR2 := Lib.hid hrk
       clear hblk' hbk hrk hvr hblk hb2 hlt hk
       go_wp2_with (go_at_call 52; refine hpc.mono ?_; clear hpc; rintro e w5 ⟨v5, rfl, hp5, hb5⟩; have hp5' := own_natI hp5 (Nat.le_refl _); obtain ⟨A5, c5, rfl, _, _⟩ := ownsRow_form hp5'; have HP5 := Lib.hid (cown_rd hp5'); have HB5 := Lib.hid hb5; clear hp5 hp5' hb5)
       go_loopw [12, 103] (fun o x wr2 => ∃ (q : Nat) (v : Value), q ≤ ps.length ∧ x = .int .i64 (q : Int) ∧ v = o ∧ wr2.ownsRow w5.heap.size 4 1 v q (boolL ((ps.take q).map (ev ns vals))) ∧ Below w5.heap.size w5 wr2) (fun _ x _ => ps.length - (intOf x).toNat)
       case atStart => exact ⟨0, _, Nat.zero_le _, rfl, rfl, World.ownsRow_nil _ _ _ _, Below.refl _ _⟩
       case round =>
        obtain ⟨q, v, hq, rfl, rfl, hown, hbk⟩ := hrel
        by_cases hlt : q < ps.length
        · obtain ⟨b2, o2, rfl, x0⟩ := (HP5.out.below hbk).int q hlt (natI_length ps)
          rw [natI_getD ps q hlt] at x0
          have hkm := nat_getD_mem ps q hlt
          have htk := take_getD ps q hlt
          generalize ps.getD q 0 = kk at *
          have hkl := HPM.out kk hkm
          have hkl' : (kk : Int) < (ns.length : Int) := by omega
          have z0 := (hbk.cell (p := ⟨w1.heap.size, kk, none⟩) (Nat.lt_of_lt_of_le hlb HB5.out.size)).trans ((HB5.out.cell (p := ⟨w1.heap.size, kk, none⟩) hlb).trans (HVR.out kk hkl))
          have hsn : boolL ((ps.take (q + 1)).map (ev ns vals)) = boolL ((ps.take q).map (ev ns vals)) ++ [.bool (ev ns vals kk)] := by rw [htk, List.map_append, boolL_app]; rfl
          have HSN := Lib.hid hsn
          have HOW := Lib.hid hown
          have HBQ := Lib.hid hbk
          clear hsn hown hbk hkm htk
          generalize ev ns vals kk = y at *
          go_wp2_with (at_builtin; refine app1 w5.heap.size w5 wr (.bool y) 4 rfl _ _ 23 rfl i0 (.bool false) 1 Try.underlying23 hinf hz0 hz1 hz2 rfl (by decide) _ q _ rfl (Nat.le_refl _) HOW.out HBQ.out rfl rfl (by omega) ?_)
          intro v6 w6 hown6 hb6 _
          go_wp2_with fail
          go_roundw
          case rel => exact ⟨q + 1, _, by omega, by go_num, rfl, by rw [HSN.out, List.map_take]; exact hown6, hb6⟩
          case measure => simp [intOf]; omega
        · obtain rfl : q = ps.length := by omega
          rw [List.take_of_length_le (Nat.le_refl _)] at hown
          have HOW := Lib.hid hown
          have HBQ := Lib.hid hbk
          have HR5 := Lib.hid ((HR2.out.below HB5.out).below hbk)
          clear hown hbk
          go_wp2_with (at_builtin; refine appR w5.heap.size w5 wr 4 rfl _ _ 23 rfl i0 (.bool false) 1 Try.underlying23 hinf hz0 hz1 hz2 rfl (by decide) _ ps.length _ rfl (Nat.le_refl _) HOW.out HBQ.out A2 n c2 (boolL vals) rfl HR5.out (boolL_one _) (by omega) ?_)
          intro v8 w8 ho8 hb8 _
          have hbw : Below w.heap.size w w8 := ((HB2.out.trans (HBK.out.mono HB2.out.size)).trans (HB5.out.mono (Nat.le_trans HB2.out.size HBK.out.size))).trans (hb8.mono (Nat.le_trans HB2.out.size (Nat.le_trans HBK.out.size HB5.out.size)))
          have how : w8.ownsRow w.heap.size 4 1 v8 (ps.map (ev ns vals) ++ vals).length (boolL (ps.map (ev ns vals) ++ vals)) := by
            rw [boolL_app, List.length_append, List.length_map, hl]
            exact own_more ho8 (Nat.le_trans HB2.out.size (Nat.le_trans HBK.out.size HB5.out.size))
          go_wp2_with fail
          go_ret2
          exact ⟨_, rfl, how, hbw⟩
  · rw [if_neg hC]
    have hC' : (checkF (.mk k a fs) n != 0) = true := by simpa using hC
    simp only [hC, if_false] at hin1
    generalize checkF (.mk k a fs) n = C at *
    clear hin h hb hC
    go_enter Try.func37, Try.ntmps37
    go_wp2_with (go_at_call 51; refine hin1.mono ?_; clear hin1; rintro e w1 ⟨v1, rfl, ho1, hx⟩)
    go_ret2
    exact ⟨_, rfl, World.ownsRow_nil _ _ _ _, hb1.trans (hx.mono hb1.size)⟩
end Go.Proofs.Ytbcabcdgblmnkaa

/- Contract of package clause: Chain. -/
import Derived.Test.YtbcabcdgblmnkaaClResolves
namespace Go.Proofs.Ytbcabcdgblmnkaa
open Go.RowKit
set_option linter.unusedVariables false
set_option linter.unusedSimpArgs false

/-- a slice of integers that reads. -/
def Sl (w : World) (v : Value) (xs : List Int) : Prop := ∃ A c, v = .slice A xs.length c ∧ xs.length ≤ c ∧ c ≤ maxLen ∧ Rd w 1 A xs.length (ints xs)
theorem RowI.sl {w : World} {B : Nat} {v : Value} {xs : List Int} (h : RowI w B v xs) : Sl w v xs := h.rd
theorem Sl.below {w w' : World} {v : Value} {xs : List Int} (h : Sl w v xs) (hb : Below w.heap.size w w') : Sl w' v xs := by
  obtain ⟨A, c, e, h1, h2, h3⟩ := h
  exact ⟨A, c, e, h1, h2, h3.below hb⟩
/-- rows of integers, each by its slice. -/
def MatI (w : World) (vs : List Value) (xss : List (List Int)) : Prop := vs.length = xss.length ∧ ∀ (i : Nat) (v : Value) (xs : List Int), vs[i]? = some v → xss[i]? = some xs → Sl w v xs
theorem MatI.below {w w' : World} {vs : List Value} {xss : List (List Int)} (h : MatI w vs xss) (hb : Below w.heap.size w w') : MatI w' vs xss := ⟨h.1, fun i v xs hv hx => (h.2 i v xs hv hx).below hb⟩
theorem MatI.at_ {w : World} {vs : List Value} {xss : List (List Int)} {A : Option Addr} {n : Nat} (h : MatI w vs xss) (hr : Rd w 1 A n vs) (i : Nat) (hi : i < n) :
    ∃ b off A' c', A = some ⟨b, off, none⟩ ∧ w.cell? ⟨b, off + i, none⟩ = some (.slice A' (xss.getD i []).length c') ∧ (xss.getD i []).length ≤ c' ∧ c' ≤ maxLen ∧ Rd w 1 A' (xss.getD i []).length (ints (xss.getD i [])) := by
  obtain ⟨b, off, u, e, hu, hc⟩ := hr.at_ hi
  have hl : vs.length = n := by simpa using hr.1
  have hx : xss[i]? = some (xss.getD i []) := by rw [List.getD_eq_getElem?_getD, List.getElem?_eq_getElem (by rw [← h.1]; omega)]; rfl
  obtain ⟨A', c', e', h1, h2, h3⟩ := h.2 i u _ hu hx
  subst e'
  exact ⟨b, off, A', c', e, hc, h1, h2, h3⟩
theorem getDL_mem (xss : List (List Int)) (i : Nat) (h : i < xss.length) : xss.getD i [] ∈ xss := by
  rw [List.getD_eq_getElem?_getD, List.getElem?_eq_getElem h]
  simp
theorem drop_getL (l : List (List Int)) (i : Nat) (h : i < l.length) : l.drop i = l.getD i [] :: l.drop (i + 1) := by
  refine drop_consI l i _ ?_
  rw [List.getD_eq_getElem?_getD, List.getElem?_eq_getElem h]; rfl

def chainF : List Int → List (List Int) → List Int × Int
  | now, [] => (now, 0)
  | now, y :: r => if (resC now (canonI y)).2.2 = 0 then chainF (resC now (canonI y)).1 r else ([], 6)
def chainP (xss : List (List Int)) : List Int × Int :=
  match xss with
  | [] => ([], 1)
  | x :: r => if (x :: r).all goodB = true then chainF (canonI x) r else ([], 4)
theorem resC_err (cx cy : List Int) : (resC cx cy).2.2 = 0 ∨ (resC cx cy).2.2 = 6 := by
  rcases resC_cases cx cy with e | ⟨l, _, e⟩ <;> rw [e] <;> simp
theorem resC_zero {cx cy : List Int} (h : (resC cx cy).2.2 = 0) : ∃ l, opp cx cy = [l] ∧ resC cx cy = (canonI (cutL cx cy l), l, 0) := by
  rcases resC_cases cx cy with e | ⟨l, h1, e⟩
  · rw [e] at h; cases h
  · exact ⟨l, h1, e⟩
theorem good_of_lit {xs : List Int} (h : ∀ l ∈ xs, IsLit l) : goodB xs = true := by
  induction xs with
  | nil => rfl
  | cons x xs ih =>
    have hx := h x (by simp)
    rw [goodB_cons, if_neg hx.1, if_neg (by have := hx.2; omega)]
    exact ih fun l hl => h l (by simp [hl])
/-- now: canonical, its literals such, not too long. -/
structure Now (now : List Int) (m : Nat) : Prop where
  strict : StrictL now
  lits : ∀ l ∈ now, IsLit l
  len : now.length ≤ m
theorem Now.canon {xs : List Int} (h : ∀ l ∈ xs, IsLit l) : Now (canonI xs) xs.length := ⟨canonI_strict xs, canon_lits h, canonI_len xs⟩
theorem Now.res {now ys : List Int} {m : Nat} (h : Now now m) (hy : ∀ l ∈ ys, IsLit l) (h0 : (resC now (canonI ys)).2.2 = 0) : Now (resC now (canonI ys)).1 (m + ys.length) := by
  obtain ⟨l, _, e⟩ := resC_zero h0
  rw [e]
  have hl : ∀ a ∈ cutL now (canonI ys) l, IsLit a := fun a ha => by
    unfold cutL at ha
    rcases List.mem_append.1 ha with h' | h'
    · exact h.lits a (List.mem_filter.1 h').1
    · exact canon_lits hy a (List.mem_filter.1 h').1
  refine ⟨canonI_strict _, canon_lits hl, ?_⟩
  have h1 := canonI_len (cutL now (canonI ys) l)
  have h2 : (cutL now (canonI ys) l).length ≤ m + ys.length := by
    unfold cutL
    rw [List.length_append]
    have := List.length_filter_le (fun a => decide (a ≠ l)) now
    have := List.length_filter_le (fun a => decide (a ≠ -l)) (canonI ys)
    have := canonI_len ys
    have := h.len
    omega
  simp only
  omega
theorem resP_now {now ys : List Int} {m : Nat} (h : Now now m) (hy : goodB ys = true) : resP now ys = resC now (canonI ys) := by
  unfold resP bothG
  rw [good_of_lit h.lits, hy, Bool.and_true, if_pos rfl, canonI_id _ h.strict]

set_option maxRecDepth 100000 in
set_option maxHeartbeats 8000000 in
theorem chain_any (xss : List (List Int)) (vs : List Value) (A : Option Addr) (n c : Nat) (w : World) (hl : xss.length = n) (hn : n ≤ 12) (hnc : n ≤ c) (hc : c ≤ maxLen) (hr : Rd w 1 A n vs) (hm : MatI w vs xss)
    (hs : ∀ xs ∈ xss, xs.length ≤ 60) (hi : ∀ xs ∈ xss, ∀ l ∈ xs, IsI64 l) :
    Calls Try.prog 23 #[.slice A n c] w fun e w' => ∃ v, e = .returned (.tuple #[v, .int .i64 (chainP xss).2]) ∧ RowI w' w.heap.size v (chainP xss).1 ∧ Below w.heap.size w w' := by
  unfold maxLen at hc
  by_cases h0 : n = 0
  · subst h0
    have hx : xss = [] := List.eq_nil_of_length_eq_zero hl
    subst hx
    clear hm hr
    go_enter Try.func23, Try.ntmps23
    go_wp2_with fail
    go_ret2
    exact ⟨_, rfl, RowI.nil _ _, Below.refl _ _⟩
  have h0' : ¬ (n : Int) = 0 := by omega
  have h0'' : ((n : Int) == 0) = false := by simpa using h0'
  have h1' : (1 : Int) ≤ (n : Int) := by omega
  have h2' : (1 : Int) ≤ (c : Int) := by omega
  obtain ⟨x0, r, hx0⟩ : ∃ x0 r, xss = x0 :: r := by
    cases xss with
    | nil => simp at hl; omega
    | cons x r => exact ⟨x, r, rfl⟩
  have hP : chainP xss = if xss.all goodB = true then chainF (canonI x0) r else ([], 4) := by rw [hx0]; rfl
  have hx00 : xss.getD 0 [] = x0 := by rw [hx0]; rfl
  have hrr : xss.drop 1 = r := by rw [hx0]; rfl
  rw [hP]
  generalize hG : xss.all goodB = G
  generalize hR : (if G = true then chainF (canonI x0) r else ([], 4)) = R
  obtain ⟨rl, re⟩ := R
  simp only
  have HR := Lib.hid hr
  have HM := Lib.hid hm
  have HS := Lib.hid hs
  have HI := Lib.hid hi
  have HG := Lib.hid hG
  have HRES := Lib.hid hR
  have HX0 := Lib.hid hx00
  have HRR := Lib.hid hrr
  clear hr hm hs hi hG hR hx00 hrr hP hx0
  go_enter Try.func23, Try.ntmps23
  go_wp2_with fail
  go_loopw [20] (fun x wr => ∃ (i : Nat), i ≤ n ∧ x = .int .i64 i ∧ (xss.drop i).all goodB = G ∧ Below w.heap.size w wr) (fun x _ => n - (intOf x).toNat)
  case atStart => exact ⟨0, Nat.zero_le _, rfl, by rw [List.drop_zero]; exact HG.out, Below.refl _ _⟩
  case round =>
    obtain ⟨i, hi', rfl, hC, hbk⟩ := hrel
    by_cases hlt : i < n
    · obtain ⟨b, off, A', c', rfl, hcell, hc1, hc2, hrd⟩ := (HM.out.below hbk).at_ (HR.out.below hbk) i hlt
      rw [drop_getL xss i (by omega), List.all_cons] at hC
      have hmem := getDL_mem xss i (by omega)
      have hsz := HS.out _ hmem
      have hii := HI.out _ hmem
      generalize xss.getD i [] = y at *
      have hcan := canon_any y A' y.length c' wr rfl hc1 (by omega) hrd hii
      have HCN := Lib.hid hcan
      clear hcan hmem hii hrd hc1 hc2
      cases hg : goodB y with
      | true =>
        rw [hg, Bool.true_and] at hC
        have HC := Lib.hid hC
        have hcan := HCN.out
        rw [hg, if_pos rfl, if_pos rfl] at hcan
        clear hC hg HCN
        go_wp2_with fail
        go_at_call 21
        refine (hcan).mono ?_
        rintro e w1 ⟨v1, rfl, ho1, hb1⟩
        have HO1 := Lib.hid ho1
        clear ho1
        go_wp2_with fail
        go_roundw
        case rel => exact ⟨i + 1, by omega, by go_num, HC.out, bstepC hbk hb1⟩
        case measure => simp [intOf]; omega
      | false =>
        rw [hg, Bool.false_and] at hC
        subst hC
        have hcan := HCN.out
        rw [hg, if_neg (by simp), if_neg (by simp)] at hcan
        have hR := HRES.out
        rw [if_neg (by simp)] at hR
        injection hR with e1 e2
        subst e1 e2
        clear hg HCN HRES
        go_wp2_with fail
        go_at_call 21
        refine (hcan).mono ?_
        rintro e w1 ⟨v1, rfl, ho1, hb1⟩
        have HO1 := Lib.hid ho1
        clear ho1
        go_wp2_with fail
        go_ret2
        exact ⟨_, rfl, RowI.nil _ _, bstepC hbk hb1⟩
    · obtain rfl : i = n := by omega
      rw [List.drop_of_length_le (by omega), List.all_nil] at hC
      subst hC
      have hR := HRES.out
      rw [if_pos rfl] at hR
      have HRE := Lib.hid hR
      have HALL := Lib.hid (List.all_eq_true.1 HG.out)
      clear hR HRES
      obtain ⟨wo, rfl⟩ : ∃ x, x = wr := ⟨_, rfl⟩
      obtain ⟨b, off, A', c', rfl, hcell, hc1, hc2, hrd⟩ := (HM.out.below hbk).at_ (HR.out.below hbk) 0 (by omega)
      have hmem := getDL_mem xss 0 (by omega)
      have hsz := HS.out _ hmem
      have hg0 := HALL.out _ hmem
      have hii := HI.out _ hmem
      rw [HX0.out] at hcell hc1 hrd hsz hg0 hii
      have hlit0 := good_lit hg0 hii
      have hcan := canon_good x0 A' x0.length c' wo rfl hc1 (by omega) hrd hlit0
      have hnow0 := Now.canon hlit0
      rw [Nat.add_zero] at hcell
      have HN0 := Lib.hid hnow0
      clear hmem hii hrd hc1 hc2 hg0 hlit0 hnow0
      go_wp2_with fail
      go_at_call 21
      refine (hcan).mono ?_
      rintro e w1 ⟨v1, rfl, ho1, hb1⟩
      have hbk1 := bstepC hbk hb1
      have HO1 := Lib.hid (ho1.more hbk.size)
      clear ho1
      have hrl : r.length = i - 1 := by rw [← HRR.out, List.length_drop]; omega
      by_cases hcc : c = 1
      · subst hcc
        obtain rfl : i = 1 := by omega
        have hr0 : r = [] := List.eq_nil_of_length_eq_zero (by omega)
        have hR := HRE.out
        rw [hr0] at hR
        injection hR with e1 e2
        subst e1 e2
        obtain ⟨A9, c9, rfl⟩ := HO1.out.form
        go_wp2_with fail
        go_loopw [8, 43] (fun y x wr => y = .slice A9 (canonI x0).length c9 ∧ x = .int .i64 0 ∧ wr = w1) (fun _ _ _ => 0)
        case atStart => exact ⟨rfl, rfl, rfl⟩
        case round =>
          obtain ⟨rfl, rfl, rfl⟩ := hrel
          go_wp2_with fail
          go_ret2
          exact ⟨_, rfl, HO1.out, hbk1⟩
      · have hcut := HR.out.cut (k := 1) (by omega) (by omega : i ≤ c)
        rw [if_neg hcc] at hcut
        have hcut : Rd w 1 (some ⟨b, off + 1, none⟩) (i - 1) (vs.drop 1) := hcut
        have hmr : MatI w (vs.drop 1) r := ⟨by rw [List.length_drop, HM.out.1, hrl, hl], fun j v xs hv hx => by
          rw [← HRR.out] at hx
          rw [List.getElem?_drop] at hv hx
          exact HM.out.2 _ v xs hv hx⟩
        have HCUT := Lib.hid hcut
        have HMR := Lib.hid hmr
        obtain ⟨A9, c9, rfl⟩ := HO1.out.form
        have HNW := Lib.hid HN0.out
        have HLR := Lib.hid hrl
        clear hcut hmr
        go_wp2_with fail
        generalize hik : i - 1 = k at *
        have hk12 : k ≤ 11 := by omega
        have HIK := Lib.hid hik
        clear hik hrl hcc
        go_loopw [8, 43] (fun y x wr => ∃ (j : Nat) (now : List Int), j ≤ k ∧ x = .int .i64 j ∧ RowI wr w.heap.size y now ∧ Now now (60 * (j + 1)) ∧ chainF now (r.drop j) = (rl, re) ∧ Below w.heap.size w wr) (fun _ x _ => k - (intOf x).toNat)
        case atStart => exact ⟨0, _, Nat.zero_le _, rfl, HO1.out, ⟨HNW.out.strict, HNW.out.lits, Nat.le_trans HNW.out.len (by omega)⟩, by rw [List.drop_zero]; exact HRE.out, hbk1⟩
        case round =>
          obtain ⟨j, now, hj', rfl, hrow, hnow, hch, hbj⟩ := hrel
          obtain ⟨A8, c8, rfl, hn8, hc8, hr8⟩ := hrow.rd
          by_cases hlt2 : j < k
          · obtain ⟨b3, off3, A3, c3, e3, hcell3, hc31, hc32, hrd3⟩ := (HMR.out.below hbj).at_ (HCUT.out.below hbj) j hlt2
            injection e3 with e3
            injection e3 with e31 e32
            subst e31 e32
            have hmem : r.getD j [] ∈ xss := by
              rw [← HRR.out]
              have := getDL_mem (xss.drop 1) j (by rw [HRR.out, HLR.out]; exact hlt2)
              exact List.mem_of_mem_drop this
            have hsz3 := HS.out _ hmem
            have hg3 := HALL.out _ hmem
            have hii3 := HI.out _ hmem
            rw [drop_getL r j (by rw [HLR.out]; exact hlt2), chainF] at hch
            generalize r.getD j [] = y at *
            have hlit3 := good_lit hg3 hii3
            have hlen := hnow.len
            have hres := resolve_any now y A8 A3 now.length c8 y.length c3 wr rfl hn8 (by omega) hr8 (fun l hl => by have := hnow.lits l hl; unfold IsLit at this; unfold IsI64; omega) rfl hc31 (by omega) hrd3 hii3
            rw [resP_now hnow hg3] at hres
            have hnext := fun h0 => hnow.res hlit3 h0
            have herr := resC_err now (canonI y)
            generalize resC now (canonI y) = RC at *
            obtain ⟨nl, on, er⟩ := RC
            simp only at hres hch hnext herr
            have HRES2 := Lib.hid hres
            have HNX := Lib.hid hnext
            have HCH := Lib.hid hch
            clear hres hnext hch hmem hg3 hii3 hlit3 hrd3 hr8 hrow hnow
            rcases herr with rfl | rfl
            · have hch := HCH.out
              rw [if_pos rfl] at hch
              have HCH2 := Lib.hid hch
              have HNX2 := Lib.hid (HNX.out rfl)
              clear hch HCH HNX
              go_wp2_with fail
              go_at_call 14
              refine (HRES2.out).mono ?_
              rintro e w5 ⟨v5, rfl, ho5, hb5⟩
              have HO5 := Lib.hid (ho5.more hbj.size)
              clear ho5
              go_wp2_with fail
              go_roundw
              case rel => exact ⟨j + 1, nl, by omega, by go_num, HO5.out, ⟨HNX2.out.strict, HNX2.out.lits, Nat.le_trans HNX2.out.len (by omega)⟩, HCH2.out, bstepC hbj hb5⟩
              case measure => simp [intOf]; omega
            · have hch := HCH.out
              rw [if_neg (by decide)] at hch
              injection hch with e1 e2
              subst e1 e2
              clear HCH HNX
              go_wp2_with fail
              go_at_call 14
              refine (HRES2.out).mono ?_
              rintro e w5 ⟨v5, rfl, ho5, hb5⟩
              clear ho5
              go_wp2_with fail
              go_ret2
              exact ⟨_, rfl, RowI.nil _ _, bstepC hbj hb5⟩
          · obtain rfl : j = k := by omega
            rw [List.drop_of_length_le (by rw [HLR.out]; exact Nat.le_refl _), chainF] at hch
            injection hch with e1 e2
            subst e1 e2
            have HROW := Lib.hid hrow
            clear hrow hnow hr8
            go_wp2_with fail
            go_ret2
            exact ⟨_, rfl, HROW.out, hbj⟩
end Go.Proofs.Ytbcabcdgblmnkaa

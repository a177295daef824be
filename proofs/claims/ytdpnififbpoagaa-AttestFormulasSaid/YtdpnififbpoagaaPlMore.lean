/- Tables of formula parts: placing again, playing a table's nodes. No program in sight. -/
import Derived.Test.YtdpnififbpoagaaPlMath
namespace Go.Proofs.Ytdpnififbpoagaa
open Go.RowKit
set_option linter.unusedVariables false
set_option linter.unusedSimpArgs false

/-- no part of a table is a pair of opposites. -/
def NoOpp (ns : List Nd) : Prop := ∀ i, 2 ≤ i → i < ns.length → (nd ns i).k = 5 ∨ (nd ns i).k = 6 → oppN ns (nd ns i).a.toNat (nd ns i).b.toNat = false
theorem oppN_grow (ns ms : List Nd) (a b : Nat) (ha : a < ns.length) (hb : b < ns.length) : oppN (ns ++ ms) a b = oppN ns a b := by
  unfold oppN
  rw [nd_append_lt _ _ _ ha, nd_append_lt _ _ _ hb]
theorem oppN_comm (ns : List Nd) (a b : Nat) : oppN ns a b = oppN ns b a := by
  unfold oppN
  rw [Bool.or_comm]
theorem noOpp0 : NoOpp ns0 := fun i h1 h2 _ => by simp [ns0] at h2; omega
theorem NoOpp.put {ns : List Nd} (h : NoOpp ns) (g : Good ns) (n : Nd) (hn : n.k = 5 ∨ n.k = 6 → n.a.toNat < ns.length ∧ n.b.toNat < ns.length ∧ oppN ns n.a.toNat n.b.toNat = false) : NoOpp (putN ns n).1 := by
  unfold putN
  cases hf : fidx ns n 0 with
  | some i => exact h
  | none =>
    by_cases hm : ns.length < 20000
    · simp only [hm, if_true]
      intro i h2 hl hk
      rw [List.length_append] at hl
      simp at hl
      by_cases hlt : i < ns.length
      · rw [nd_append_lt _ _ _ hlt] at hk ⊢
        have hp := g.parts i h2 hlt
        have hab : (nd ns i).a.toNat < ns.length ∧ (nd ns i).b.toNat < ns.length := by
          rcases hp with h' | h' | h' <;> omega
        rw [oppN_grow _ _ _ _ hab.1 hab.2]
        exact h i h2 hlt hk
      · obtain rfl : i = ns.length := by omega
        rw [nd_snoc] at hk ⊢
        obtain ⟨ha, hb, ho⟩ := hn hk
        rw [oppN_grow _ _ _ _ ha hb]
        exact ho
    · simp only [hm, if_false]
      exact h
theorem NoOpp.pair {ns : List Nd} (h : NoOpp ns) (g : Good ns) (kind : Int) (a b u z : Nat) (ha : a < ns.length) (hb : b < ns.length) : NoOpp (pairN ns kind a b u z).1 := by
  unfold pairN
  split
  · exact h
  rename_i g1
  split
  · exact h
  split
  · exact h
  refine h.put g _ fun _ => ?_
  have ho : oppN ns a b = false := by
    have : ¬ oppN ns a b = true := fun e => g1 (.inr (.inr e))
    simpa using this
  simp only [Int.toNat_natCast]
  refine ⟨by omega, by omega, ?_⟩
  by_cases hab : a ≤ b
  · rw [Nat.min_eq_left hab, Nat.max_eq_right hab]; exact ho
  · rw [Nat.min_eq_right (by omega), Nat.max_eq_left (by omega), oppN_comm]; exact ho
theorem NoOpp.doN {ns : List Nd} (h : NoOpp ns) (g : Good ns) (o : Nd) : NoOpp (doN ns o).1 := by
  unfold Proofs.Ytdpnififbpoagaa.doN
  split
  · exact h
  split
  · exact h
  split
  · split
    · exact h.put g _ fun hk => by simp at hk
    · exact h
  split
  · split
    · unfold notN
      split
      · exact h
      split
      · exact h
      split
      · exact h
      · exact h.put g _ fun hk => by simp at hk
    · exact h
  split
  · split
    · rename_i hi
      rw [Bool.and_eq_true] at hi
      exact h.pair g _ _ _ _ _ (inB_nat hi.1) (inB_nat hi.2)
    · exact h
  split
  · split
    · rename_i hi
      rw [Bool.and_eq_true] at hi
      exact h.pair g _ _ _ _ _ (inB_nat hi.1) (inB_nat hi.2)
    · exact h
  · exact h
mutual
theorem place_noOpp (f : Fm) (ns : List Nd) (g : Good ns) (h : NoOpp ns) : NoOpp (placeF f ns).1 := by
  cases f with
  | mk k a sub =>
    rw [placeF]
    split
    · exact h.doN g _
    split
    · exact place_noOppN sub ns g h
    split
    · exact h
    split
    · exact place_noOppL sub _ ns _ g h
    · exact place_noOppL sub _ ns _ g h
theorem place_noOppN (fs : List Fm) (ns : List Nd) (g : Good ns) (h : NoOpp ns) : NoOpp (placeN fs ns).1 := by
  cases fs with
  | nil => rw [placeN]; exact h
  | cons f fs => rw [placeN]; exact (place_noOpp f ns g h).doN (place_good f ns g) _
theorem place_noOppL (fs : List Fm) (kind : Int) (ns : List Nd) (n : Nat) (g : Good ns) (h : NoOpp ns) : NoOpp (placeL fs kind ns n).1 := by
  cases fs with
  | nil => rw [placeL]; exact h
  | cons f fs => rw [placeL]; exact place_noOppL fs kind _ _ ((place_good f ns g).doN _) ((place_noOpp f ns g h).doN (place_good f ns g) _)
end

theorem fidx_at {ns : List Nd} (g : Good ns) {n : Nd} {r : Nat} (hr : r < ns.length) (hn : nd ns r = n) : fidx ns n 0 = some r := by
  cases hf : fidx ns n 0 with
  | none => exact absurd hn (fidx_none ns n 0 hf r hr)
  | some j =>
    obtain ⟨_, h2, h3, h4⟩ := fidx_some ns n 0 j hf
    rw [Nat.sub_zero] at h2 h3 h4
    rcases Nat.lt_trichotomy j r with h | h | h
    · exact absurd (h3.trans hn.symm) (g.one j r h hr)
    · rw [h]
    · exact absurd hn (h4 r h)
theorem putN_at {ns : List Nd} {n : Nd} {r : Nat} (h : (putN ns n).2 = some r) : r < (putN ns n).1.length ∧ nd (putN ns n).1 r = n := by
  unfold putN at h ⊢
  cases hf : fidx ns n 0 with
  | some i =>
    rw [hf] at h
    obtain rfl : i = r := by simpa using h
    obtain ⟨_, h2, h3, _⟩ := fidx_some ns n 0 i hf
    rw [Nat.sub_zero] at h2 h3
    exact ⟨h2, h3⟩
  | none =>
    rw [hf] at h
    by_cases hm : ns.length < 20000
    · simp only [hm, if_true] at h ⊢
      obtain rfl : ns.length = r := by simpa using h
      exact ⟨by simp, nd_snoc ns n⟩
    · simp only [hm, if_false] at h
      cases h
theorem put_again {ns ns' : List Nd} (g : Good ns') {n : Nd} {r : Nat} (hp : ∃ ms, ns' = (putN ns n).1 ++ ms) (hr : (putN ns n).2 = some r) : putN ns' n = (ns', some r) := by
  obtain ⟨h1, h2⟩ := putN_at hr
  obtain ⟨ms, e⟩ := hp
  have h3 : nd ns' r = n := by rw [e, nd_append_lt _ _ _ h1]; exact h2
  have h4 := fidx_at g (r := r) (by rw [e, List.length_append]; omega) h3
  unfold putN
  rw [h4]
theorem pre_nd {ns ns' : List Nd} (h : ∃ ms, ns' = ns ++ ms) {i : Nat} (hi : i < ns.length) : nd ns' i = nd ns i := by
  obtain ⟨ms, rfl⟩ := h
  exact nd_append_lt _ _ _ hi
theorem pre_in {ns ns' : List Nd} (h : ∃ ms, ns' = ns ++ ms) {i : Int} (hi : inB ns i = true) : inB ns' i = true := by
  obtain ⟨ms, rfl⟩ := h
  simp [inB] at hi ⊢
  omega
theorem pre_trans {a b c : List Nd} (h1 : ∃ ms, b = a ++ ms) (h2 : ∃ ms, c = b ++ ms) : ∃ ms, c = a ++ ms := by
  obtain ⟨x, rfl⟩ := h1
  obtain ⟨y, rfl⟩ := h2
  exact ⟨x ++ y, by rw [List.append_assoc]⟩
theorem not_again {ns ns' : List Nd} (g : Good ns') {a r : Nat} (ha : a < ns.length) (hp : ∃ ms, ns' = (notN ns a).1 ++ ms) (hr : (notN ns a).2 = some r) : notN ns' a = (ns', some r) := by
  have hp0 : ∃ ms, ns' = ns ++ ms := by
    refine pre_trans ?_ hp
    unfold notN
    repeat' split
    all_goals first | exact put_pre _ _ | exact ⟨[], by simp⟩
  have hn := pre_nd hp0 ha
  unfold notN at hp hr ⊢
  rw [hn]
  split at hp
  · rename_i h1
    rw [if_pos h1] at hr ⊢
    rw [← hr]
  rename_i h1
  rw [if_neg h1] at hr ⊢
  split at hp
  · rename_i h2
    rw [if_pos h2] at hr ⊢
    rw [← hr]
  rename_i h2
  rw [if_neg h2] at hr ⊢
  split at hp
  · rename_i h3
    rw [if_pos h3] at hr ⊢
    rw [← hr]
  · rename_i h3
    rw [if_neg h3] at hr ⊢
    exact put_again g hp hr
theorem pre_opp {ns ns' : List Nd} (h : ∃ ms, ns' = ns ++ ms) {a b : Nat} (ha : a < ns.length) (hb : b < ns.length) : oppN ns' a b = oppN ns a b := by
  obtain ⟨ms, rfl⟩ := h
  exact oppN_grow _ _ _ _ ha hb
theorem pair_again {ns ns' : List Nd} (g : Good ns') {kind : Int} {a b u z r : Nat} (ha : a < ns.length) (hb : b < ns.length) (hp : ∃ ms, ns' = (pairN ns kind a b u z).1 ++ ms) (hr : (pairN ns kind a b u z).2 = some r) : pairN ns' kind a b u z = (ns', some r) := by
  have hp0 : ∃ ms, ns' = ns ++ ms := by
    refine pre_trans ?_ hp
    unfold pairN
    repeat' split
    all_goals first | exact put_pre _ _ | exact ⟨[], by simp⟩
  have hn := pre_opp hp0 ha hb
  unfold pairN at hp hr ⊢
  rw [hn]
  split at hp
  · rename_i h1
    rw [if_pos h1] at hr ⊢
    rw [← hr]
  rename_i h1
  rw [if_neg h1] at hr ⊢
  split at hp
  · rename_i h2
    rw [if_pos h2] at hr ⊢
    rw [← hr]
  rename_i h2
  rw [if_neg h2] at hr ⊢
  split at hp
  · rename_i h3
    rw [if_pos h3] at hr ⊢
    rw [← hr]
  · rename_i h3
    rw [if_neg h3] at hr ⊢
    exact put_again g hp hr
theorem do_again {ns ns' : List Nd} (g : Good ns') {o : Nd} {r : Nat} (hp : ∃ ms, ns' = (doN ns o).1 ++ ms) (hr : (doN ns o).2 = some r) : doN ns' o = (ns', some r) := by
  have hp0 : ∃ ms, ns' = ns ++ ms := pre_trans (doN_pre ns o) hp
  unfold Proofs.Ytdpnififbpoagaa.doN at hp hr ⊢
  by_cases h1 : o.k = 1
  · rw [if_pos h1] at hr ⊢; rw [← hr]
  rw [if_neg h1] at hp hr ⊢
  by_cases h2 : o.k = 2
  · rw [if_pos h2] at hr ⊢; rw [← hr]
  rw [if_neg h2] at hp hr ⊢
  by_cases h3 : o.k = 3
  · rw [if_pos h3] at hp hr ⊢
    by_cases h : 0 ≤ o.a
    · rw [if_pos h] at hp hr ⊢; exact put_again g hp hr
    · rw [if_neg h] at hr; cases hr
  rw [if_neg h3] at hp hr ⊢
  by_cases h4 : o.k = 4
  · rw [if_pos h4] at hp hr ⊢
    cases h : inB ns o.a with
    | true => rw [h, if_pos rfl] at hp hr; rw [pre_in hp0 h, if_pos rfl]; exact not_again g (inB_nat h) hp hr
    | false => rw [h, if_neg (by simp)] at hr; cases hr
  rw [if_neg h4] at hp hr ⊢
  have hin : (inB ns o.a && inB ns o.b) = true → inB ns o.a = true ∧ inB ns o.b = true := fun h => by simpa using h
  by_cases h5 : o.k = 5
  · rw [if_pos h5] at hp hr ⊢
    cases h : (inB ns o.a && inB ns o.b) with
    | true =>
      obtain ⟨ha, hb⟩ := hin h
      rw [h, if_pos rfl] at hp hr; rw [pre_in hp0 ha, pre_in hp0 hb, if_pos (by rfl)]; exact pair_again g (inB_nat ha) (inB_nat hb) hp hr
    | false => rw [h, if_neg (by simp)] at hr; cases hr
  rw [if_neg h5] at hp hr ⊢
  by_cases h6 : o.k = 6
  · rw [if_pos h6] at hp hr ⊢
    cases h : (inB ns o.a && inB ns o.b) with
    | true =>
      obtain ⟨ha, hb⟩ := hin h
      rw [h, if_pos rfl] at hp hr; rw [pre_in hp0 ha, pre_in hp0 hb, if_pos (by rfl)]; exact pair_again g (inB_nat ha) (inB_nat hb) hp hr
    | false => rw [h, if_neg (by simp)] at hr; cases hr
  rw [if_neg h6] at hr
  cases hr
theorem dans_again {ns ns' : List Nd} (g : Good ns') {o : Nd} (hl : ns.length < 20000) (hm : mayN ns o = true) (hp : ∃ ms, ns' = (dAns (doN ns o)).1 ++ ms) : dAns (doN ns' o) = (ns', (dAns (doN ns o)).2) := by
  rw [do_again g hp (do_getD hl hm)]
  rfl
mutual
theorem place_again (f : Fm) (vals : List Bool) (ns ns' : List Nd) (h : Good ns) (hs : shapeF f vals.length = true) (hl : ns.length + 2 * sizeF f ≤ 20000) (g : Good ns') (hp : ∃ ms, ns' = (placeF f ns).1 ++ ms) : placeF f ns' = (ns', (placeF f ns).2) := by
  cases f with
  | mk k a sub =>
    rw [placeF] at hp
    rw [placeF, placeF]
    rw [shapeF] at hs
    rw [sizeF] at hl
    have h2 := h.two
    by_cases k1 : k = 1
    · rw [if_pos k1] at hs hp
      rw [if_pos k1, if_pos k1]
      simp only [Bool.and_eq_true, decide_eq_true_eq] at hs
      exact dans_again g (by omega) (by simp [mayN, hs.1]) hp
    rw [if_neg k1] at hs hp
    rw [if_neg k1, if_neg k1]
    by_cases k2 : k = 2
    · rw [if_pos k2] at hp
      rw [if_pos k2, if_pos k2]
      rw [if_neg (by omega), if_pos k2, Bool.and_eq_true] at hs
      exact place_againN sub vals ns ns' h hs.2 (by simpa using hs.1) (by omega) g hp
    rw [if_neg k2] at hp
    rw [if_neg k2, if_neg k2]
    by_cases k6 : k = 6
    · rw [if_pos k6, if_pos k6]
    rw [if_neg k6] at hp
    rw [if_neg k6, if_neg k6]
    by_cases k5 : k = 5
    · rw [if_pos (.inl k5), decide_eq_true_eq] at hs
      have hsub : sub = [] := List.eq_nil_of_length_eq_zero hs
      subst hsub
      rw [if_neg (by omega), if_neg (by omega), placeL, placeL]
    rw [if_neg (by omega), if_neg k2] at hs
    by_cases k4 : k = 4
    · rw [if_pos (.inr k4)] at hs
      rw [if_pos k4] at hp
      rw [if_pos k4, if_pos k4]
      exact place_againL sub 6 vals ns ns' 0 (.inr rfl) h hs (by omega) (by omega) g hp
    · rw [if_neg k4] at hp
      rw [if_neg k4, if_neg k4]
      by_cases k3 : k = 3
      · rw [if_pos (.inl k3)] at hs
        exact place_againL sub 5 vals ns ns' 1 (.inl rfl) h hs (by omega) (by omega) g hp
      · rw [if_neg (by omega)] at hs
        cases hs
theorem place_againN (fs : List Fm) (vals : List Bool) (ns ns' : List Nd) (h : Good ns) (hs : shapeL fs vals.length = true) (h1 : fs.length = 1) (hl : ns.length + 2 * sizeL fs ≤ 20000) (g : Good ns') (hp : ∃ ms, ns' = (placeN fs ns).1 ++ ms) : placeN fs ns' = (ns', (placeN fs ns).2) := by
  cases fs with
  | nil => simp at h1
  | cons f fs =>
    rw [placeN] at hp
    rw [placeN, placeN]
    rw [shapeL, Bool.and_eq_true] at hs
    rw [sizeL] at hl
    have hq := sizeF_pos f
    have hf := place_ok f vals ns h hs.1 (by omega)
    have hlen := hf.len
    rw [place_again f vals ns ns' h hs.1 (by omega) g (pre_trans (doN_pre _ _) hp)]
    exact dans_again g (by omega) (may_not hf.lt) hp
theorem place_againL (fs : List Fm) (kind : Int) (vals : List Bool) (ns ns' : List Nd) (n : Nat) (hk : kind = 5 ∨ kind = 6) (h : Good ns) (hs : shapeL fs vals.length = true) (hn : n < ns.length) (hl : ns.length + 2 * sizeL fs ≤ 20000) (g : Good ns') (hp : ∃ ms, ns' = (placeL fs kind ns n).1 ++ ms) : placeL fs kind ns' n = (ns', (placeL fs kind ns n).2) := by
  cases fs with
  | nil => rw [placeL, placeL]
  | cons f fs =>
    rw [placeL] at hp
    rw [placeL, placeL]
    rw [shapeL, Bool.and_eq_true] at hs
    rw [sizeL] at hl
    have hq := sizeF_pos f
    have hf := place_ok f vals ns h hs.1 (by omega)
    have hlen := hf.len
    obtain ⟨hn1, hv1⟩ := hf.old n hn
    have hd := do_ok (vals := vals) hf.good ⟨kind, n, (placeF f ns).2⟩ (by omega) (may_pair hk hn1 hf.lt)
    have hdl := hd.len
    have hr := place_okL fs kind vals _ _ _ hk hd.good hs.2 hd.lt rfl (by omega)
    have hp1 := pre_trans hr.pre hp
    rw [place_again f vals ns ns' h hs.1 (by omega) g (pre_trans (doN_pre _ _) hp1)]
    simp only
    rw [dans_again g (by omega) (may_pair hk hn1 hf.lt) hp1]
    exact place_againL fs kind vals _ ns' _ hk hd.good hs.2 hd.lt (by omega) g hp
end

/-- the two formulas that the law makes of one. -/
theorem place_and2 (f : Fm) (vals : List Bool) (hs : shapeF f vals.length = true) (hl : sizeF f ≤ 9000) : placeF (.mk 3 0 [f, f]) ns0 = placeF f ns0 := by
  have hf := place_ok f vals ns0 good0 hs (by simp [ns0]; omega)
  have hag := place_again f vals ns0 (placeF f ns0).1 good0 hs (by simp [ns0]; omega) hf.good ⟨[], by simp⟩
  have h2 := hf.good.two
  have hd1 : dAns (doN (placeF f ns0).1 ⟨5, (1 : Nat), (placeF f ns0).2⟩) = placeF f ns0 := by
    have ho : oppN (placeF f ns0).1 1 (placeF f ns0).2 = false := by
      unfold oppN
      rw [hf.good.n1]
      have : (decide ((nd (placeF f ns0).1 (placeF f ns0).2).k = 4) && decide ((nd (placeF f ns0).1 (placeF f ns0).2).a = ((1 : Nat) : Int))) = false := by
        by_cases hk : (nd (placeF f ns0).1 (placeF f ns0).2).k = 4
        · have h3 : 2 ≤ (placeF f ns0).2 := hf.good.low _ (by omega) (by omega)
          rcases hf.good.parts _ h3 hf.lt with h | h | h
          · omega
          · have : ¬ ((nd (placeF f ns0).1 (placeF f ns0).2).a = ((1 : Nat) : Int)) := by omega
            simp only [decide_eq_false this, Bool.and_false]
          · omega
        · simp [hk]
      rw [this]
      rfl
    have hi1 := inB_lt (ns := (placeF f ns0).1) (i := 1) (by omega)
    have hi2 := inB_lt hf.lt
    generalize placeF f ns0 = P at *
    obtain ⟨ns, r⟩ := P
    simp only at *
    have he : doN ns ⟨5, (1 : Nat), r⟩ = pairN ns 5 1 r 1 0 := by simp only [doN, hi1, hi2]; rfl
    rw [he, pairN, ho]
    by_cases hr : r = 0
    · rw [if_pos (.inr (.inl hr)), hr]; rfl
    · rw [if_neg (by simp [hr]), if_pos (.inl rfl)]; rfl
  have hd2 : dAns (doN (placeF f ns0).1 ⟨5, (placeF f ns0).2, (placeF f ns0).2⟩) = placeF f ns0 := by
    have hi2 := inB_lt hf.lt
    have ho : oppN (placeF f ns0).1 (placeF f ns0).2 (placeF f ns0).2 = false := by
      unfold oppN
      rw [Bool.or_self]
      by_cases hk : (nd (placeF f ns0).1 (placeF f ns0).2).k = 4
      · have h3 : 2 ≤ (placeF f ns0).2 := hf.good.low _ (by omega) (by omega)
        rcases hf.good.parts _ h3 hf.lt with h | h | h
        · omega
        · have : ¬ ((nd (placeF f ns0).1 (placeF f ns0).2).a = (((placeF f ns0).2 : Nat) : Int)) := by omega
          simp only [decide_eq_false this, Bool.and_false]
        · omega
      · simp [hk]
    generalize placeF f ns0 = P at *
    obtain ⟨ns, r⟩ := P
    simp only at *
    have he : doN ns ⟨5, r, r⟩ = pairN ns 5 r r 1 0 := by simp only [doN, hi2]; rfl
    rw [he, pairN, ho]
    by_cases hr : r = 0
    · rw [if_pos (.inl hr), hr]; rfl
    · rw [if_neg (by simp [hr]), if_pos (.inr rfl)]; rfl
  rw [placeF, if_neg (by decide), if_neg (by decide), if_neg (by decide), if_neg (by decide), placeL, hd1, placeL, hag, hd2, placeL]
theorem place_or2 (f : Fm) (vals : List Bool) (hs : shapeF f vals.length = true) (hl : sizeF f ≤ 4000) :
    (placeF (.mk 4 0 [f, .mk 2 0 [f]]) ns0).2 = 1 ∧ (placeF f ns0).1.length ≤ (placeF (.mk 4 0 [f, .mk 2 0 [f]]) ns0).1.length := by
  have hf := place_ok f vals ns0 good0 hs (by simp [ns0]; omega)
  have hlf := hf.len
  have hag := place_again f vals ns0 (placeF f ns0).1 good0 hs (by simp [ns0]; omega) hf.good ⟨[], by simp⟩
  have h2 := hf.good.two
  have hd1 : dAns (doN (placeF f ns0).1 ⟨6, (0 : Nat), (placeF f ns0).2⟩) = placeF f ns0 := by
    have ho : oppN (placeF f ns0).1 0 (placeF f ns0).2 = false := by
      unfold oppN
      rw [hf.good.n0]
      have : (decide ((nd (placeF f ns0).1 (placeF f ns0).2).k = 4) && decide ((nd (placeF f ns0).1 (placeF f ns0).2).a = ((0 : Nat) : Int))) = false := by
        by_cases hk : (nd (placeF f ns0).1 (placeF f ns0).2).k = 4
        · have h3 : 2 ≤ (placeF f ns0).2 := hf.good.low _ (by omega) (by omega)
          rcases hf.good.parts _ h3 hf.lt with h | h | h
          · omega
          · have : ¬ ((nd (placeF f ns0).1 (placeF f ns0).2).a = ((0 : Nat) : Int)) := by omega
            simp only [decide_eq_false this, Bool.and_false]
          · omega
        · simp [hk]
      rw [this]
      rfl
    have hi1 := inB_lt (ns := (placeF f ns0).1) (i := 0) (by omega)
    have hi2 := inB_lt hf.lt
    generalize placeF f ns0 = P at *
    obtain ⟨ns, r⟩ := P
    simp only at *
    have he : doN ns ⟨6, (0 : Nat), r⟩ = pairN ns 6 0 r 0 1 := by simp only [doN, hi1, hi2]; rfl
    rw [he, pairN, ho]
    by_cases hr : r = 1
    · rw [if_pos (.inr (.inl hr)), hr]; rfl
    · rw [if_neg (by simp [hr]), if_pos (.inl rfl)]; rfl
  rw [placeF, if_neg (by decide), if_neg (by decide), if_neg (by decide), if_pos (by decide), placeL, hd1, placeL, placeF, if_neg (by decide), if_pos (by decide), placeN, hag, placeL]
  generalize placeF f ns0 = P at *
  obtain ⟨ns, r⟩ := P
  have hgood := hf.good
  have hlt := hf.lt
  simp only at *
  have hdo := do_ok (vals := vals) hgood ⟨4, r, 0⟩ (by simp [ns0] at hlf; omega) (may_not hlt)
  have hdl := hdo.len
  have he4 : doN ns ⟨4, r, 0⟩ = notN ns r := by simp only [doN, inB_lt hlt]; rfl
  have hgd := do_getD (ns := ns) (o := ⟨4, r, 0⟩) (by simp [ns0] at hlf; omega) (may_not hlt)
  rw [he4] at hdo hdl hgd ⊢
  have hjlt := hdo.lt
  have hpre := hdo.pre
  have hg1 := hdo.good
  obtain ⟨ms, hms⟩ := hpre
  have hr1 : r < (dAns (notN ns r)).1.length := by rw [hms, List.length_append]; omega
  have hsub : r = 1 ∨ (dAns (notN ns r)).2 = 1 ∨ oppN (dAns (notN ns r)).1 r (dAns (notN ns r)).2 = true := by
    by_cases r1 : r = 1
    · exact .inl r1
    by_cases r0 : r = 0
    · refine .inr (.inl ?_)
      rw [r0, notN, hgood.n0]; rfl
    · refine .inr (.inr ?_)
      have hne : (nd ns r).k ≠ 1 ∧ (nd ns r).k ≠ 2 := by
        rcases hgood.parts r (by omega) hlt with h | h | h <;> omega
      by_cases hk : (nd ns r).k = 4
      · have he : notN ns r = (ns, some (nd ns r).a.toNat) := by rw [notN, if_neg hne.1, if_neg hne.2, if_pos hk]
        have ha := hgood.neg r hlt hk
        rw [he]
        simp only [dAns, Option.getD_some, oppN, hk, decide_true, Bool.true_and]
        rw [Bool.or_eq_true]
        exact .inl (decide_eq_true (by omega))
      · have he : notN ns r = putN ns ⟨4, r, 0⟩ := by rw [notN, if_neg hne.1, if_neg hne.2, if_neg hk]
        rw [he] at hgd ⊢
        have hat := putN_at hgd
        simp only [dAns, oppN, hat.2, decide_true, Bool.and_true, Bool.or_true]
  have hd3 : dAns (doN (dAns (notN ns r)).1 ⟨6, r, (dAns (notN ns r)).2⟩) = ((dAns (notN ns r)).1, 1) := by
    have he : doN (dAns (notN ns r)).1 ⟨6, r, (dAns (notN ns r)).2⟩ = pairN (dAns (notN ns r)).1 6 r (dAns (notN ns r)).2 0 1 := by
      simp only [doN, inB_lt hr1, inB_lt hjlt]; rfl
    rw [he, pairN, if_pos hsub]
    rfl
  rw [hd3]
  exact ⟨rfl, by simp only; rw [hms, List.length_append]; omega⟩

/-- playing a table's own nodes. -/
theorem play_step {ns : List Nd} (g : Good ns) (h : NoOpp ns) (k : Nat) (hk : k < ns.length) : (doN (ns.take (max 2 k)) (nd ns k)).1 = ns.take (max 2 (k + 1)) := by
  have h2 := g.two
  have hm := g.most
  by_cases h0 : k = 0
  · subst h0; rw [g.n0]; rfl
  by_cases h1 : k = 1
  · subst h1; rw [g.n1]; rfl
  rw [Nat.max_eq_right (by omega), Nat.max_eq_right (by omega)]
  have htl : (ns.take k).length = k := by rw [List.length_take]; omega
  have hnd : ∀ i, i < k → nd (ns.take k) i = nd ns i := fun i hi => by
    rw [nd_get _ _ (by omega), nd_get _ _ (by omega), List.getElem_take]
  have hput : (putN (ns.take k) (nd ns k)).1 = ns.take (k + 1) := by
    unfold putN
    have : fidx (ns.take k) (nd ns k) 0 = none := by
      cases hf : fidx (ns.take k) (nd ns k) 0 with
      | none => rfl
      | some j =>
        obtain ⟨_, q2, q3, _⟩ := fidx_some _ _ 0 j hf
        rw [Nat.sub_zero] at q2 q3
        rw [hnd j (by omega)] at q3
        exact absurd q3 (g.one j k (by omega) hk)
    rw [this]
    simp only [htl, show k < 20000 by omega, if_true]
    rw [List.take_succ_eq_append_getElem hk, nd_get _ _ hk]
  have hin : ∀ i : Int, 0 ≤ i → i < k → inB (ns.take k) i = true := fun i h1 h2 => by simp [inB, htl]; omega
  have hpp := g.parts k (by omega) hk
  have hno := h k (by omega) hk
  generalize hx : nd ns k = x at *
  obtain ⟨xk, xa, xb⟩ := x
  rcases hpp with ⟨p1, p2, p3⟩ | ⟨p1, p2, p3, p4, p5⟩ | ⟨p1, p2, p3, p4⟩
  · simp only at p1 p2 p3
    subst p1 p3
    simp only [doN]
    rw [if_neg (by decide), if_neg (by decide), if_pos trivial, if_pos p2]
    exact hput
  · simp only at p1 p2 p3 p4 p5
    subst p1 p4
    simp only [doN]
    rw [if_neg (by decide), if_neg (by decide), if_neg (by decide), if_pos trivial, hin xa (by omega) p3, if_pos rfl]
    unfold notN
    have hal : (xa.toNat : Nat) < k := by omega
    rw [hnd _ hal]
    have hne : (nd ns xa.toNat).k ≠ 1 ∧ (nd ns xa.toNat).k ≠ 2 := by
      rcases g.parts xa.toNat (by omega) (by omega) with h | h | h <;> omega
    rw [if_neg hne.1, if_neg hne.2, if_neg p5]
    have : ((xa.toNat : Nat) : Int) = xa := by omega
    rw [this]
    exact hput
  · simp only at p1 p2 p3 p4 hno
    have hal : (xa.toNat : Nat) < k := by omega
    have hbl : (xb.toNat : Nat) < k := by omega
    have ho : oppN (ns.take k) xa.toNat xb.toNat = false := by
      rw [← hno p1]
      unfold oppN
      rw [hnd _ hal, hnd _ hbl]
    have e1 : ((min xa.toNat xb.toNat : Nat) : Int) = xa := by omega
    have e2 : ((max xa.toNat xb.toNat : Nat) : Int) = xb := by omega
    have hpair : ∀ u z, u < 2 → z < 2 → (pairN (ns.take k) xk xa.toNat xb.toNat u z).1 = ns.take (k + 1) := fun u z hu hz => by
      unfold pairN
      rw [ho, if_neg (by simp; omega), if_neg (by omega), if_neg (by omega), e1, e2]
      exact hput
    rcases p1 with rfl | rfl
    · simp only [doN]
      rw [if_neg (by decide), if_neg (by decide), if_neg (by decide), if_neg (by decide), if_pos trivial, hin xa (by omega) (by omega), hin xb (by omega) (by omega), if_pos (by rfl)]
      exact hpair 1 0 (by omega) (by omega)
    · simp only [doN]
      rw [if_neg (by decide), if_neg (by decide), if_neg (by decide), if_neg (by decide), if_neg (by decide), if_pos trivial, hin xa (by omega) (by omega), hin xb (by omega) (by omega), if_pos (by rfl)]
      exact hpair 0 1 (by omega) (by omega)
theorem take2 {ns : List Nd} (g : Good ns) : ns.take (max 2 0) = ns0 := by
  have h2 := g.two
  have e0 := g.n0
  have e1 := g.n1
  match ns, h2 with
  | a :: b :: r, _ =>
    simp [nd] at e0 e1
    subst e0 e1
    rfl

end Go.Proofs.Ytdpnififbpoagaa

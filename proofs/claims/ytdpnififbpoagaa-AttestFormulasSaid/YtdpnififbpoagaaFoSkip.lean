/- Contracts of package sexp at one text: plain, skip. -/
import Derived.Test.YtdpnififbpoagaaNodeRd
import Derived.Test.YtdpnififbpoagaaFmNnf2
import Derived.BigQuiet
import Derived.Deep.DeepCutAuto
import Derived.Deep.RegionHeld3
namespace Go.Proofs.Ytdpnififbpoagaa
open Go.RowKit
set_option linter.unusedVariables false
set_option linter.unusedSimpArgs false

/-- the reader of "(and a)" at a place, with so many nodes. -/
def rdO (i m : Nat) : Obj := .cells #[.string ⟨#[40, 97, 110, 100, 32, 97, 41]⟩, .int .i64 i, .int .i64 m, .int .i64 0, .int .i64 0] 100 (0, 0)
theorem plain_yes (c : Int) (w : World) (h1 : 32 < c) (h2 : c < 127) (h3 : c ≠ 40) (h4 : c ≠ 41) (h5 : c ≠ 59) : Calls Try.prog 78 #[.int .u8 c] w fun e w' => e = .returned (.bool true) ∧ w' = w := by
  have g3 : (c != 40) = true := by simpa using h3
  have g4 : (c != 41) = true := by simpa using h4
  have g5 : (c != 59) = true := by simpa using h5
  go_enter Try.func78, Try.ntmps78
  go_wp2_with fail
  go_ret
  exact ⟨rfl, rfl⟩
theorem plain_blank (w : World) : Calls Try.prog 78 #[.int .u8 32] w fun e w' => e = .returned (.bool false) ∧ w' = w := by
  go_enter Try.func78, Try.ntmps78
  go_wp2_with fail
  go_ret
  exact ⟨rfl, rfl⟩
theorem plain_close (w : World) : Calls Try.prog 78 #[.int .u8 41] w fun e w' => e = .returned (.bool false) ∧ w' = w := by
  go_enter Try.func78, Try.ntmps78
  go_wp2_with fail
  go_ret
  exact ⟨rfl, rfl⟩

theorem rdr_cells {w : World} {rb i m : Nat} (h : w.heap[rb]? = some (rdO i m)) : w.cell? ⟨rb, 0, none⟩ = some (.string ⟨#[40, 97, 110, 100, 32, 97, 41]⟩) ∧ w.cell? ⟨rb, 1, none⟩ = some (.int .i64 i) ∧ w.cell? ⟨rb, 2, none⟩ = some (.int .i64 m) ∧ w.cell? ⟨rb, 3, none⟩ = some (.int .i64 0) ∧ w.cell? ⟨rb, 4, none⟩ = some (.int .i64 0) ∧
    w.frozen? ⟨rb, 1, none⟩ = false ∧ w.frozen? ⟨rb, 2, none⟩ = false :=
  ⟨(cell_of_blk h 0).trans rfl, (cell_of_blk h 1).trans rfl, (cell_of_blk h 2).trans rfl, (cell_of_blk h 3).trans rfl, (cell_of_blk h 4).trans rfl, frozen_of_blk h 1, frozen_of_blk h 2⟩
theorem rd_set1 {w : World} {rb i m : Nat} (h : w.heap[rb]? = some (rdO i m)) (j : Nat) : (w.setCell ⟨rb, 1, none⟩ (.int .i64 j)).heap[rb]? = some (rdO j m) := (set_blk h 1 _).trans rfl
theorem rd_set2 {w : World} {rb i m : Nat} (h : w.heap[rb]? = some (rdO i m)) (j : Nat) : (w.setCell ⟨rb, 2, none⟩ (.int .i64 j)).heap[rb]? = some (rdO i j) := (set_blk h 2 _).trans rfl
theorem rd_fr {w W : World} {rb : Nat} (h : Fr (fun b => b = rb) w W) (k : Nat) (v : Value) : Fr (fun b => b = rb) w (W.setCell ⟨rb, k, none⟩ v) := h.setCell ⟨rb, k, none⟩ v (.inl rfl)

theorem rd_drewN {w : World} {rb i m q : Nat} (h : w.heap[rb]? = some (rdO i m)) : (w.drewN q).heap[rb]? = some (rdO i m) := h

theorem byte0 : ((((⟨#[40, 97, 110, 100, 32, 97, 41]⟩ : ByteArray)[0]'(by decide)).toNat : Nat) : Int) = 40 := rfl
theorem byte1 : ((((⟨#[40, 97, 110, 100, 32, 97, 41]⟩ : ByteArray)[1]'(by decide)).toNat : Nat) : Int) = 97 := rfl
theorem byte2 : ((((⟨#[40, 97, 110, 100, 32, 97, 41]⟩ : ByteArray)[2]'(by decide)).toNat : Nat) : Int) = 110 := rfl
theorem byte3 : ((((⟨#[40, 97, 110, 100, 32, 97, 41]⟩ : ByteArray)[3]'(by decide)).toNat : Nat) : Int) = 100 := rfl
theorem byte4 : ((((⟨#[40, 97, 110, 100, 32, 97, 41]⟩ : ByteArray)[4]'(by decide)).toNat : Nat) : Int) = 32 := rfl
theorem byte5 : ((((⟨#[40, 97, 110, 100, 32, 97, 41]⟩ : ByteArray)[5]'(by decide)).toNat : Nat) : Int) = 97 := rfl
theorem byte6 : ((((⟨#[40, 97, 110, 100, 32, 97, 41]⟩ : ByteArray)[6]'(by decide)).toNat : Nat) : Int) = 41 := rfl
/-- how far the reader is. -/
def rdM (rb : Nat) (w : World) : Nat := 10 - (intOf ((w.cell? ⟨rb, 1, none⟩).getD (.int .i64 0))).toNat
theorem rdM_lt {w W : World} {rb i j m m' : Nat} (h : w.heap[rb]? = some (rdO i m)) (h' : W.heap[rb]? = some (rdO j m')) (hij : i < j) (hj : j ≤ 10) : rdM rb W < rdM rb w := by
  have h1 : w.cell? ⟨rb, 1, none⟩ = some (.int .i64 i) := (cell_of_blk h 1).trans rfl
  have h2 : W.cell? ⟨rb, 1, none⟩ = some (.int .i64 j) := (cell_of_blk h' 1).trans rfl
  unfold rdM
  rw [h1, h2]
  simp [intOf]
  omega
set_option maxHeartbeats 2000000 in
theorem skip_end (rb m : Nat) (w : World) (h : w.heap[rb]? = some (rdO 7 m)) : Calls Try.prog 72 #[.pointer (some ⟨rb, 0, none⟩)] w fun e w' => e = .returned (.tuple #[]) ∧ w'.heap[rb]? = some (rdO 7 m) ∧ Fr (fun b => b = rb) w w' := by
  have H := Lib.hid h
  clear h
  go_enter Try.func72, Try.ntmps72
  go_wp2_with fail
  go_loopw [] (fun wr => wr.heap[rb]? = some (rdO 7 m) ∧ Fr (fun b => b = rb) w wr) (fun _ => 0)
  case atStart => exact ⟨H.out, Fr.refl _ _⟩
  case round =>
    obtain ⟨hh, hf⟩ := hrel
    obtain ⟨c0, c1, c2, c3, c4, z1, z2⟩ := rdr_cells hh
    go_wp2_with fail
    go_quiet (fail)
    go_wp2_with fail
    go_end0
    exact ⟨rfl, hh, hf.drewN _⟩
set_option maxHeartbeats 2000000 in
theorem skip_stay0 (rb m : Nat) (w : World) (h : w.heap[rb]? = some (rdO 0 m)) : Calls Try.prog 72 #[.pointer (some ⟨rb, 0, none⟩)] w fun e w' => e = .returned (.tuple #[]) ∧ w'.heap[rb]? = some (rdO 0 m) ∧ Fr (fun b => b = rb) w w' := by
  have H := Lib.hid h
  clear h
  go_enter Try.func72, Try.ntmps72
  go_wp2_with fail
  go_loopw [] (fun wr => wr.heap[rb]? = some (rdO 0 m) ∧ Fr (fun b => b = rb) w wr) (fun _ => 0)
  case atStart => exact ⟨H.out, Fr.refl _ _⟩
  case round =>
    obtain ⟨hh, hf⟩ := hrel
    obtain ⟨c0, c1, c2, c3, c4, z1, z2⟩ := rdr_cells hh
    go_wp2_with fail
    go_quiet (fail)
    go_wp2_with fail
    go_quiet (fail)
    have hb := byte0
    go_wp2_with fail
    refine bodyPost_ret (results_none rfl _ _ _) rfl ?_
    exact ⟨rfl, hh, hf.drewN _⟩
set_option maxHeartbeats 2000000 in
theorem skip_stay1 (rb m : Nat) (w : World) (h : w.heap[rb]? = some (rdO 1 m)) : Calls Try.prog 72 #[.pointer (some ⟨rb, 0, none⟩)] w fun e w' => e = .returned (.tuple #[]) ∧ w'.heap[rb]? = some (rdO 1 m) ∧ Fr (fun b => b = rb) w w' := by
  have H := Lib.hid h
  clear h
  go_enter Try.func72, Try.ntmps72
  go_wp2_with fail
  go_loopw [] (fun wr => wr.heap[rb]? = some (rdO 1 m) ∧ Fr (fun b => b = rb) w wr) (fun _ => 0)
  case atStart => exact ⟨H.out, Fr.refl _ _⟩
  case round =>
    obtain ⟨hh, hf⟩ := hrel
    obtain ⟨c0, c1, c2, c3, c4, z1, z2⟩ := rdr_cells hh
    go_wp2_with fail
    go_quiet (fail)
    go_wp2_with fail
    go_quiet (fail)
    have hb := byte1
    go_wp2_with fail
    refine bodyPost_ret (results_none rfl _ _ _) rfl ?_
    exact ⟨rfl, hh, hf.drewN _⟩
set_option maxHeartbeats 2000000 in
theorem skip_stay6 (rb m : Nat) (w : World) (h : w.heap[rb]? = some (rdO 6 m)) : Calls Try.prog 72 #[.pointer (some ⟨rb, 0, none⟩)] w fun e w' => e = .returned (.tuple #[]) ∧ w'.heap[rb]? = some (rdO 6 m) ∧ Fr (fun b => b = rb) w w' := by
  have H := Lib.hid h
  clear h
  go_enter Try.func72, Try.ntmps72
  go_wp2_with fail
  go_loopw [] (fun wr => wr.heap[rb]? = some (rdO 6 m) ∧ Fr (fun b => b = rb) w wr) (fun _ => 0)
  case atStart => exact ⟨H.out, Fr.refl _ _⟩
  case round =>
    obtain ⟨hh, hf⟩ := hrel
    obtain ⟨c0, c1, c2, c3, c4, z1, z2⟩ := rdr_cells hh
    go_wp2_with fail
    go_quiet (fail)
    go_wp2_with fail
    go_quiet (fail)
    have hb := byte6
    go_wp2_with fail
    refine bodyPost_ret (results_none rfl _ _ _) rfl ?_
    exact ⟨rfl, hh, hf.drewN _⟩
set_option maxHeartbeats 2000000 in
theorem skip_four (rb m : Nat) (w : World) (h : w.heap[rb]? = some (rdO 4 m)) : Calls Try.prog 72 #[.pointer (some ⟨rb, 0, none⟩)] w fun e w' => e = .returned (.tuple #[]) ∧ w'.heap[rb]? = some (rdO 5 m) ∧ Fr (fun b => b = rb) w w' := by
  have H := Lib.hid h
  clear h
  go_enter Try.func72, Try.ntmps72
  go_wp2_with fail
  go_loopw [] (fun wr => (wr.heap[rb]? = some (rdO 4 m) ∨ wr.heap[rb]? = some (rdO 5 m)) ∧ Fr (fun b => b = rb) w wr) (fun wr => rdM rb wr)
  case atStart => exact ⟨.inl H.out, Fr.refl _ _⟩
  case round =>
    obtain ⟨hh | hh, hf⟩ := hrel
    · obtain ⟨c0, c1, c2, c3, c4, z1, z2⟩ := rdr_cells hh
      go_wp2_with fail
      go_quiet (fail)
      go_wp2_with fail
      go_quiet (fail)
      have hb := byte4
      go_wp2_with fail
      go_roundw
      case rel => exact ⟨.inr (rd_set1 (rd_drewN hh) 5), rd_fr (hf.drewN _) 1 _⟩
      case measure => exact rdM_lt hh (rd_set1 (rd_drewN hh) 5) (by decide) (by decide)
    · obtain ⟨c0, c1, c2, c3, c4, z1, z2⟩ := rdr_cells hh
      go_wp2_with fail
      go_quiet (fail)
      go_wp2_with fail
      go_quiet (fail)
      have hb := byte5
      go_wp2_with fail
      refine bodyPost_ret (results_none rfl _ _ _) rfl ?_
      exact ⟨rfl, hh, hf.drewN _⟩
end Go.Proofs.Ytdpnififbpoagaa

namespace Go.Proofs.Ytdpnififbpoagaa
open Go.RowKit
set_option linter.unusedVariables false
set_option linter.unusedSimpArgs false

theorem plain_yesB (c : Int) (w : World) (h1 : 32 < c) (h2 : c < 127) (h3 : c ≠ 40) (h4 : c ≠ 41) (h5 : c ≠ 59) : Calls Try.prog 78 #[.int .u8 c] w fun e w' => e = .returned (.bool true) ∧ Below w.heap.size w w' :=
  (plain_yes c w h1 h2 h3 h4 h5).mono fun e w' ⟨a, b⟩ => ⟨a, by subst b; exact Below.refl _ _⟩
theorem plain_blankB (w : World) : Calls Try.prog 78 #[.int .u8 32] w fun e w' => e = .returned (.bool false) ∧ Below w.heap.size w w' :=
  (plain_blank w).mono fun e w' ⟨a, b⟩ => ⟨a, by subst b; exact Below.refl _ _⟩
theorem plain_closeB (w : World) : Calls Try.prog 78 #[.int .u8 41] w fun e w' => e = .returned (.bool false) ∧ Below w.heap.size w w' :=
  (plain_close w).mono fun e w' ⟨a, b⟩ => ⟨a, by subst b; exact Below.refl _ _⟩
theorem set_other (w : World) (b : Nat) (g k : Nat) (v : Value) (h : b ≠ g) : (w.setCell ⟨g, k, none⟩ v).heap[b]? = w.heap[b]? := Below.heap_setCell w ⟨g, k, none⟩ v b h
set_option maxRecDepth 100000 in
set_option maxHeartbeats 4000000 in
theorem one_and (rb m : Nat) (d : Int) (w : World) (h : w.heap[rb]? = some (rdO 1 m)) : Calls Try.prog 74 #[.pointer (some ⟨rb, 0, none⟩), .int .i64 d] w fun e w' => (∃ s, e = .returned (.agg #[.bool true, .string s, .slice none 0 0])) ∧ w'.heap[rb]? = some (rdO 4 m) ∧ Fr (fun b => b = rb) w w' := by
  have hrb := lt_of_blk h
  obtain ⟨c0, c1, c2, c3, c4, z1, z2⟩ := rdr_cells h
  have H := Lib.hid h
  clear h
  go_enter Try.func74, Try.ntmps74
  go_wp2_with fail
  have hb := byte1
  go_quiet (fail)
  go_wp2_with fail
  go_loopw [] (fun wr => (wr.heap[rb]? = some (rdO 1 m) ∨ wr.heap[rb]? = some (rdO 2 m) ∨ wr.heap[rb]? = some (rdO 3 m) ∨ wr.heap[rb]? = some (rdO 4 m)) ∧ Fr (fun b => b = rb) w wr ∧ wr.heap[w.heap.size]? = some (.cells #[.bool false, .string ⟨#[]⟩, .slice none 0 0] 114 (0, 0))) (fun wr => rdM rb wr)
  case atStart => exact ⟨.inl ((alloc_old _ hrb).trans H.out), ((Fr.refl _ _).alloc _).drewN _, heap_alloc_new _ _⟩
  case round =>
    obtain ⟨hh | hh | hh | hh, hf, hx⟩ := hrel
    ·
      have hcs : ∀ W', Below wr.heap.size wr W' → W'.cell? ⟨rb, 0, none⟩ = some (.string ⟨#[40, 97, 110, 100, 32, 97, 41]⟩) ∧ W'.cell? ⟨rb, 1, none⟩ = some (.int .i64 ((1 : Nat) : Int)) := fun W' hW' => by
        have h1 := (hW'.block _ (lt_of_blk hh)).trans hh
        exact ⟨(cell_of_blk h1 0).trans rfl, (cell_of_blk h1 1).trans rfl⟩
      obtain ⟨x0, x1⟩ := hcs wr (Below.refl _ _)
      have HCS := Lib.hid hcs
      have HH := Lib.hid hh
      have HF := Lib.hid hf
      have HX := Lib.hid hx
      clear hcs hh hf hx
      go_wp2_with fail
      have hb := byte1
      have hpl := fun W => plain_yesB 97 W (by decide) (by decide) (by decide) (by decide) (by decide)
      have HPL := Lib.hid hpl
      clear hpl
      go_cut [53] (fun x wx => x = .bool true ∧ Below wr.heap.size wr wx)
      case first =>
        go_region_held3 (fun W' => W'.cell? ⟨rb, 0, none⟩ = some (.string ⟨#[40, 97, 110, 100, 32, 97, 41]⟩) ∧ W'.cell? ⟨rb, 1, none⟩ = some (.int .i64 ((1 : Nat) : Int))) (first | exact HCS.out _ hb10 | exact HCS.out _ (below_drewA (Below.refl _ _)) | exact HCS.out _ (Below.refl _ _)) ((go_at_call 78; refine (HPL.out _).mono ?_; rintro e w10 ⟨rfl, hx⟩; have hb10 := (Below.refl wr.heap.size wr).trans (show Below wr.heap.size wr w10 from ⟨hx.os, hx.tape, hx.output, hx.size, hx.block⟩); clear hx))
        all_goals
          go_wp2_with fail
          go_meet
          exact ⟨rfl, hb10⟩
      case rest =>
      obtain ⟨rfl, hbc⟩ := hcut
      obtain ⟨wq, rfl⟩ : ∃ x, x = wc := ⟨_, rfl⟩
      have hh := (hbc.block _ (lt_of_blk HH.out)).trans HH.out
      have hx := (hbc.block _ (lt_of_blk HX.out)).trans HX.out
      have hf := HF.out.trans (Fr.of_below hbc) (fun b hb => .inl hb)
      have HM := Lib.hid HH.out
      clear x0 x1 HH HF HX HPL
      obtain ⟨c0, c1, c2, c3, c4, z1, z2⟩ := rdr_cells hh
      go_wp2_with fail
      go_roundw
      case rel => exact ⟨.inr (.inl (rd_set1 hh _)), rd_fr hf 1 _, (set_other _ _ _ _ _ (by simp; omega)).trans hx⟩
      case measure => exact rdM_lt HM.out (rd_set1 hh _) (by decide) (by decide)
    ·
      have hcs : ∀ W', Below wr.heap.size wr W' → W'.cell? ⟨rb, 0, none⟩ = some (.string ⟨#[40, 97, 110, 100, 32, 97, 41]⟩) ∧ W'.cell? ⟨rb, 1, none⟩ = some (.int .i64 ((2 : Nat) : Int)) := fun W' hW' => by
        have h1 := (hW'.block _ (lt_of_blk hh)).trans hh
        exact ⟨(cell_of_blk h1 0).trans rfl, (cell_of_blk h1 1).trans rfl⟩
      obtain ⟨x0, x1⟩ := hcs wr (Below.refl _ _)
      have HCS := Lib.hid hcs
      have HH := Lib.hid hh
      have HF := Lib.hid hf
      have HX := Lib.hid hx
      clear hcs hh hf hx
      go_wp2_with fail
      have hb := byte2
      have hpl := fun W => plain_yesB 110 W (by decide) (by decide) (by decide) (by decide) (by decide)
      have HPL := Lib.hid hpl
      clear hpl
      go_cut [53] (fun x wx => x = .bool true ∧ Below wr.heap.size wr wx)
      case first =>
        go_region_held3 (fun W' => W'.cell? ⟨rb, 0, none⟩ = some (.string ⟨#[40, 97, 110, 100, 32, 97, 41]⟩) ∧ W'.cell? ⟨rb, 1, none⟩ = some (.int .i64 ((2 : Nat) : Int))) (first | exact HCS.out _ hb10 | exact HCS.out _ (below_drewA (Below.refl _ _)) | exact HCS.out _ (Below.refl _ _)) ((go_at_call 78; refine (HPL.out _).mono ?_; rintro e w10 ⟨rfl, hx⟩; have hb10 := (Below.refl wr.heap.size wr).trans (show Below wr.heap.size wr w10 from ⟨hx.os, hx.tape, hx.output, hx.size, hx.block⟩); clear hx))
        all_goals
          go_wp2_with fail
          go_meet
          exact ⟨rfl, hb10⟩
      case rest =>
      obtain ⟨rfl, hbc⟩ := hcut
      obtain ⟨wq, rfl⟩ : ∃ x, x = wc := ⟨_, rfl⟩
      have hh := (hbc.block _ (lt_of_blk HH.out)).trans HH.out
      have hx := (hbc.block _ (lt_of_blk HX.out)).trans HX.out
      have hf := HF.out.trans (Fr.of_below hbc) (fun b hb => .inl hb)
      have HM := Lib.hid HH.out
      clear x0 x1 HH HF HX HPL
      obtain ⟨c0, c1, c2, c3, c4, z1, z2⟩ := rdr_cells hh
      go_wp2_with fail
      go_roundw
      case rel => exact ⟨.inr (.inr (.inl (rd_set1 hh _))), rd_fr hf 1 _, (set_other _ _ _ _ _ (by simp; omega)).trans hx⟩
      case measure => exact rdM_lt HM.out (rd_set1 hh _) (by decide) (by decide)
    ·
      have hcs : ∀ W', Below wr.heap.size wr W' → W'.cell? ⟨rb, 0, none⟩ = some (.string ⟨#[40, 97, 110, 100, 32, 97, 41]⟩) ∧ W'.cell? ⟨rb, 1, none⟩ = some (.int .i64 ((3 : Nat) : Int)) := fun W' hW' => by
        have h1 := (hW'.block _ (lt_of_blk hh)).trans hh
        exact ⟨(cell_of_blk h1 0).trans rfl, (cell_of_blk h1 1).trans rfl⟩
      obtain ⟨x0, x1⟩ := hcs wr (Below.refl _ _)
      have HCS := Lib.hid hcs
      have HH := Lib.hid hh
      have HF := Lib.hid hf
      have HX := Lib.hid hx
      clear hcs hh hf hx
      go_wp2_with fail
      have hb := byte3
      have hpl := fun W => plain_yesB 100 W (by decide) (by decide) (by decide) (by decide) (by decide)
      have HPL := Lib.hid hpl
      clear hpl
      go_cut [53] (fun x wx => x = .bool true ∧ Below wr.heap.size wr wx)
      case first =>
        go_region_held3 (fun W' => W'.cell? ⟨rb, 0, none⟩ = some (.string ⟨#[40, 97, 110, 100, 32, 97, 41]⟩) ∧ W'.cell? ⟨rb, 1, none⟩ = some (.int .i64 ((3 : Nat) : Int))) (first | exact HCS.out _ hb10 | exact HCS.out _ (below_drewA (Below.refl _ _)) | exact HCS.out _ (Below.refl _ _)) ((go_at_call 78; refine (HPL.out _).mono ?_; rintro e w10 ⟨rfl, hx⟩; have hb10 := (Below.refl wr.heap.size wr).trans (show Below wr.heap.size wr w10 from ⟨hx.os, hx.tape, hx.output, hx.size, hx.block⟩); clear hx))
        all_goals
          go_wp2_with fail
          go_meet
          exact ⟨rfl, hb10⟩
      case rest =>
      obtain ⟨rfl, hbc⟩ := hcut
      obtain ⟨wq, rfl⟩ : ∃ x, x = wc := ⟨_, rfl⟩
      have hh := (hbc.block _ (lt_of_blk HH.out)).trans HH.out
      have hx := (hbc.block _ (lt_of_blk HX.out)).trans HX.out
      have hf := HF.out.trans (Fr.of_below hbc) (fun b hb => .inl hb)
      have HM := Lib.hid HH.out
      clear x0 x1 HH HF HX HPL
      obtain ⟨c0, c1, c2, c3, c4, z1, z2⟩ := rdr_cells hh
      go_wp2_with fail
      go_roundw
      case rel => exact ⟨.inr (.inr (.inr (rd_set1 hh _))), rd_fr hf 1 _, (set_other _ _ _ _ _ (by simp; omega)).trans hx⟩
      case measure => exact rdM_lt HM.out (rd_set1 hh _) (by decide) (by decide)
    ·
      have hcs : ∀ W', Below wr.heap.size wr W' → W'.cell? ⟨rb, 0, none⟩ = some (.string ⟨#[40, 97, 110, 100, 32, 97, 41]⟩) ∧ W'.cell? ⟨rb, 1, none⟩ = some (.int .i64 ((4 : Nat) : Int)) := fun W' hW' => by
        have h1 := (hW'.block _ (lt_of_blk hh)).trans hh
        exact ⟨(cell_of_blk h1 0).trans rfl, (cell_of_blk h1 1).trans rfl⟩
      obtain ⟨x0, x1⟩ := hcs wr (Below.refl _ _)
      have HCS := Lib.hid hcs
      have HH := Lib.hid hh
      have HF := Lib.hid hf
      have HX := Lib.hid hx
      clear hcs hh hf hx
      go_wp2_with fail
      have hb := byte4
      have hpl := fun W => plain_blankB W
      have HPL := Lib.hid hpl
      clear hpl
      go_cut [53] (fun x wx => x = .bool false ∧ Below wr.heap.size wr wx)
      case first =>
        go_region_held3 (fun W' => W'.cell? ⟨rb, 0, none⟩ = some (.string ⟨#[40, 97, 110, 100, 32, 97, 41]⟩) ∧ W'.cell? ⟨rb, 1, none⟩ = some (.int .i64 ((4 : Nat) : Int))) (first | exact HCS.out _ hb10 | exact HCS.out _ (below_drewA (Below.refl _ _)) | exact HCS.out _ (Below.refl _ _)) ((go_at_call 78; refine (HPL.out _).mono ?_; rintro e w10 ⟨rfl, hx⟩; have hb10 := (Below.refl wr.heap.size wr).trans (show Below wr.heap.size wr w10 from ⟨hx.os, hx.tape, hx.output, hx.size, hx.block⟩); clear hx))
        all_goals
          go_wp2_with fail
          go_meet
          exact ⟨rfl, hb10⟩
      case rest =>
      obtain ⟨rfl, hbc⟩ := hcut
      obtain ⟨wq, rfl⟩ : ∃ x, x = wc := ⟨_, rfl⟩
      have hh := (hbc.block _ (lt_of_blk HH.out)).trans HH.out
      have hx := (hbc.block _ (lt_of_blk HX.out)).trans HX.out
      have hf := HF.out.trans (Fr.of_below hbc) (fun b hb => .inl hb)
      have HM := Lib.hid HH.out
      clear x0 x1 HH HF HX HPL
      obtain ⟨c0, c1, c2, c3, c4, z1, z2⟩ := rdr_cells hh
      go_wp2_with fail
      have y0 := frozen_of_blk hx 0
      have y1 := frozen_of_blk hx 1
      have y2 := frozen_of_blk hx 2
      have x0 : wq.cell? ⟨w.heap.size, 0, none⟩ = some (.bool false) := (cell_of_blk hx 0).trans rfl
      have x1 : wq.cell? ⟨w.heap.size, 1, none⟩ = some (.string ⟨#[]⟩) := (cell_of_blk hx 1).trans rfl
      have x2 : wq.cell? ⟨w.heap.size, 2, none⟩ = some (.slice none 0 0) := (cell_of_blk hx 2).trans rfl
      go_region
      go_wp2_with fail
      have e1 := set_blk hx 0 (.bool true)
      have e2 := set_blk e1 1 (.string (ByteArray.extract ⟨#[40, 97, 110, 100, 32, 97, 41]⟩ 1 4))
      have e3 := set_blk e2 2 (.slice none 0 0)
      have f3 := (((hf.setCell ⟨w.heap.size, 0, none⟩ (.bool true) (.inr (Nat.le_refl _))).setCell ⟨w.heap.size, 1, none⟩ (.string (ByteArray.extract ⟨#[40, 97, 110, 100, 32, 97, 41]⟩ 1 4)) (.inr (Nat.le_refl _))).setCell ⟨w.heap.size, 2, none⟩ (.slice none 0 0) (.inr (Nat.le_refl _))).drew
      have g3 := (set_other (((wq.setCell ⟨w.heap.size, 0, none⟩ (.bool true)).setCell ⟨w.heap.size, 1, none⟩ (.string (ByteArray.extract ⟨#[40, 97, 110, 100, 32, 97, 41]⟩ 1 4)))) rb w.heap.size 2 (.slice none 0 0) (by omega)).trans ((set_other _ rb w.heap.size 1 _ (by omega)).trans ((set_other _ rb w.heap.size 0 _ (by omega)).trans hh))
      obtain ⟨W5, hW5⟩ : ∃ W, W = (((wq.setCell ⟨w.heap.size, 0, none⟩ (.bool true)).setCell ⟨w.heap.size, 1, none⟩ (.string (ByteArray.extract ⟨#[40, 97, 110, 100, 32, 97, 41]⟩ 1 4))).setCell ⟨w.heap.size, 2, none⟩ (.slice none 0 0)).drew := ⟨_, rfl⟩
      have e4 : W5.heap[w.heap.size]? = some (.cells #[.bool true, .string (ByteArray.extract ⟨#[40, 97, 110, 100, 32, 97, 41]⟩ 1 4), .slice none 0 0] 114 (0, 0)) := by rw [hW5]; exact e3.trans rfl
      have g4 : W5.heap[rb]? = some (rdO 4 m) := by rw [hW5]; exact g3
      rw [← hW5] at f3 ⊢
      clear hW5 e1 e2 e3 g3
      have k0 : W5.cell? ⟨w.heap.size, 0, none⟩ = some (.bool true) := (cell_of_blk e4 0).trans rfl
      have k1 : W5.cell? ⟨w.heap.size, 1, none⟩ = some (.string (ByteArray.extract ⟨#[40, 97, 110, 100, 32, 97, 41]⟩ 1 4)) := (cell_of_blk e4 1).trans rfl
      have k2 : W5.cell? ⟨w.heap.size, 2, none⟩ = some (.slice none 0 0) := (cell_of_blk e4 2).trans rfl
      refine bodyPost_ret (v := .agg #[.bool true, .string (ByteArray.extract ⟨#[40, 97, 110, 100, 32, 97, 41]⟩ 1 4), .slice none 0 0]) (by simp [results, Try.results74, go_sem, k0, k1, k2]) rfl ?_
      exact ⟨⟨_, rfl⟩, g4, f3⟩
set_option maxRecDepth 100000 in
set_option maxHeartbeats 4000000 in
theorem one_a (rb m : Nat) (d : Int) (w : World) (h : w.heap[rb]? = some (rdO 5 m)) : Calls Try.prog 74 #[.pointer (some ⟨rb, 0, none⟩), .int .i64 d] w fun e w' => (∃ s, e = .returned (.agg #[.bool true, .string s, .slice none 0 0])) ∧ w'.heap[rb]? = some (rdO 6 m) ∧ Fr (fun b => b = rb) w w' := by
  have hrb := lt_of_blk h
  obtain ⟨c0, c1, c2, c3, c4, z1, z2⟩ := rdr_cells h
  have H := Lib.hid h
  clear h
  go_enter Try.func74, Try.ntmps74
  go_wp2_with fail
  have hb := byte5
  go_quiet (fail)
  go_wp2_with fail
  go_loopw [] (fun wr => (wr.heap[rb]? = some (rdO 5 m) ∨ wr.heap[rb]? = some (rdO 6 m)) ∧ Fr (fun b => b = rb) w wr ∧ wr.heap[w.heap.size]? = some (.cells #[.bool false, .string ⟨#[]⟩, .slice none 0 0] 114 (0, 0))) (fun wr => rdM rb wr)
  case atStart => exact ⟨.inl ((alloc_old _ hrb).trans H.out), ((Fr.refl _ _).alloc _).drewN _, heap_alloc_new _ _⟩
  case round =>
    obtain ⟨hh | hh, hf, hx⟩ := hrel
    ·
      have hcs : ∀ W', Below wr.heap.size wr W' → W'.cell? ⟨rb, 0, none⟩ = some (.string ⟨#[40, 97, 110, 100, 32, 97, 41]⟩) ∧ W'.cell? ⟨rb, 1, none⟩ = some (.int .i64 ((5 : Nat) : Int)) := fun W' hW' => by
        have h1 := (hW'.block _ (lt_of_blk hh)).trans hh
        exact ⟨(cell_of_blk h1 0).trans rfl, (cell_of_blk h1 1).trans rfl⟩
      obtain ⟨x0, x1⟩ := hcs wr (Below.refl _ _)
      have HCS := Lib.hid hcs
      have HH := Lib.hid hh
      have HF := Lib.hid hf
      have HX := Lib.hid hx
      clear hcs hh hf hx
      go_wp2_with fail
      have hb := byte5
      have hpl := fun W => plain_yesB 97 W (by decide) (by decide) (by decide) (by decide) (by decide)
      have HPL := Lib.hid hpl
      clear hpl
      go_cut [53] (fun x wx => x = .bool true ∧ Below wr.heap.size wr wx)
      case first =>
        go_region_held3 (fun W' => W'.cell? ⟨rb, 0, none⟩ = some (.string ⟨#[40, 97, 110, 100, 32, 97, 41]⟩) ∧ W'.cell? ⟨rb, 1, none⟩ = some (.int .i64 ((5 : Nat) : Int))) (first | exact HCS.out _ hb10 | exact HCS.out _ (below_drewA (Below.refl _ _)) | exact HCS.out _ (Below.refl _ _)) ((go_at_call 78; refine (HPL.out _).mono ?_; rintro e w10 ⟨rfl, hx⟩; have hb10 := (Below.refl wr.heap.size wr).trans (show Below wr.heap.size wr w10 from ⟨hx.os, hx.tape, hx.output, hx.size, hx.block⟩); clear hx))
        all_goals
          go_wp2_with fail
          go_meet
          exact ⟨rfl, hb10⟩
      case rest =>
      obtain ⟨rfl, hbc⟩ := hcut
      obtain ⟨wq, rfl⟩ : ∃ x, x = wc := ⟨_, rfl⟩
      have hh := (hbc.block _ (lt_of_blk HH.out)).trans HH.out
      have hx := (hbc.block _ (lt_of_blk HX.out)).trans HX.out
      have hf := HF.out.trans (Fr.of_below hbc) (fun b hb => .inl hb)
      have HM := Lib.hid HH.out
      clear x0 x1 HH HF HX HPL
      obtain ⟨c0, c1, c2, c3, c4, z1, z2⟩ := rdr_cells hh
      go_wp2_with fail
      go_roundw
      case rel => exact ⟨.inr (rd_set1 hh _), rd_fr hf 1 _, (set_other _ _ _ _ _ (by simp; omega)).trans hx⟩
      case measure => exact rdM_lt HM.out (rd_set1 hh _) (by decide) (by decide)
    ·
      have hcs : ∀ W', Below wr.heap.size wr W' → W'.cell? ⟨rb, 0, none⟩ = some (.string ⟨#[40, 97, 110, 100, 32, 97, 41]⟩) ∧ W'.cell? ⟨rb, 1, none⟩ = some (.int .i64 ((6 : Nat) : Int)) := fun W' hW' => by
        have h1 := (hW'.block _ (lt_of_blk hh)).trans hh
        exact ⟨(cell_of_blk h1 0).trans rfl, (cell_of_blk h1 1).trans rfl⟩
      obtain ⟨x0, x1⟩ := hcs wr (Below.refl _ _)
      have HCS := Lib.hid hcs
      have HH := Lib.hid hh
      have HF := Lib.hid hf
      have HX := Lib.hid hx
      clear hcs hh hf hx
      go_wp2_with fail
      have hb := byte6
      have hpl := fun W => plain_closeB W
      have HPL := Lib.hid hpl
      clear hpl
      go_cut [53] (fun x wx => x = .bool false ∧ Below wr.heap.size wr wx)
      case first =>
        go_region_held3 (fun W' => W'.cell? ⟨rb, 0, none⟩ = some (.string ⟨#[40, 97, 110, 100, 32, 97, 41]⟩) ∧ W'.cell? ⟨rb, 1, none⟩ = some (.int .i64 ((6 : Nat) : Int))) (first | exact HCS.out _ hb10 | exact HCS.out _ (below_drewA (Below.refl _ _)) | exact HCS.out _ (Below.refl _ _)) ((go_at_call 78; refine (HPL.out _).mono ?_; rintro e w10 ⟨rfl, hx⟩; have hb10 := (Below.refl wr.heap.size wr).trans (show Below wr.heap.size wr w10 from ⟨hx.os, hx.tape, hx.output, hx.size, hx.block⟩); clear hx))
        all_goals
          go_wp2_with fail
          go_meet
          exact ⟨rfl, hb10⟩
      case rest =>
      obtain ⟨rfl, hbc⟩ := hcut
      obtain ⟨wq, rfl⟩ : ∃ x, x = wc := ⟨_, rfl⟩
      have hh := (hbc.block _ (lt_of_blk HH.out)).trans HH.out
      have hx := (hbc.block _ (lt_of_blk HX.out)).trans HX.out
      have hf := HF.out.trans (Fr.of_below hbc) (fun b hb => .inl hb)
      have HM := Lib.hid HH.out
      clear x0 x1 HH HF HX HPL
      obtain ⟨c0, c1, c2, c3, c4, z1, z2⟩ := rdr_cells hh
      go_wp2_with fail
      have y0 := frozen_of_blk hx 0
      have y1 := frozen_of_blk hx 1
      have y2 := frozen_of_blk hx 2
      have x0 : wq.cell? ⟨w.heap.size, 0, none⟩ = some (.bool false) := (cell_of_blk hx 0).trans rfl
      have x1 : wq.cell? ⟨w.heap.size, 1, none⟩ = some (.string ⟨#[]⟩) := (cell_of_blk hx 1).trans rfl
      have x2 : wq.cell? ⟨w.heap.size, 2, none⟩ = some (.slice none 0 0) := (cell_of_blk hx 2).trans rfl
      go_region
      go_wp2_with fail
      have e1 := set_blk hx 0 (.bool true)
      have e2 := set_blk e1 1 (.string (ByteArray.extract ⟨#[40, 97, 110, 100, 32, 97, 41]⟩ 5 6))
      have e3 := set_blk e2 2 (.slice none 0 0)
      have f3 := (((hf.setCell ⟨w.heap.size, 0, none⟩ (.bool true) (.inr (Nat.le_refl _))).setCell ⟨w.heap.size, 1, none⟩ (.string (ByteArray.extract ⟨#[40, 97, 110, 100, 32, 97, 41]⟩ 5 6)) (.inr (Nat.le_refl _))).setCell ⟨w.heap.size, 2, none⟩ (.slice none 0 0) (.inr (Nat.le_refl _))).drew
      have g3 := (set_other (((wq.setCell ⟨w.heap.size, 0, none⟩ (.bool true)).setCell ⟨w.heap.size, 1, none⟩ (.string (ByteArray.extract ⟨#[40, 97, 110, 100, 32, 97, 41]⟩ 5 6)))) rb w.heap.size 2 (.slice none 0 0) (by omega)).trans ((set_other _ rb w.heap.size 1 _ (by omega)).trans ((set_other _ rb w.heap.size 0 _ (by omega)).trans hh))
      obtain ⟨W5, hW5⟩ : ∃ W, W = (((wq.setCell ⟨w.heap.size, 0, none⟩ (.bool true)).setCell ⟨w.heap.size, 1, none⟩ (.string (ByteArray.extract ⟨#[40, 97, 110, 100, 32, 97, 41]⟩ 5 6))).setCell ⟨w.heap.size, 2, none⟩ (.slice none 0 0)).drew := ⟨_, rfl⟩
      have e4 : W5.heap[w.heap.size]? = some (.cells #[.bool true, .string (ByteArray.extract ⟨#[40, 97, 110, 100, 32, 97, 41]⟩ 5 6), .slice none 0 0] 114 (0, 0)) := by rw [hW5]; exact e3.trans rfl
      have g4 : W5.heap[rb]? = some (rdO 6 m) := by rw [hW5]; exact g3
      rw [← hW5] at f3 ⊢
      clear hW5 e1 e2 e3 g3
      have k0 : W5.cell? ⟨w.heap.size, 0, none⟩ = some (.bool true) := (cell_of_blk e4 0).trans rfl
      have k1 : W5.cell? ⟨w.heap.size, 1, none⟩ = some (.string (ByteArray.extract ⟨#[40, 97, 110, 100, 32, 97, 41]⟩ 5 6)) := (cell_of_blk e4 1).trans rfl
      have k2 : W5.cell? ⟨w.heap.size, 2, none⟩ = some (.slice none 0 0) := (cell_of_blk e4 2).trans rfl
      refine bodyPost_ret (v := .agg #[.bool true, .string (ByteArray.extract ⟨#[40, 97, 110, 100, 32, 97, 41]⟩ 5 6), .slice none 0 0]) (by simp [results, Try.results74, go_sem, k0, k1, k2]) rfl ?_
      exact ⟨⟨_, rfl⟩, g4, f3⟩
end Go.Proofs.Ytdpnififbpoagaa

namespace Go.Proofs.Ytdpnififbpoagaa
open Go.RowKit
set_option linter.unusedVariables false
set_option linter.unusedSimpArgs false

theorem info_s : (Try.prog.info? 114).map (fun i => (i.zero, i.size, i.bytes)) = some (some (.agg #[.bool false, .string ⟨#[]⟩, .slice none 0 0]), 3, 48) := by kernel_rfl
theorem one_rd {w : World} {g : Nat} {a b c : Value} {E : TypeId} (h : w.heap[g]? = some (.cells #[a, b, c] E (0, 0))) : Rd w 3 (some ⟨g, 0, none⟩) 1 [a, b, c] :=
  ⟨rfl, fun _ => ⟨g, 0, rfl, fun j u hu => by rw [Nat.zero_add, cell_of_blk h, ← hu]; simp⟩⟩
set_option maxRecDepth 100000 in
set_option maxHeartbeats 4000000 in
theorem list1_any (rb : Nat) (w : World) (h : w.heap[rb]? = some (rdO 1 1)) : Calls Try.prog 57 #[.pointer (some ⟨rb, 0, none⟩), .int .i64 1] w fun e w' => (∃ A c, e = .returned (.slice A 2 c)) ∧ w'.heap[rb]? = some (rdO 7 3) ∧ Fr (fun b => b = rb) w w' := by
  obtain ⟨i0, hinf, hz0, hz1, hz2⟩ := info_parts info_s
  have hsk := skip_stay1 rb 1 w h
  clear h
  go_enter Try.func57, Try.ntmps57
  go_wp2_with (go_at_call 72; refine hsk.mono ?_; rintro e w1 ⟨rfl, hh1, hf1⟩)
  go_loopw [5] (fun o wr => ∃ k xs, wr.ownsRow w.heap.size 114 3 o k xs ∧ Fr (fun b => b = rb) w wr ∧ ((k = 0 ∧ wr.heap[rb]? = some (rdO 1 1)) ∨ (k = 1 ∧ wr.heap[rb]? = some (rdO 5 2)) ∨ (k = 2 ∧ wr.heap[rb]? = some (rdO 6 3)))) (fun _ wr => rdM rb wr)
  case atStart => exact ⟨0, [], World.ownsRow_nil _ _ _ _, hf1, .inl ⟨rfl, hh1⟩⟩
  case round =>
    obtain ⟨k, xs, hown, hf, ⟨rfl, hh⟩ | ⟨rfl, hh⟩ | ⟨rfl, hh⟩⟩ := hrel
    ·
      obtain ⟨c0, c1, c2, c3, c4, z1, z2⟩ := rdr_cells hh
      obtain ⟨Ao, co, rfl, _, _⟩ := ownsRow_form hown
      have HO := Lib.hid hown
      have HF := Lib.hid hf
      have HH := Lib.hid hh
      clear hown hf hh
      go_wp2_with fail
      go_quiet (fail)
      obtain ⟨q0, rfl⟩ : ∃ q, q = nq := ⟨_, rfl⟩
      go_wp2_with fail
      have hb := byte1
      go_quiet (fail)
      go_wp2_with fail
      have hh3 := rd_set2 (rd_drewN (q := q0 + nq) HH.out) 2
      have hf3 := rd_fr (HF.out.drewN (q0 + nq)) 2 (.int .i64 ((2 : Nat) : Int))
      obtain ⟨W3, hW3⟩ : ∃ W, W = (wr.drewN (q0 + nq)).setCell ⟨rb, 2, none⟩ (.int .i64 ((2 : Nat) : Int)) := ⟨_, rfl⟩
      have hrs3 : Fr (fun b => b = rb) wr W3 := by rw [hW3]; exact rd_fr ((Fr.refl _ _).drewN _) 2 _
      rw [← hW3] at hh3 hf3
      have hW3' : W3 = (wr.drewN (q0 + nq)).setCell ⟨rb, 2, none⟩ (.int .i64 2) := hW3
      rw [← hW3']
      clear hW3 hW3' c0 c1 c2 c3 c4 z1 z2
      obtain ⟨c0, c1, c2, c3, c4, z1, z2⟩ := rdr_cells hh3
      have hone := fun q => one_and rb 2 1 (W3.drewN q) (rd_drewN hh3)
      have hne : ∀ b, (Value.slice Ao 0 co).ownBlock = some b → ¬ (b = rb) := fun b hb e => own_type HO.out (HH.out.trans rfl) (by decide) (e ▸ hb)
      have ho3 := hrs3.own HO.out hne
      have HNE := Lib.hid hne
      have HF3 := Lib.hid hf3
      have HO3 := Lib.hid ho3
      clear hne hf3 ho3 hrs3 HF HO
      go_quiet (fail)
      go_wp2_with (first | (go_at_call 74; refine (hone _).mono ?_; rintro e w4 ⟨⟨s4, rfl⟩, hh4, hf4⟩; have hf34 : Fr (fun b => b = rb) W3 w4 := ⟨hf4.os, hf4.tape, hf4.output, hf4.size, hf4.block⟩; have ho4 := hf34.own HO3.out HNE.out; have hf04 := HF3.out.trans hf34 (fun b hb => .inl hb); have HO4 := Lib.hid ho4; have HF4 := Lib.hid hf04; have HH4 := Lib.hid hh4; clear hf34 ho4 hf04 hh4 hf4 hone) | (at_builtin; refine appRS w.heap.size (w4.alloc (.cells #[.bool true, .string s4, .slice none 0 0] 114)) (w4.alloc (.cells #[.bool true, .string s4, .slice none 0 0] 114)) 3 114 rfl _ _ 66 rfl i0 _ 48 Try.underlying66 hinf hz0 hz1 hz2 rfl (by decide) (by decide) (.slice Ao 0 co) 0 xs rfl (Nat.le_trans HF4.out.size (by simp)) (((Fr.refl (fun _ => False) w4).alloc _).own HO4.out (fun _ _ h => h)) (Below.refl _ _) (some ⟨w4.heap.size, 0, none⟩) 1 1 [.bool true, .string s4, .slice none 0 0] rfl (one_rd (heap_alloc_new _ _)) (by intro u hu; simp at hu; rcases hu with rfl | rfl | rfl <;> rfl) (by decide) ?_; intro v5 w5 ho5 _ hg5; have hf45 : Fr (fun b => (Value.slice Ao 0 co).ownBlock = some b) (w4.alloc (.cells #[.bool true, .string s4, .slice none 0 0] 114)) w5 := Fr.of_grown hg5 (fun k hk => .inl hk); have hh5 := (hf45.block rb (by have := lt_of_blk HH4.out; simp; omega) (fun e => HNE.out rb e rfl)).trans ((alloc_old _ (lt_of_blk HH4.out)).trans HH4.out); have hf5 := (HF4.out.alloc (.cells #[.bool true, .string s4, .slice none 0 0] 114)).trans hf45 (fun b hb => .inr (own_lt HO4.out hb).1); have HO5 := Lib.hid ho5; have HH5 := Lib.hid hh5; have HF5 := Lib.hid hf5; clear hf45 hg5 ho5 hh5 hf5) | (go_at_call 72; refine (skip_four rb 2 w5 HH5.out).mono ?_; rintro e w6 ⟨rfl, hh6, hf6⟩))
      have hne5 : ∀ b, v5.ownBlock = some b → ¬ (b = rb) := fun b hb e => own_type HO5.out (HH5.out.trans rfl) (by decide) (e ▸ hb)
      go_roundw
      case rel => exact ⟨_, _, hf6.own HO5.out hne5, HF5.out.trans hf6 (fun b hb => .inl hb), .inr (.inl ⟨rfl, hh6⟩)⟩
      case measure => exact rdM_lt HH.out hh6 (by decide) (by decide)
    ·
      obtain ⟨c0, c1, c2, c3, c4, z1, z2⟩ := rdr_cells hh
      obtain ⟨Ao, co, rfl, _, _⟩ := ownsRow_form hown
      have HO := Lib.hid hown
      have HF := Lib.hid hf
      have HH := Lib.hid hh
      clear hown hf hh
      go_wp2_with fail
      go_quiet (fail)
      obtain ⟨q0, rfl⟩ : ∃ q, q = nq := ⟨_, rfl⟩
      go_wp2_with fail
      have hb := byte5
      go_quiet (fail)
      go_wp2_with fail
      have hh3 := rd_set2 (rd_drewN (q := q0 + nq) HH.out) 3
      have hf3 := rd_fr (HF.out.drewN (q0 + nq)) 2 (.int .i64 ((3 : Nat) : Int))
      obtain ⟨W3, hW3⟩ : ∃ W, W = (wr.drewN (q0 + nq)).setCell ⟨rb, 2, none⟩ (.int .i64 ((3 : Nat) : Int)) := ⟨_, rfl⟩
      have hrs3 : Fr (fun b => b = rb) wr W3 := by rw [hW3]; exact rd_fr ((Fr.refl _ _).drewN _) 2 _
      rw [← hW3] at hh3 hf3
      have hW3' : W3 = (wr.drewN (q0 + nq)).setCell ⟨rb, 2, none⟩ (.int .i64 3) := hW3
      rw [← hW3']
      clear hW3 hW3' c0 c1 c2 c3 c4 z1 z2
      obtain ⟨c0, c1, c2, c3, c4, z1, z2⟩ := rdr_cells hh3
      have hone := fun q => one_a rb 3 1 (W3.drewN q) (rd_drewN hh3)
      have hne : ∀ b, (Value.slice Ao 1 co).ownBlock = some b → ¬ (b = rb) := fun b hb e => own_type HO.out (HH.out.trans rfl) (by decide) (e ▸ hb)
      have ho3 := hrs3.own HO.out hne
      have HNE := Lib.hid hne
      have HF3 := Lib.hid hf3
      have HO3 := Lib.hid ho3
      clear hne hf3 ho3 hrs3 HF HO
      go_quiet (fail)
      go_wp2_with (first | (go_at_call 74; refine (hone _).mono ?_; rintro e w4 ⟨⟨s4, rfl⟩, hh4, hf4⟩; have hf34 : Fr (fun b => b = rb) W3 w4 := ⟨hf4.os, hf4.tape, hf4.output, hf4.size, hf4.block⟩; have ho4 := hf34.own HO3.out HNE.out; have hf04 := HF3.out.trans hf34 (fun b hb => .inl hb); have HO4 := Lib.hid ho4; have HF4 := Lib.hid hf04; have HH4 := Lib.hid hh4; clear hf34 ho4 hf04 hh4 hf4 hone) | (at_builtin; refine appRS w.heap.size (w4.alloc (.cells #[.bool true, .string s4, .slice none 0 0] 114)) (w4.alloc (.cells #[.bool true, .string s4, .slice none 0 0] 114)) 3 114 rfl _ _ 66 rfl i0 _ 48 Try.underlying66 hinf hz0 hz1 hz2 rfl (by decide) (by decide) (.slice Ao 1 co) 1 xs rfl (Nat.le_trans HF4.out.size (by simp)) (((Fr.refl (fun _ => False) w4).alloc _).own HO4.out (fun _ _ h => h)) (Below.refl _ _) (some ⟨w4.heap.size, 0, none⟩) 1 1 [.bool true, .string s4, .slice none 0 0] rfl (one_rd (heap_alloc_new _ _)) (by intro u hu; simp at hu; rcases hu with rfl | rfl | rfl <;> rfl) (by decide) ?_; intro v5 w5 ho5 _ hg5; have hf45 : Fr (fun b => (Value.slice Ao 1 co).ownBlock = some b) (w4.alloc (.cells #[.bool true, .string s4, .slice none 0 0] 114)) w5 := Fr.of_grown hg5 (fun k hk => .inl hk); have hh5 := (hf45.block rb (by have := lt_of_blk HH4.out; simp; omega) (fun e => HNE.out rb e rfl)).trans ((alloc_old _ (lt_of_blk HH4.out)).trans HH4.out); have hf5 := (HF4.out.alloc (.cells #[.bool true, .string s4, .slice none 0 0] 114)).trans hf45 (fun b hb => .inr (own_lt HO4.out hb).1); have HO5 := Lib.hid ho5; have HH5 := Lib.hid hh5; have HF5 := Lib.hid hf5; clear hf45 hg5 ho5 hh5 hf5) | (go_at_call 72; refine (skip_stay6 rb 3 w5 HH5.out).mono ?_; rintro e w6 ⟨rfl, hh6, hf6⟩))
      have hne5 : ∀ b, v5.ownBlock = some b → ¬ (b = rb) := fun b hb e => own_type HO5.out (HH5.out.trans rfl) (by decide) (e ▸ hb)
      go_roundw
      case rel => exact ⟨_, _, hf6.own HO5.out hne5, HF5.out.trans hf6 (fun b hb => .inl hb), .inr (.inr ⟨rfl, hh6⟩)⟩
      case measure => exact rdM_lt HH.out hh6 (by decide) (by decide)
    · obtain ⟨c0, c1, c2, c3, c4, z1, z2⟩ := rdr_cells hh
      obtain ⟨Ao, co, rfl, _, _⟩ := ownsRow_form hown
      go_wp2_with fail
      go_quiet (fail)
      go_wp2_with fail
      have hb := byte6
      go_quiet (fail)
      go_wp2_with fail
      go_ret
      exact ⟨⟨_, _, rfl⟩, rd_set1 (rd_drewN hh) 7, rd_fr (hf.drewN _) 1 _⟩
set_option maxRecDepth 100000 in
set_option maxHeartbeats 4000000 in
theorem one_list (rb : Nat) (w : World) (h : w.heap[rb]? = some (rdO 0 1)) : Calls Try.prog 74 #[.pointer (some ⟨rb, 0, none⟩), .int .i64 0] w fun e w' => (∃ A c, e = .returned (.agg #[.bool false, .string ⟨#[]⟩, .slice A 2 c])) ∧ w'.heap[rb]? = some (rdO 7 3) ∧ Fr (fun b => b = rb) w w' := by
  have hrb := lt_of_blk h
  obtain ⟨c0, c1, c2, c3, c4, z1, z2⟩ := rdr_cells h
  have H := Lib.hid h
  clear h
  go_enter Try.func74, Try.ntmps74
  go_wp2_with fail
  have hb := byte0
  go_quiet (fail)
  go_wp2_with fail
  have hh0 := (alloc_old (.cells #[.bool false, .string ⟨#[]⟩, .slice none 0 0] 114) hrb).trans H.out
  have hx0 := heap_alloc_new w (.cells #[.bool false, .string ⟨#[]⟩, .slice none 0 0] 114)
  have hl := list1_any rb _ (rd_set1 (rd_drewN (q := nq) hh0) 1)
  have hx1 := (set_other ((w.alloc (.cells #[.bool false, .string ⟨#[]⟩, .slice none 0 0] 114)).drewN nq) w.heap.size rb 1 (.int .i64 ((1 : Nat) : Int)) (by omega)).trans hx0
  have hf1 := rd_fr (((Fr.refl (fun b => b = rb) w).alloc (.cells #[.bool false, .string ⟨#[]⟩, .slice none 0 0] 114)).drewN nq) 1 (.int .i64 ((1 : Nat) : Int))
  have HX := Lib.hid hx1
  have HF := Lib.hid hf1
  clear hx1 hf1 c0 c1 c2 c3 c4 z1 z2 hh0 hx0
  refine hl.mono ?_
  rintro e w4 ⟨⟨A4, n4, rfl⟩, hh4, hf4⟩
  have hx := (hf4.block _ (lt_of_blk HX.out) (by omega)).trans HX.out
  have hf := HF.out.trans hf4 (fun b hb => .inl hb)
  clear HX HF hl hf4
  have y0 := frozen_of_blk hx 0
  have y1 := frozen_of_blk hx 1
  have y2 := frozen_of_blk hx 2
  have x0 : w4.cell? ⟨w.heap.size, 0, none⟩ = some (.bool false) := (cell_of_blk hx 0).trans rfl
  have x1 : w4.cell? ⟨w.heap.size, 1, none⟩ = some (.string ⟨#[]⟩) := (cell_of_blk hx 1).trans rfl
  have x2 : w4.cell? ⟨w.heap.size, 2, none⟩ = some (.slice none 0 0) := (cell_of_blk hx 2).trans rfl
  go_wp2_with fail
  have e1 := set_blk hx 0 (.bool false)
  have e2 := set_blk e1 1 (.string ⟨#[]⟩)
  have e3 := set_blk e2 2 (.slice A4 2 n4)
  have f3 := (((hf.setCell ⟨w.heap.size, 0, none⟩ (.bool false) (.inr (Nat.le_refl _))).setCell ⟨w.heap.size, 1, none⟩ (.string ⟨#[]⟩) (.inr (Nat.le_refl _))).setCell ⟨w.heap.size, 2, none⟩ (.slice A4 2 n4) (.inr (Nat.le_refl _)))
  have g3 := (set_other (((w4.setCell ⟨w.heap.size, 0, none⟩ (.bool false)).setCell ⟨w.heap.size, 1, none⟩ (.string ⟨#[]⟩))) rb w.heap.size 2 (.slice A4 2 n4) (by omega)).trans ((set_other _ rb w.heap.size 1 _ (by omega)).trans ((set_other _ rb w.heap.size 0 _ (by omega)).trans hh4))
  obtain ⟨W5, hW5⟩ : ∃ W, W = ((w4.setCell ⟨w.heap.size, 0, none⟩ (.bool false)).setCell ⟨w.heap.size, 1, none⟩ (.string ⟨#[]⟩)).setCell ⟨w.heap.size, 2, none⟩ (.slice A4 2 n4) := ⟨_, rfl⟩
  have e4 : W5.heap[w.heap.size]? = some (.cells #[.bool false, .string ⟨#[]⟩, .slice A4 2 n4] 114 (0, 0)) := by rw [hW5]; exact e3.trans rfl
  have g4 : W5.heap[rb]? = some (rdO 7 3) := by rw [hW5]; exact g3
  rw [← hW5] at f3 ⊢
  clear hW5 e1 e2 e3 g3
  have k0 : W5.cell? ⟨w.heap.size, 0, none⟩ = some (.bool false) := (cell_of_blk e4 0).trans rfl
  have k1 : W5.cell? ⟨w.heap.size, 1, none⟩ = some (.string ⟨#[]⟩) := (cell_of_blk e4 1).trans rfl
  have k2 : W5.cell? ⟨w.heap.size, 2, none⟩ = some (.slice A4 2 n4) := (cell_of_blk e4 2).trans rfl
  refine bodyPost_ret (v := .agg #[.bool false, .string ⟨#[]⟩, .slice A4 2 n4]) (by simp [results, Try.results74, go_sem, k0, k1, k2]) rfl ?_
  exact ⟨⟨_, _, rfl⟩, g4, f3⟩

set_option maxRecDepth 100000 in
set_option maxHeartbeats 4000000 in
theorem list0_any (rb : Nat) (w : World) (h : w.heap[rb]? = some (rdO 0 0)) : Calls Try.prog 57 #[.pointer (some ⟨rb, 0, none⟩), .int .i64 0] w fun e w' => (∃ A c, e = .returned (.slice A 1 c)) ∧ w'.heap[rb]? = some (rdO 7 3) ∧ Fr (fun b => b = rb) w w' := by
  obtain ⟨i0, hinf, hz0, hz1, hz2⟩ := info_parts info_s
  have hsk := skip_stay0 rb 0 w h
  clear h
  go_enter Try.func57, Try.ntmps57
  go_wp2_with (go_at_call 72; refine hsk.mono ?_; rintro e w1 ⟨rfl, hh1, hf1⟩)
  go_loopw [5] (fun o wr => ∃ k xs, wr.ownsRow w.heap.size 114 3 o k xs ∧ Fr (fun b => b = rb) w wr ∧ ((k = 0 ∧ wr.heap[rb]? = some (rdO 0 0)) ∨ (k = 1 ∧ wr.heap[rb]? = some (rdO 7 3)))) (fun _ wr => rdM rb wr)
  case atStart => exact ⟨0, [], World.ownsRow_nil _ _ _ _, hf1, .inl ⟨rfl, hh1⟩⟩
  case round =>
    obtain ⟨k, xs, hown, hf, ⟨rfl, hh⟩ | ⟨rfl, hh⟩⟩ := hrel
    ·
      obtain ⟨c0, c1, c2, c3, c4, z1, z2⟩ := rdr_cells hh
      obtain ⟨Ao, co, rfl, _, _⟩ := ownsRow_form hown
      have HO := Lib.hid hown
      have HF := Lib.hid hf
      have HH := Lib.hid hh
      clear hown hf hh
      go_wp2_with fail
      go_quiet (fail)
      obtain ⟨q0, rfl⟩ : ∃ q, q = nq := ⟨_, rfl⟩
      go_wp2_with fail
      have hb := byte0
      go_quiet (fail)
      go_wp2_with fail
      have hh3 := rd_set2 (rd_drewN (q := q0 + nq) HH.out) 1
      have hf3 := rd_fr (HF.out.drewN (q0 + nq)) 2 (.int .i64 ((1 : Nat) : Int))
      obtain ⟨W3, hW3⟩ : ∃ W, W = (wr.drewN (q0 + nq)).setCell ⟨rb, 2, none⟩ (.int .i64 ((1 : Nat) : Int)) := ⟨_, rfl⟩
      have hrs3 : Fr (fun b => b = rb) wr W3 := by rw [hW3]; exact rd_fr ((Fr.refl _ _).drewN _) 2 _
      rw [← hW3] at hh3 hf3
      have hW3' : W3 = (wr.drewN (q0 + nq)).setCell ⟨rb, 2, none⟩ (.int .i64 1) := hW3
      rw [← hW3']
      clear hW3 hW3' c0 c1 c2 c3 c4 z1 z2
      obtain ⟨c0, c1, c2, c3, c4, z1, z2⟩ := rdr_cells hh3
      have hone := fun q => one_list rb (W3.drewN q) (rd_drewN hh3)
      have hne : ∀ b, (Value.slice Ao 0 co).ownBlock = some b → ¬ (b = rb) := fun b hb e => own_type HO.out (HH.out.trans rfl) (by decide) (e ▸ hb)
      have ho3 := hrs3.own HO.out hne
      have HNE := Lib.hid hne
      have HF3 := Lib.hid hf3
      have HO3 := Lib.hid ho3
      clear hne hf3 ho3 hrs3 HF HO
      go_quiet (fail)
      go_wp2_with (first | (go_at_call 74; refine (hone _).mono ?_; rintro e w4 ⟨⟨A4, n4, rfl⟩, hh4, hf4⟩; have hf34 : Fr (fun b => b = rb) W3 w4 := ⟨hf4.os, hf4.tape, hf4.output, hf4.size, hf4.block⟩; have ho4 := hf34.own HO3.out HNE.out; have hf04 := HF3.out.trans hf34 (fun b hb => .inl hb); have HO4 := Lib.hid ho4; have HF4 := Lib.hid hf04; have HH4 := Lib.hid hh4; clear hf34 ho4 hf04 hh4 hf4 hone) | (at_builtin; refine appRS w.heap.size (w4.alloc (.cells #[.bool false, .string ⟨#[]⟩, .slice A4 2 n4] 114)) (w4.alloc (.cells #[.bool false, .string ⟨#[]⟩, .slice A4 2 n4] 114)) 3 114 rfl _ _ 66 rfl i0 _ 48 Try.underlying66 hinf hz0 hz1 hz2 rfl (by decide) (by decide) (.slice Ao 0 co) 0 xs rfl (Nat.le_trans HF4.out.size (by simp)) (((Fr.refl (fun _ => False) w4).alloc _).own HO4.out (fun _ _ h => h)) (Below.refl _ _) (some ⟨w4.heap.size, 0, none⟩) 1 1 [.bool false, .string ⟨#[]⟩, .slice A4 2 n4] rfl (one_rd (heap_alloc_new _ _)) (by intro u hu; simp at hu; rcases hu with rfl | rfl | rfl <;> rfl) (by decide) ?_; intro v5 w5 ho5 _ hg5; have hf45 : Fr (fun b => (Value.slice Ao 0 co).ownBlock = some b) (w4.alloc (.cells #[.bool false, .string ⟨#[]⟩, .slice A4 2 n4] 114)) w5 := Fr.of_grown hg5 (fun k hk => .inl hk); have hh5 := (hf45.block rb (by have := lt_of_blk HH4.out; simp; omega) (fun e => HNE.out rb e rfl)).trans ((alloc_old _ (lt_of_blk HH4.out)).trans HH4.out); have hf5 := (HF4.out.alloc (.cells #[.bool false, .string ⟨#[]⟩, .slice A4 2 n4] 114)).trans hf45 (fun b hb => .inr (own_lt HO4.out hb).1); have HO5 := Lib.hid ho5; have HH5 := Lib.hid hh5; have HF5 := Lib.hid hf5; clear hf45 hg5 ho5 hh5 hf5) | (go_at_call 72; refine (skip_end rb 3 w5 HH5.out).mono ?_; rintro e w6 ⟨rfl, hh6, hf6⟩))
      have hne5 : ∀ b, v5.ownBlock = some b → ¬ (b = rb) := fun b hb e => own_type HO5.out (HH5.out.trans rfl) (by decide) (e ▸ hb)
      go_roundw
      case rel => exact ⟨_, _, hf6.own HO5.out hne5, HF5.out.trans hf6 (fun b hb => .inl hb), .inr ⟨rfl, hh6⟩⟩
      case measure => exact rdM_lt HH.out hh6 (by decide) (by decide)
    · obtain ⟨c0, c1, c2, c3, c4, z1, z2⟩ := rdr_cells hh
      obtain ⟨Ao, co, rfl, _, _⟩ := ownsRow_form hown
      go_wp2_with fail
      go_quiet (fail)
      go_wp2_with fail
      go_ret
      exact ⟨⟨_, _, rfl⟩, rd_drewN hh, hf.drewN _⟩
set_option maxRecDepth 100000 in
set_option maxHeartbeats 4000000 in
theorem parse_any (w : World) : Calls Try.prog 32 #[.string ⟨#[40, 97, 110, 100, 32, 97, 41]⟩] w fun e w' => (∃ A c, e = .returned (.tuple #[.slice A 1 c, .int .i64 0, .int .i64 0])) ∧ Below w.heap.size w w' := by
  have hh0 : (w.alloc (rdO 0 0)).heap[w.heap.size]? = some (rdO 0 0) := heap_alloc_new w (rdO 0 0)
  have hl := list0_any w.heap.size _ hh0
  unfold rdO at hl
  have hf0 := (Fr.refl (fun b => b = w.heap.size) w).alloc (rdO 0 0)
  have HF := Lib.hid hf0
  clear hh0 hf0
  go_enter Try.func32, Try.ntmps32
  go_wp2_with (go_at_call 57; refine hl.mono ?_; rintro e w4 ⟨⟨A4, n4, rfl⟩, hh4, hf4⟩; obtain ⟨c0, c1, c2, c3, c4, z1, z2⟩ := rdr_cells hh4)
  refine bodyPost_ret (v := .tuple #[.slice A4 1 n4, .int .i64 0, .int .i64 0]) (by simp [results, Try.results32, go_sem]) rfl ?_
  exact ⟨⟨_, _, rfl⟩, (HF.out.trans hf4 (fun b hb => .inl hb)).below (Nat.le_refl _) (fun b hb => by omega)⟩
end Go.Proofs.Ytdpnififbpoagaa

/- The small functions of package tok, walked: what each answers and what becomes of the scan behind its pointer. No condition beyond the kinds' own bounds. -/
import Derived.Test.YtdffbaikdibalaaDoorProg
import Derived.Test.YtdffbaikdibalaaDoorWWords
import Derived.Test.YtdffbaikdibalaaDoorSpec
import Derived.WalkKit
import Derived.Outline
import Derived.Deep.QuietTactic
import Derived.Deep.LoopGhost
import Derived.BigQuiet
namespace Go.Proofs.YtdffbaikdibalaaDoor.T
set_option linter.unusedVariables false
set_option linter.unusedSimpArgs false
open Go.RowKit Go.Proofs.YtdffbaikdibalaaDoorW.PrintWords

/-- The scan behind g. -/
def Scan (w : World) (g : Nat) (s : ByteArray) (i c f : Int) : Prop :=
  w.heap[g]? = some (.cells #[.string s, .int .i64 i, .int .i64 c, .int .i64 f] 40 (0, 0))
section
variable {w W : World} {g : Nat} {s : ByteArray} {i c f : Int}
theorem Scan.c0 (h : Scan w g s i c f) : w.cell? ⟨g, 0, none⟩ = some (.string s) := (blk_cell h 0).trans rfl
theorem Scan.c1 (h : Scan w g s i c f) : w.cell? ⟨g, 1, none⟩ = some (.int .i64 i) := (blk_cell h 1).trans rfl
theorem Scan.c2 (h : Scan w g s i c f) : w.cell? ⟨g, 2, none⟩ = some (.int .i64 c) := (blk_cell h 2).trans rfl
theorem Scan.c3 (h : Scan w g s i c f) : w.cell? ⟨g, 3, none⟩ = some (.int .i64 f) := (blk_cell h 3).trans rfl
theorem Scan.fz (h : Scan w g s i c f) (j : Nat) : w.frozen? ⟨g, j, none⟩ = false := blk_frozen h j
theorem Scan.drewN (h : Scan w g s i c f) (n : Nat) : Scan (w.drewN n) g s i c f := h
theorem Scan.drew (h : Scan w g s i c f) : Scan w.drew g s i c f := h
theorem Scan.at_ (h : Scan w g s i c f) (i' : Int) : Scan (w.setCell ⟨g, 1, none⟩ (.int .i64 i')) g s i' c f := by
  have := blk_set h 1 (.int .i64 i')
  simpa [Scan] using this
theorem Scan.fault (h : Scan w g s i c f) (c' f' : Int) : Scan ((w.setCell ⟨g, 2, none⟩ (.int .i64 c')).setCell ⟨g, 3, none⟩ (.int .i64 f')) g s i c' f' := by
  have := blk_set (blk_set h 2 (.int .i64 c')) 3 (.int .i64 f')
  simpa [Scan] using this
theorem gset (h : w.grownBy W (some g)) (j : Nat) (u : Value) : w.grownBy (W.setCell ⟨g, j, none⟩ u) (some g) :=
  ⟨h.os, h.tape, h.output, by simpa using h.size, fun k hk hne => (Below.heap_setCell W ⟨g, j, none⟩ u k (by simpa using hne)).trans (h.block k hk hne)⟩
theorem grefl (w : World) (r : Option Nat) : w.grownBy w r := ⟨rfl, rfl, rfl, Nat.le_refl _, fun _ _ _ => rfl⟩
theorem gdrewN {r : Option Nat} (h : w.grownBy W r) (n : Nat) : w.grownBy (W.drewN n) r := ⟨h.os, h.tape, h.output, h.size, h.block⟩
theorem gtrans {W' : World} {r : Option Nat} (h : w.grownBy W r) (k : W.grownBy W' r) : w.grownBy W' r :=
  ⟨k.os.trans h.os, k.tape.trans h.tape, k.output.trans h.output, Nat.le_trans h.size k.size, fun j hj hne => (k.block j (Nat.lt_of_lt_of_le hj h.size) hne).trans (h.block j hj hne)⟩
end

/-! ### a string's suffixes -/
abbrev bs (s : ByteArray) : Bs := s.data.toList
theorem bs_len (s : ByteArray) : (bs s).length = s.size := data_length s
theorem drop_at {s : ByteArray} {i : Nat} (h : i < s.size) : (bs s).drop i = s[i] :: (bs s).drop (i + 1) := by
  rw [List.drop_eq_getElem_cons (by rw [bs_len]; exact h)]
  rfl
theorem drop_end {s : ByteArray} {i : Nat} (h : s.size ≤ i) : (bs s).drop i = [] := List.drop_eq_nil_of_le (by rw [bs_len]; exact h)
theorem bt_of {s : ByteArray} {i : Nat} (h : i < s.size) : bt s (i : Int) = (s[i].toNat : Int) := by
  rw [← bt_at s (i : Int) (by simpa using h)]
  rfl
theorem bt_head (s : ByteArray) (i : Nat) : bt s (i : Int) = headB ((bs s).drop i) := by
  by_cases h : i < s.size
  · rw [bt_of h, drop_at h]; rfl
  · rw [drop_end (by omega)]
    simp [bt, headB, h]

theorem wrong_any (g : Nat) (s : ByteArray) (i c f code at_ : Int) (w : World) (h : Scan w g s i c f) :
    Calls Tryd.prog 19 #[.pointer (some ⟨g, 0, none⟩), .int .i64 code, .int .i64 at_] w fun e w' => e = .returned (.tuple #[]) ∧ Scan w' g s i code at_ ∧ w.grownBy w' (some g) := by
  have h2 := h.c2
  have h3 := h.c3
  have f2 := h.fz 2
  have f3 := h.fz 3
  have H := Aside0.mk h
  clear h
  go_enter Tryd.func19, Tryd.ntmps19
  go_wp2
  go_end0
  exact ⟨rfl, H.out.fault _ _, gset (gset (grefl _ _) _ _) _ _⟩

theorem ret_bool {a b : Bool} (h : a = true ↔ b = true) : Ending.returned (.bool a) = .returned (.bool b) := by
  rw [Bool.eq_iff_iff.2 h]
theorem blank_any (c : Int) (w : World) : Calls Tryd.prog 15 #[.int .u8 c] w fun e w' => e = .returned (.bool (blankB c)) ∧ w = w' := by
  go_enter Tryd.func15, Tryd.ntmps15
  go_wp2
  all_goals (go_ret; refine ⟨ret_bool ?_, rfl⟩; simp [blankB] at *; try omega)
theorem digit_any (c : Int) (w : World) : Calls Tryd.prog 22 #[.int .u8 c] w fun e w' => e = .returned (.bool (digitB c)) ∧ w = w' := by
  go_enter Tryd.func22, Tryd.ntmps22
  go_wp2
  all_goals (go_ret; refine ⟨ret_bool ?_, rfl⟩; simp [digitB] at *; try omega)
theorem word_any (c : Int) (w : World) : Calls Tryd.prog 25 #[.int .u8 c] w fun e w' => e = .returned (.bool (wordB c)) ∧ w = w' := by
  go_enter Tryd.func25, Tryd.ntmps25
  go_wp2_with (go_at_call 22; refine (digit_any _ _).mono ?_; rintro e w' ⟨rfl, rfl⟩)
  all_goals (go_ret; refine ⟨ret_bool ?_, rfl⟩; simp [wordB, digitB] at *; try omega)
theorem peek_any (g : Nat) (s : ByteArray) (i c f n : Int) (w : World) (h : Scan w g s i c f) (h0 : 0 ≤ i) (hn : 0 ≤ n) (hb : i + n ≤ 9223372036854775807) :
    Calls Tryd.prog 20 #[.pointer (some ⟨g, 0, none⟩), .int .i64 n] w fun e w' => e = .returned (.int .u8 (bt s (i + n))) ∧ ∃ q, w' = w.drewN q := by
  have g0 := h.c0
  have g1 := h.c1
  by_cases hlt : i + n < s.size
  · have hk := bt_at s (i + n)
    have hlt' : decide (s.size ≤ i + n) = false := by simp; omega
    have h2 : (i + n).toNat < s.size := by omega
    have h3 := hk h2
    clear hk
    go_enter Tryd.func20, Tryd.ntmps20
    go_wp2
    go_quiet (fail)
    go_wp2
    go_quiet (fail)
    go_wp2
    go_ret
    exact ⟨rfl, _, World.drewN_drewN ..⟩
  · have hlt' : decide ((s.size : Int) ≤ i + n) = true := by simp; omega
    have hz : bt s (i + n) = 0 := by
      unfold bt
      rw [dif_neg (by omega)]
    have HZ := Aside0.mk hz
    clear hz
    go_enter Tryd.func20, Tryd.ntmps20
    go_wp2
    go_quiet (fail)
    go_wp2
    go_ret
    exact ⟨by rw [HZ.out]; rfl, _, rfl⟩

theorem quiet_eq {P : Program} {f : FuncId} {args : Array Value} {w : World} {n : Nat} {v : Value}
    (h : Calls P f args (w.drewN n) fun e w' => e = .returned v ∧ w.drewN n = w') : Calls P f args (w.drewN n) fun e w'' => e = .returned v ∧ ∃ m, w'' = w.drewN m :=
  h.mono fun _ _ ⟨he, hm⟩ => ⟨he, n, hm.symm⟩
/-- 'while' over a predicate's function. -/
theorem while_digit (g : Nat) (s : ByteArray) (i : Nat) (c f : Int) (w : World) (h : Scan w g s i c f) (hi : i ≤ s.size) (hs : s.size ≤ 4096) :
    Calls Tryd.prog 23 #[.pointer (some ⟨g, 0, none⟩), .func (.func 22) #[] #[]] w fun e w' => e = .returned (.tuple #[]) ∧ Scan w' g s ((i + whileL digitB ((bs s).drop i) : Nat) : Int) c f ∧ w.grownBy w' (some g) := by
  have H := Aside0.mk h
  clear h
  go_enter Tryd.func23, Tryd.ntmps23
  go_wp2
  go_loopg [] (s.size - i) (fun k wr => ∃ j : Nat, j ≤ s.size ∧ k = s.size - j ∧ Aside0 (Scan wr g s j c f) ∧ Aside0 (j + whileL digitB ((bs s).drop j) = i + whileL digitB ((bs s).drop i)) ∧ Aside0 (w.grownBy wr (some g)))
  case atStart => exact ⟨i, hi, rfl, H, ⟨rfl⟩, ⟨grefl _ _⟩⟩
  case round =>
    obtain ⟨j, hj, rfl, hS, hW, hG⟩ := hrel
    have g0 := hS.out.c0
    have g1 := hS.out.c1
    have f1 := hS.out.fz 1
    by_cases hlt : j < s.size
    · have hlt' : decide (j < s.size) = true := by simpa using hlt
      have HD := Aside0.mk (drop_at hlt)
      by_cases hp : digitB (s[j].toNat : Int) = true
      · go_wp2
        go_quiet ((go_at_call 22; exact quiet_eq (digit_any _ _)))
        go_wp2
        go_roundg (s.size - (j + 1))
        case measure => omega
        case rel =>
          refine ⟨j + 1, by omega, rfl, ⟨(hS.out.drewN _).at_ _⟩, ⟨?_⟩, ⟨gset (gdrewN hG.out _) _ _⟩⟩
          rw [← hW.out, HD.out]
          simp only [whileL, hp, if_true]
          omega
      · go_wp2
        go_quiet ((go_at_call 22; exact quiet_eq (digit_any _ _)))
        go_wp2
        go_end0
        refine ⟨rfl, ?_, gdrewN hG.out _⟩
        rw [← hW.out, HD.out]
        simp only [whileL, hp]
        exact hS.out.drewN _
    · have hlt' : decide (j < s.size) = false := by simpa using hlt
      have HD := Aside0.mk (drop_end (s := s) (i := j) (by omega))
      go_wp2
      go_quiet (fail)
      go_wp2
      go_end0
      refine ⟨rfl, ?_, gdrewN hG.out _⟩
      rw [← hW.out, HD.out]
      exact hS.out.drewN _
theorem while_word (g : Nat) (s : ByteArray) (i : Nat) (c f : Int) (w : World) (h : Scan w g s i c f) (hi : i ≤ s.size) (hs : s.size ≤ 4096) :
    Calls Tryd.prog 23 #[.pointer (some ⟨g, 0, none⟩), .func (.func 25) #[] #[]] w fun e w' => e = .returned (.tuple #[]) ∧ Scan w' g s ((i + whileL wordB ((bs s).drop i) : Nat) : Int) c f ∧ w.grownBy w' (some g) := by
  have H := Aside0.mk h
  clear h
  go_enter Tryd.func23, Tryd.ntmps23
  go_wp2
  go_loopg [] (s.size - i) (fun k wr => ∃ j : Nat, j ≤ s.size ∧ k = s.size - j ∧ Aside0 (Scan wr g s j c f) ∧ Aside0 (j + whileL wordB ((bs s).drop j) = i + whileL wordB ((bs s).drop i)) ∧ Aside0 (w.grownBy wr (some g)))
  case atStart => exact ⟨i, hi, rfl, H, ⟨rfl⟩, ⟨grefl _ _⟩⟩
  case round =>
    obtain ⟨j, hj, rfl, hS, hW, hG⟩ := hrel
    have g0 := hS.out.c0
    have g1 := hS.out.c1
    have f1 := hS.out.fz 1
    by_cases hlt : j < s.size
    · have hlt' : decide (j < s.size) = true := by simpa using hlt
      have HD := Aside0.mk (drop_at hlt)
      by_cases hp : wordB (s[j].toNat : Int) = true
      · go_wp2
        go_quiet ((go_at_call 25; exact quiet_eq (word_any _ _)))
        go_wp2
        go_roundg (s.size - (j + 1))
        case measure => omega
        case rel =>
          refine ⟨j + 1, by omega, rfl, ⟨(hS.out.drewN _).at_ _⟩, ⟨?_⟩, ⟨gset (gdrewN hG.out _) _ _⟩⟩
          rw [← hW.out, HD.out]
          simp only [whileL, hp, if_true]
          omega
      · go_wp2
        go_quiet ((go_at_call 25; exact quiet_eq (word_any _ _)))
        go_wp2
        go_end0
        refine ⟨rfl, ?_, gdrewN hG.out _⟩
        rw [← hW.out, HD.out]
        simp only [whileL, hp]
        exact hS.out.drewN _
    · have hlt' : decide (j < s.size) = false := by simpa using hlt
      have HD := Aside0.mk (drop_end (s := s) (i := j) (by omega))
      go_wp2
      go_quiet (fail)
      go_wp2
      go_end0
      refine ⟨rfl, ?_, gdrewN hG.out _⟩
      rw [← hW.out, HD.out]
      exact hS.out.drewN _
end Go.Proofs.YtdffbaikdibalaaDoor.T

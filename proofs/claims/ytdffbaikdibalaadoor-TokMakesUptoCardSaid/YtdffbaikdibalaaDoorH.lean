/- The examples: what their texts come to; then "alive", walked. -/
import Derived.Test.YtdffbaikdibalaaDoorG
namespace Go.Proofs.YtdffbaikdibalaaDoor.T
set_option linter.unusedVariables false
set_option linter.unusedSimpArgs false
theorem sk0 (c : UInt8) (r : Bs) (h : blankB c.toNat = false) (h2 : c ≠ 47) : skipL (c :: r) = (0, false) := by
  rw [skipL.eq_def]
  simp only [h, Bool.false_eq_true, if_false]
  have a1 : Lib.hasPrefix (c :: r) [47, 47] = false := by
    have h3 : (47 == c) = false := by simp; exact fun h => h2 h.symm
    show ((47 : UInt8) == c && _) = false
    rw [h3, Bool.false_and]
  have a2 : Lib.hasPrefix (c :: r) [47, 42] = false := by
    have h3 : (47 == c) = false := by simp; exact fun h => h2 h.symm
    show ((47 : UInt8) == c && _) = false
    rw [h3, Bool.false_and]
  rw [a1, a2]; rfl
theorem sk1 (c : UInt8) (r : Bs) (h : blankB c.toNat = true) : skipL (c :: r) = ((skipL r).1 + 1, (skipL r).2) := by
  rw [skipL.eq_def]
  simp only [h, if_true]
theorem skn : skipL [] = (0, false) := by rw [skipL.eq_def]
/-- One token, then the rest. -/
theorem one {a : Nat} {l : Bs} (n : Nat) {c : UInt8} {r : Bs} {kind : Nat} {t : Bs} {v : Int} {m : Nat} (hs : skipL l = (n, false)) (h2 : l.drop n = c :: r) (h3 : tokenL c r = .ok kind t v m) {ts : List Tok}
    (h4 : tokensL (a + n + (m + 1)) (r.drop m) = .ok ts) : tokensL a l = .ok (⟨kind, ⟨t.toArray⟩, v, (a + n : Nat)⟩ :: ts) := by
  have := tokens_step (a := a) (l := l) (by rw [hs]) (by rw [hs]; exact h2) h3
  rw [this, hs]
  simp only [h4, pre, List.singleton_append]
theorem end_ {a : Nat} : tokensL a [] = .ok [] := tokens_end (by rw [skn]) (by rw [skn]; rfl)
theorem ex_err : tokensOf ⟨#[49, 120]⟩ = .error (73, 0) := by
  have : tokensL 0 [49, 120] = .error (73, 0 + 0 + 0) := by
    have := tokens_bad (a := 0) (l := [49, 120]) (c := 49) (r := [120]) (code := 73) (k := 0) (by rw [sk0 _ _ (by decide) (by decide)]) (by rw [sk0 _ _ (by decide) (by decide)]; rfl) (by rfl)
    rw [this, sk0 _ _ (by decide) (by decide)]
    rfl
  exact this
theorem ex_quote : tokensOf ⟨#[34, 97, 92, 110, 34]⟩ = .ok [⟨2, ⟨#[97, 10]⟩, 0, 0⟩] := by
  refine one 0 (sk0 _ _ (by decide) (by decide)) rfl (kind := 2) (t := [97, 10]) (v := 0) (m := 4) ?_ ?_
  · have : quoteL [97, 92, 110, 34] = .ok [97, 10] 4 := by simp [quoteL, escL, QR.cons]
    simp only [tokenL, this]
    rfl
  · exact end_
theorem ex_words : tokensOf ⟨#[112, 97, 110, 101, 32, 115, 105, 122, 101, 61, 45, 51, 32, 123, 59]⟩ =
    .ok [⟨1, ⟨#[112, 97, 110, 101]⟩, 0, 0⟩, ⟨1, ⟨#[115, 105, 122, 101]⟩, 0, 5⟩, ⟨4, ⟨#[61]⟩, 0, 9⟩, ⟨3, ⟨#[45, 51]⟩, -3, 10⟩, ⟨4, ⟨#[123]⟩, 0, 13⟩, ⟨5, ⟨#[59]⟩, 0, 14⟩] := by
  refine one 0 (sk0 _ _ (by decide) (by decide)) rfl (kind := 1) (t := [112, 97, 110, 101]) (v := 0) (m := 3) (by rfl) ?_
  refine one 1 (by rw [show List.drop 3 ([97, 110, 101, 32, 115, 105, 122, 101, 61, 45, 51, 32, 123, 59] : Bs) = [32, 115, 105, 122, 101, 61, 45, 51, 32, 123, 59] from rfl, sk1 _ _ (by decide), sk0 _ _ (by decide) (by decide)]) rfl (kind := 1) (t := [115, 105, 122, 101]) (v := 0) (m := 3) (by rfl) ?_
  refine one 0 (sk0 _ _ (by decide) (by decide)) rfl (kind := 4) (t := [61]) (v := 0) (m := 0) (by rfl) ?_
  refine one 0 (sk0 _ _ (by decide) (by decide)) rfl (kind := 3) (t := [45, 51]) (v := -3) (m := 1) (by rfl) ?_
  refine one 1 (by rw [show List.drop 1 ([51, 32, 123, 59] : Bs) = [32, 123, 59] from rfl, sk1 _ _ (by decide), sk0 _ _ (by decide) (by decide)]) rfl (kind := 4) (t := [123]) (v := 0) (m := 0) (by rfl) ?_
  refine one 0 (sk0 _ _ (by decide) (by decide)) rfl (kind := 5) (t := [59]) (v := 0) (m := 0) (by rfl) ?_
  exact end_
theorem ex_pane : plainB ⟨#[112, 97, 110, 101]⟩ = true := by
  have : tokensOf ⟨#[112, 97, 110, 101]⟩ = .ok [⟨1, ⟨#[112, 97, 110, 101]⟩, 0, 0⟩] := by
    refine one 0 (sk0 _ _ (by decide) (by decide)) rfl (kind := 1) (t := [112, 97, 110, 101]) (v := 0) (m := 3) (by rfl) ?_
    exact end_
  unfold plainB
  rw [this]
  simp [plainT]
theorem ex_ab : plainB ⟨#[97, 32, 98]⟩ = false := by
  have : tokensOf ⟨#[97, 32, 98]⟩ = .ok [⟨1, ⟨#[97]⟩, 0, 0⟩, ⟨1, ⟨#[98]⟩, 0, 2⟩] := by
    refine one 0 (sk0 _ _ (by decide) (by decide)) rfl (kind := 1) (t := [97]) (v := 0) (m := 0) (by rfl) ?_
    refine one 1 (by rw [show List.drop 0 ([32, 98] : Bs) = [32, 98] from rfl, sk1 _ _ (by decide), sk0 _ _ (by decide) (by decide)]) rfl (kind := 1) (t := [98]) (v := 0) (m := 0) (by rfl) ?_
    exact end_
  unfold plainB
  rw [this]
  rfl

open Go.RowKit Go.Proofs.YtdffbaikdibalaaDoorW.PrintWords
open Go.Proofs.YtdffbaikdibalaaDoor.PTokJoins (S31 k31)
/-- Where a text's tokens lie, cell by cell. -/
def Lie (w : World) (g : Nat) (ts : List Tok) : Prop := ∀ (i : Nat) (t : Tok), ts[i]? = some t →
  w.cell? ⟨g, i * 4, none⟩ = some (.int .i64 t.kind) ∧ w.cell? ⟨g, i * 4 + 1, none⟩ = some (.string t.text) ∧ w.cell? ⟨g, i * 4 + 2, none⟩ = some (.int .i64 t.int) ∧ w.cell? ⟨g, i * 4 + 3, none⟩ = some (.int .i64 t.at_)
theorem Lie.below {w W : World} {g : Nat} {ts : List Tok} (h : Lie w g ts) (hb : Below w.heap.size w W) : Lie W g ts := fun i t ht => by
  obtain ⟨h0, h1, h2, h3⟩ := h i t ht
  exact ⟨pw_cell_below hb h0, pw_cell_below hb h1, pw_cell_below hb h2, pw_cell_below hb h3⟩
theorem Lie.alloc {w : World} {g : Nat} {ts : List Tok} (h : Lie w g ts) (o : Obj) : Lie (w.alloc o) g ts := h.below (w_alloc _ _)
theorem tokens_row (s : ByteArray) (w : World) (h : Glob w) (ts : List Tok) (ht : tokensOf s = .ok ts) (h0 : ts ≠ []) :
    Calls Tryd.prog 7 #[.string s] w fun e w' => ∃ g cap, e = .returned (.tuple #[.slice (some ⟨g, 0, none⟩) ts.length cap, .agg #[.int .i64 0, .int .i64 0]]) ∧ ts.length ≤ cap ∧ cap ≤ maxLen ∧ Lie w' g ts ∧ Below w.heap.size w w' :=
  (tokens_ok s w h ts ht).mono fun e w' ⟨v, he, hR, hb⟩ => by
    rcases toks_cells hR with ⟨rfl, hn⟩ | ⟨g, cap, rfl, hbg, hlc, hcm, hgs, hcell⟩
    · exact absurd (by simpa using hn) h0
    · refine ⟨g, cap, by rw [he, List.length_map], by simpa using hlc, hcm, fun i t hi => ?_, hb⟩
      obtain ⟨hl, ht⟩ := List.getElem?_eq_some_iff.1 hi
      have := hcell i (by simpa using hl)
      simp only [List.getElem_map, ht, toS] at this
      exact this
theorem plain_known (s : ByteArray) (w : World) (h : Glob w) (b : Bool) (hb : plainB s = b) : Calls Tryd.prog 12 #[.string s] w fun e w' => e = .returned (.bool b) ∧ Below w.heap.size w w' := by
  rw [← hb]; exact plain_any s w h
theorem cell_alloc2 (w : World) (a b : Value) (t : Nat) : (w.alloc (Obj.cells #[a, b] t)).cell? ⟨w.heap.size, 0, none⟩ = some a ∧ (w.alloc (Obj.cells #[a, b] t)).cell? ⟨w.heap.size, 1, none⟩ = some b := by
  constructor <;> go_simp
theorem onB {w w1 w2 : World} (h : Below w.heap.size w w1) (k : Below w1.heap.size w1 w2) : Below w.heap.size w w2 := h.trans (k.mono h.size)
def RowP (w : World) (ts : List Tok) (e : Ending) (w' : World) : Prop := ∃ g cap, e = .returned (.tuple #[.slice (some ⟨g, 0, none⟩) ts.length cap, .agg #[.int .i64 0, .int .i64 0]]) ∧ ts.length ≤ cap ∧ cap ≤ maxLen ∧ Lie w' g ts ∧ Below w.heap.size w w'
theorem con_words (w : World) (h : Glob w) : Calls Tryd.prog 7 #[.string ⟨#[112, 97, 110, 101, 32, 115, 105, 122, 101, 61, 45, 51, 32, 123, 59]⟩] w (RowP w [⟨1, ⟨#[112, 97, 110, 101]⟩, 0, 0⟩, ⟨1, ⟨#[115, 105, 122, 101]⟩, 0, 5⟩, ⟨4, ⟨#[61]⟩, 0, 9⟩, ⟨3, ⟨#[45, 51]⟩, -3, 10⟩, ⟨4, ⟨#[123]⟩, 0, 13⟩, ⟨5, ⟨#[59]⟩, 0, 14⟩]) := tokens_row _ _ h _ ex_words (by simp)
theorem con_quote (w : World) (h : Glob w) : Calls Tryd.prog 7 #[.string ⟨#[34, 97, 92, 110, 34]⟩] w (RowP w [⟨2, ⟨#[97, 10]⟩, 0, 0⟩]) := tokens_row _ _ h _ ex_quote (by simp)
theorem con_err (w : World) (h : Glob w) : Calls Tryd.prog 7 #[.string ⟨#[49, 120]⟩] w fun e w' => e = .returned (.tuple #[.slice none 0 0, .agg #[.int .i64 73, .int .i64 0]]) ∧ Below w.heap.size w w' := tokens_err _ _ h _ _ ex_err
theorem con_pane (w : World) (h : Glob w) : Calls Tryd.prog 12 #[.string ⟨#[112, 97, 110, 101]⟩] w fun e w' => e = .returned (.bool true) ∧ Below w.heap.size w w' := plain_known _ _ h _ ex_pane
theorem con_ab (w : World) (h : Glob w) : Calls Tryd.prog 12 #[.string ⟨#[97, 32, 98]⟩] w fun e w' => e = .returned (.bool false) ∧ Below w.heap.size w w' := plain_known _ _ h _ ex_ab
set_option maxRecDepth 100000 in
set_option maxHeartbeats 800000 in
theorem alive_true (w : World) (h : Glob w) : Calls Tryd.prog 6 #[] w fun e w' => e = .returned (.bool true) ∧ Below w.heap.size w w' := by
  have HG := Aside0.mk h
  clear h
  go_enter Tryd.func6, Tryd.ntmps6
  go_wp2_with (first | (go_at_call 7; (with_reducible refine (con_words _ HG.out).mono ?_); rintro e w1 ⟨g1, cap1, rfl, hc1, hm1, hL1, hb1⟩; have HL1 := Aside0.mk (hL1.alloc (Obj.cells #[.int .i64 0, .int .i64 0] 26)); have HB1 := Aside0.mk (hb1.alloc (by have := hb1.size; omega) (Obj.cells #[.int .i64 0, .int .i64 0] 26)); have HC1 := Aside0.mk (cell_alloc2 w1 (.int .i64 0) (.int .i64 0) 26); clear hL1 hb1) | (go_at_call 7; (with_reducible refine (con_quote _ (Glob.below HG.out HB1.out)).mono ?_); rintro e w2 ⟨g2, cap2, rfl, hc2, hm2, hL2, hb2⟩; have HL2 := Aside0.mk (hL2.alloc (Obj.cells #[.int .i64 0, .int .i64 0] 26)); have HB2 := Aside0.mk (hb2.alloc (by have := hb2.size; omega) (Obj.cells #[.int .i64 0, .int .i64 0] 26)); have HC2 := Aside0.mk (cell_alloc2 w2 (.int .i64 0) (.int .i64 0) 26); clear hL2 hb2) | (go_at_call 7; (with_reducible refine (con_err _ ((Glob.below HG.out HB1.out).below HB2.out)).mono ?_); rintro e w3 ⟨rfl, hb3⟩; have HB3 := Aside0.mk (hb3.alloc (by have := hb3.size; omega) (Obj.cells #[.int .i64 73, .int .i64 0] 26)); have HC3 := Aside0.mk (cell_alloc2 w3 (.int .i64 73) (.int .i64 0) 26); clear hb3; have k1 := ((HL1.out.below HB2.out).below HB3.out 3 _ rfl).2.2.1; have k2 := ((HL1.out.below HB2.out).below HB3.out 4 _ rfl).1; have k3 := ((HL1.out.below HB2.out).below HB3.out 5 _ rfl).1; have k4 := (HL2.out.below HB3.out 0 _ rfl).2.1; have k5 := pw_cell_below HB3.out (pw_cell_below HB2.out HC1.out.1); have k6 := pw_cell_below HB3.out HC2.out.1; have k7 := HC3.out.1; have k8 := HC3.out.2; simp only [Nat.reduceMul, Nat.reduceAdd] at k1 k2 k3 k4) | (go_at_call 12; (with_reducible refine (con_pane _ (((Glob.below HG.out HB1.out).below HB2.out).below HB3.out)).mono ?_); rintro e w4 ⟨rfl, hb4⟩; have HB4 := Aside0.mk hb4; clear hb4) | (go_at_call 12; (with_reducible refine (con_ab _ ((((Glob.below HG.out HB1.out).below HB2.out).below HB3.out).below HB4.out)).mono ?_); rintro e w5 ⟨rfl, hb5⟩; have HB5 := Aside0.mk hb5; clear hb5))
  go_ret
  refine ⟨rfl, ?_⟩
  exact onB (onB (onB (onB HB1.out HB2.out) HB3.out) HB4.out) HB5.out
end Go.Proofs.YtdffbaikdibalaaDoor.T

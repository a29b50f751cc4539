/- TokJoins, walked where both texts have tokens. -/
import Derived.Test.YtdffbaikdibalaaDoorO
namespace Go.Proofs.YtdffbaikdibalaaDoor.T
set_option linter.unusedVariables false
set_option linter.unusedSimpArgs false
open Go.RowKit Go.Proofs.YtdffbaikdibalaaDoorW.PrintWords
open Go.Proofs.YtdffbaikdibalaaDoor.PTokJoins (S31 k31)
theorem len_sh (k : Nat) (ys : List Tok) : (ys.map (shT k)).length = ys.length := by simp
theorem same_sh (k : Nat) (ys : List Tok) (i : Nat) (t u : Tok) (h1 : (ys.map (shT k))[i]? = some t) (h2 : ys[i]? = some u) : t.kind = u.kind ∧ t.text = u.text ∧ t.int = u.int := by
  rw [List.getElem?_map, h2] at h1
  obtain rfl : shT k u = t := by simpa using h1
  exact ⟨rfl, rfl, rfl⟩
theorem C_none {w : World} {A : Option Addr} {n : Nat} (ts : List Tok) (h : ts.length = n) (hn : n = 0) : Kd.C k31 w A n (ts.map toS) := ⟨by rw [List.length_map, h], by omega, fun h => absurd h (by omega)⟩
set_option maxRecDepth 100000 in
set_option maxHeartbeats 2000000 in
theorem joins_ok (a b : ByteArray) (w : World) (h : Glob w) (xs ys : List Tok) (ha : tokensOf a = .ok xs) (hl : a.size + b.size ≤ 4000) (hb : tokensOf b = .ok ys) : Calls Tryd.prog 3 #[.string a, .string b] w fun e w' => e = .returned (.bool true) ∧ Below w.heap.size w w' := by
  have hof := of_ok ha
  have hof2 := of_ok hb
  have hgt : decide ((4000 : Int) < a.size + b.size) = false := by simp; omega
  have HZ : Aside0 (tokensOf (a ++ ⟨#[10]⟩ ++ b) = .ok (xs ++ brk a.size :: ys.map (shT (a.size + 1)))) := ⟨by rw [joins_of (z_bytes a b) hl ha, hb]; simp [pre, shE]⟩
  have HG := Aside0.mk h
  have HA := Aside0.mk ha
  have HBB := Aside0.mk hb
  clear h ha hb
  go_enter Tryd.func3, Tryd.ntmps3
  go_wp2_with (first | (go_at_call 6; (with_reducible refine (alive_true _ HG.out).mono ?_); rintro e w1 ⟨rfl, hb1⟩; have HB1 := Aside0.mk hb1; clear hb1) | (go_at_call 7; (with_reducible refine (tokens_C a _ (HG.out.below HB1.out) xs HA.out).mono ?_); rintro e w2 ⟨A1, c1, rfl, hc1, hC1, hb2⟩; have HB2 := Aside0.mk (hb2.alloc (by have := hb2.size; omega) (Obj.cells #[.int .i64 0, .int .i64 0] 26)); have HC1 := Aside0.mk (Kd.C_below hC1 (w_alloc _ (Obj.cells #[.int .i64 0, .int .i64 0] 26))); have k := (cell_alloc2 w2 (.int .i64 0) (.int .i64 0) 26).1; clear hb2 hC1) | (go_at_call 7; (with_reducible refine (tokens_C b _ ((HG.out.below HB1.out).below HB2.out) ys HBB.out).mono ?_); rintro e w3 ⟨A2, c2, rfl, hc2, hC2, hb3⟩; have HB3 := Aside0.mk (hb3.alloc (by have := hb3.size; omega) (Obj.cells #[.int .i64 0, .int .i64 0] 26)); have HC2 := Aside0.mk (Kd.C_below hC2 (w_alloc _ (Obj.cells #[.int .i64 0, .int .i64 0] 26))); have k1 := pw_cell_below HB3.out k; have k2 := (cell_alloc2 w3 (.int .i64 0) (.int .i64 0) 26).1; clear hb3 hC2 k) | (go_at_call 7; (with_reducible refine (tokens_z _ xs ys a.size HZ.out _ (((HG.out.below HB1.out).below HB2.out).below HB3.out)).mono ?_); rintro e w4 ⟨g, c3, rfl, hc3, hCx, hk5, hka, hCy, hb4⟩; have HB4 := Aside0.mk (hb4.alloc (by have := hb4.size; omega) (Obj.cells #[.int .i64 0, .int .i64 0] 26)); have HCx := Aside0.mk (Kd.C_below hCx (w_alloc _ (Obj.cells #[.int .i64 0, .int .i64 0] 26))); have HCy := Aside0.mk (Kd.C_below hCy (w_alloc _ (Obj.cells #[.int .i64 0, .int .i64 0] 26))); have k3 := pw_cell_below (w_alloc _ (Obj.cells #[.int .i64 0, .int .i64 0] 26)) hk5; have k4 := pw_cell_below (w_alloc _ (Obj.cells #[.int .i64 0, .int .i64 0] 26)) hka; have k5 := pw_cell_below HB4.out k2; have k6 := (cell_alloc2 w4 (.int .i64 0) (.int .i64 0) 26).1; have HD1 := Aside0.mk (Kd.C_below (Kd.C_below HC1.out HB3.out) HB4.out); have HD2 := Aside0.mk (Kd.C_below HC2.out HB4.out); clear hb4 hCx hCy k1 k2 hk5 hka) | (go_at_call 8; (with_reducible refine (like_true _ _ _ _ _ xs xs rfl rfl (by omega) (fun i t u h1 h2 => by rw [h1] at h2; injection h2 with h2; rw [h2]; exact ⟨rfl, rfl, rfl⟩) _ HCx.out (by omega) HD1.out hc1).mono ?_); rintro e w5 ⟨rfl, ⟨q1, rfl⟩⟩) | (go_at_call 8; (with_reducible refine (like_true _ _ _ _ _ (ys.map (shT (a.size + 1))) ys (len_sh _ ys) rfl (by omega) (same_sh _ ys) _ (Kd.C_drewN HCy.out q1) (by omega) (Kd.C_drewN HD2.out q1) hc2).mono ?_); rintro e w6 ⟨rfl, ⟨q2, rfl⟩⟩) | (go_at_call 8; (with_reducible refine (like_true _ _ _ _ _ (ys.map (shT (a.size + 1))) ys (len_sh _ ys) rfl (by omega) (same_sh _ ys) _ (C_none _ (len_sh _ ys) (by omega)) (by omega) (Kd.C_drewN HD2.out q1) hc2).mono ?_); rintro e w6 ⟨rfl, ⟨q2, rfl⟩⟩))
  all_goals go_ret
  all_goals exact ⟨rfl, pw_below_drewN (onB (onB (onB HB1.out HB2.out) HB3.out) HB4.out) _⟩
end Go.Proofs.YtdffbaikdibalaaDoor.T

/- TokJoins, walked. -/
import Derived.Test.YtdffbaikdibalaaDoorN
import Derived.Test.YtdffbaikdibalaaDoorPTokJoinsx5
namespace Go.Proofs.YtdffbaikdibalaaDoor.T
set_option linter.unusedVariables false
set_option linter.unusedSimpArgs false
open Go.RowKit Go.Proofs.YtdffbaikdibalaaDoorW.PrintWords
open Go.Proofs.YtdffbaikdibalaaDoor.PTokJoins (S31 k31 k31_mk rd_T31 casementref07_Like.calls casementref07_Like.f casementref07_Like.l0)
theorem add_at (g a n : Nat) : (⟨g, a, none⟩ : Addr).add n = ⟨g, a + n, none⟩ := by unfold Addr.add; split <;> simp_all
theorem C_of {w : World} {g a : Nat} {ts : List Tok} (hm : ts.length ≤ 9223372036854775807) (h : ∀ (i : Nat) (t : Tok), ts[i]? = some t →
    w.cell? ⟨g, a + i * 4, none⟩ = some (.int .i64 t.kind) ∧ w.cell? ⟨g, a + i * 4 + 1, none⟩ = some (.string t.text) ∧ w.cell? ⟨g, a + i * 4 + 2, none⟩ = some (.int .i64 t.int) ∧ w.cell? ⟨g, a + i * 4 + 3, none⟩ = some (.int .i64 t.at_)) :
    Kd.C k31 w (some ⟨g, a, none⟩) ts.length (ts.map toS) := by
  refine ⟨by simp, hm, fun _ => ⟨_, rfl, fun j p hj => ?_⟩⟩
  rw [List.getElem?_map] at hj
  cases ht : ts[j]? with
  | none => rw [ht] at hj; cases hj
  | some t =>
    rw [ht] at hj
    obtain rfl : toS t = p := by simpa using hj
    obtain ⟨h0, h1, h2, h3⟩ := h j t ht
    refine ⟨_, rfl, k31_mk w (toS t), fun i u hu => ?_⟩
    show w.cell? ((⟨g, a, none⟩ : Addr).add (j * 4 + i)) = some u
    rw [add_at]
    match i, hu with
    | 0, hu => obtain rfl := Option.some.inj hu; exact h0
    | 1, hu => obtain rfl := Option.some.inj hu; exact h1
    | 2, hu => obtain rfl := Option.some.inj hu; exact h2
    | 3, hu => obtain rfl := Option.some.inj hu; exact h3
theorem C_zero {w : World} {A : Option Addr} : Kd.C k31 w A 0 [] := ⟨rfl, by omega, fun h => absurd h (by omega)⟩
theorem tokens_C (s : ByteArray) (w : World) (h : Glob w) (ts : List Tok) (ht : tokensOf s = .ok ts) :
    Calls Tryd.prog 7 #[.string s] w fun e w' => ∃ A c, e = .returned (.tuple #[.slice A ts.length c, .agg #[.int .i64 0, .int .i64 0]]) ∧ ts.length ≤ c ∧ Kd.C k31 w' A ts.length (ts.map toS) ∧ Below w.heap.size w w' :=
  (tokens_ok s w h ts ht).mono fun e w' ⟨v, he, hR, hb⟩ => by
    have hlen := of_ok ht
    rcases toks_cells hR with ⟨rfl, hn⟩ | ⟨g, cap, rfl, hbg, hlc, hcm, hgs, hcell⟩
    · obtain rfl : ts = [] := by simpa using hn
      exact ⟨none, 0, he, Nat.le_refl _, C_zero, hb⟩
    · refine ⟨some ⟨g, 0, none⟩, cap, by rw [he, List.length_map], by simpa using hlc, C_of (by omega) fun i t hi => ?_, hb⟩
      obtain ⟨hl, ht⟩ := List.getElem?_eq_some_iff.1 hi
      have := hcell i (by simpa using hl)
      simp only [List.getElem_map, ht, toS] at this
      simpa using this
theorem tokens_gen (s : ByteArray) (w : World) (h : Glob w) :
    Calls Tryd.prog 7 #[.string s] w fun e w' => ∃ A n c co p, e = .returned (.tuple #[.slice A n c, .agg #[.int .i64 co, .int .i64 p]]) ∧ Below w.heap.size w w' := by
  cases ht : tokensOf s with
  | error e =>
    obtain ⟨co, p⟩ := e
    exact (tokens_err s w h co p ht).mono fun e w' ⟨he, hb⟩ => ⟨_, _, _, _, _, he, hb⟩
  | ok ts => exact (tokens_C s w h ts ht).mono fun e w' ⟨A, c, he, _, _, hb⟩ => ⟨_, _, _, _, _, he, hb⟩
theorem like_l0 (l0 l1 : List S31) (hl : l0.length = l1.length) (hm : l0.length < 9223372036854775807)
    (hs : ∀ i : Nat, i < l0.length → (rd_T31 l0 i).f0 = (rd_T31 l1 i).f0 ∧ (rd_T31 l0 i).f1 = (rd_T31 l1 i).f1 ∧ (rd_T31 l0 i).f2 = (rd_T31 l1 i).f2) : ∀ (k i : Nat), i ≤ l0.length → l0.length - i < k → casementref07_Like.l0 k l0 l1 i = some true
  | 0, i, h1, h2 => by omega
  | k + 1, i, h1, h2 => by
    unfold casementref07_Like.l0
    by_cases hi : i < l0.length
    · obtain ⟨e0, e1, e2⟩ := hs i hi
      rw [if_pos (by omega), if_pos (by omega), if_pos (by omega), if_pos e0, if_pos (by rw [e1]), if_pos e2, IntWalk.wrap64_in _ (by omega)]
      exact like_l0 l0 l1 hl hm hs k (i + 1) (by omega) (by omega)
    · rw [if_neg (by omega)]
theorem like_true (A0 A1 : Option Addr) (c0 c1 n : Nat) (xs ys : List Tok) (hx : xs.length = n) (hy : ys.length = n) (hn : n ≤ 4096)
    (hs : ∀ (i : Nat) (t u : Tok), xs[i]? = some t → ys[i]? = some u → t.kind = u.kind ∧ t.text = u.text ∧ t.int = u.int) (w : World)
    (h0 : Kd.C k31 w A0 n (xs.map toS)) (hc0 : n ≤ c0) (h1 : Kd.C k31 w A1 n (ys.map toS)) (hc1 : n ≤ c1) :
    Calls Tryd.prog 8 #[.slice A0 n c0, .slice A1 n c1] w fun e w' => e = .returned (.bool true) ∧ ∃ q, w' = w.drewN q := by
  have l0 : (xs.map toS).length = n := by rw [List.length_map, hx]
  have l1 : (ys.map toS).length = n := by rw [List.length_map, hy]
  have key : casementref07_Like.f (n + 1) (xs.map toS) (ys.map toS) = some true := by
    unfold casementref07_Like.f
    rw [if_pos (by omega)]
    refine like_l0 _ _ (by omega) (by omega) (fun i hi => ?_) (n + 1) 0 (by omega) (by omega)
    have ex : (xs.map toS)[i]? = some (toS xs[i]) := by rw [List.getElem?_map, List.getElem?_eq_getElem (by omega)]; rfl
    have ey : (ys.map toS)[i]? = some (toS ys[i]) := by rw [List.getElem?_map, List.getElem?_eq_getElem (by omega)]; rfl
    have e1 : rd_T31 (xs.map toS) i = toS xs[i] := by unfold rd_T31; rw [Int.toNat_natCast, List.getD_eq_getElem?_getD, ex]; rfl
    have e2 : rd_T31 (ys.map toS) i = toS ys[i] := by unfold rd_T31; rw [Int.toNat_natCast, List.getD_eq_getElem?_getD, ey]; rfl
    rw [e1, e2]
    exact hs i _ _ (List.getElem?_eq_getElem (by omega)) (List.getElem?_eq_getElem (by omega))
  have h := casementref07_Like.calls (n + 1) A0 c0 (xs.map toS) A1 c1 (ys.map toS) true w (by rw [l0]; exact h0) (by omega) (by rw [l1]; exact h1) (by omega) key
  rw [l0, l1] at h
  exact h.mono fun e w' ⟨he, hd⟩ => ⟨he, by obtain ⟨q, rfl⟩ := hd; exact ⟨q, rfl⟩⟩
/-- What Tokens gives of the joined text, where both have tokens. -/
theorem tokens_z (z : ByteArray) (xs ys : List Tok) (m : Nat) (ht : tokensOf z = .ok (xs ++ brk m :: ys.map (shT (m + 1)))) (w : World) (h : Glob w) :
    Calls Tryd.prog 7 #[.string z] w fun e w' => ∃ g c, e = .returned (.tuple #[.slice (some ⟨g, 0, none⟩) (xs.length + ys.length + 1) c, .agg #[.int .i64 0, .int .i64 0]]) ∧ xs.length + ys.length + 1 ≤ c ∧
      Kd.C k31 w' (some ⟨g, 0, none⟩) xs.length (xs.map toS) ∧ w'.cell? ⟨g, xs.length * 4, none⟩ = some (.int .i64 5) ∧ w'.cell? ⟨g, xs.length * 4 + 3, none⟩ = some (.int .i64 m) ∧
      Kd.C k31 w' (some ⟨g, (xs.length + 1) * 4, none⟩) ys.length ((ys.map (shT (m + 1))).map toS) ∧ Below w.heap.size w w' :=
  (tokens_row z w h _ ht (by simp)).mono fun e w' ⟨g, c, he, hc, hcm, hL, hb⟩ => by
    have hlen := of_ok ht
    simp only [List.length_append, List.length_cons, List.length_map] at hlen he hc
    have hmid := hL xs.length (brk m) (by rw [List.getElem?_append_right (Nat.le_refl _), Nat.sub_self]; rfl)
    refine ⟨g, c, by rw [he]; congr 4, by omega, C_of (by omega) fun i t hi => ?_, hmid.1, hmid.2.2.2, ?_, hb⟩
    · have hlt := (List.getElem?_eq_some_iff.1 hi).1
      have := hL i t (by rw [List.getElem?_append_left hlt]; exact hi)
      simpa using this
    · have := C_of (w := w') (g := g) (a := (xs.length + 1) * 4) (ts := ys.map (shT (m + 1))) (by rw [List.length_map]; omega) (fun i t hi => by
        have := hL (xs.length + 1 + i) t (by rw [List.getElem?_append_right (by omega), show xs.length + 1 + i - xs.length = i + 1 by omega, List.getElem?_cons_succ]; exact hi)
        rw [Nat.add_mul (xs.length + 1)] at this
        exact this)
      rw [List.length_map] at this
      exact this
set_option maxRecDepth 100000 in
set_option maxHeartbeats 1000000 in
theorem joins_bad (a b : ByteArray) (w : World) (h : Glob w) (co p : Nat) (ha : tokensOf a = .error (co, p)) : Calls Tryd.prog 3 #[.string a, .string b] w fun e w' => e = .returned (.bool true) ∧ Below w.heap.size w w' := by
  have hc := tokens_code ha
  have hc0 : ((co : Int) == 0) = false := beq_eq_false_iff_ne.mpr (by omega)
  have hc1 : ((co : Int) != 0) = true := by simp; omega
  have HG := Aside0.mk h
  have HA := Aside0.mk ha
  clear h ha hc
  go_enter Tryd.func3, Tryd.ntmps3
  go_wp2_with (first | (go_at_call 6; (with_reducible refine (alive_true _ HG.out).mono ?_); rintro e w1 ⟨rfl, hb1⟩; have HB1 := Aside0.mk hb1; clear hb1) | (go_at_call 7; (with_reducible refine (tokens_err a _ (HG.out.below HB1.out) co p HA.out).mono ?_); rintro e w2 ⟨rfl, hb2⟩; have HB2 := Aside0.mk (hb2.alloc (by have := hb2.size; omega) (Obj.cells #[.int .i64 co, .int .i64 p] 26)); have k := (cell_alloc2 w2 (.int .i64 co) (.int .i64 p) 26).1; clear hb2) | (go_at_call 7; (with_reducible refine (tokens_gen b _ ((HG.out.below HB1.out).below HB2.out)).mono ?_); rintro e w3 ⟨A, n, c, co2, p2, rfl, hb3⟩; have HB3 := Aside0.mk (hb3.alloc (by have := hb3.size; omega) (Obj.cells #[.int .i64 co2, .int .i64 p2] 26)); have k2 := pw_cell_below HB3.out k; clear hb3 k))
  go_ret
  exact ⟨rfl, onB (onB HB1.out HB2.out) HB3.out⟩
set_option maxRecDepth 100000 in
set_option maxHeartbeats 1000000 in
theorem joins_long (a b : ByteArray) (w : World) (h : Glob w) (xs : List Tok) (ha : tokensOf a = .ok xs) (hl : 4000 < a.size + b.size) (hbs : b.size ≤ 140737488355328) : Calls Tryd.prog 3 #[.string a, .string b] w fun e w' => e = .returned (.bool true) ∧ Below w.heap.size w w' := by
  have hof := of_ok ha
  have hgt : decide ((4000 : Int) < a.size + b.size) = true := by simp; omega
  have HG := Aside0.mk h
  have HA := Aside0.mk ha
  clear h ha
  go_enter Tryd.func3, Tryd.ntmps3
  go_wp2_with (first | (go_at_call 6; (with_reducible refine (alive_true _ HG.out).mono ?_); rintro e w1 ⟨rfl, hb1⟩; have HB1 := Aside0.mk hb1; clear hb1) | (go_at_call 7; (with_reducible refine (tokens_C a _ (HG.out.below HB1.out) xs HA.out).mono ?_); rintro e w2 ⟨A1, c1, rfl, hc1, hC1, hb2⟩; have HB2 := Aside0.mk (hb2.alloc (by have := hb2.size; omega) (Obj.cells #[.int .i64 0, .int .i64 0] 26)); have HC1 := Aside0.mk (Kd.C_below hC1 (w_alloc _ (Obj.cells #[.int .i64 0, .int .i64 0] 26))); have k := (cell_alloc2 w2 (.int .i64 0) (.int .i64 0) 26).1; clear hb2 hC1) | (go_at_call 7; (with_reducible refine (tokens_gen b _ ((HG.out.below HB1.out).below HB2.out)).mono ?_); rintro e w3 ⟨A, n, c, co2, p2, rfl, hb3⟩; have HB3 := Aside0.mk (hb3.alloc (by have := hb3.size; omega) (Obj.cells #[.int .i64 co2, .int .i64 p2] 26)); have k2 := pw_cell_below HB3.out k; clear hb3 k))
  go_ret
  exact ⟨rfl, onB (onB HB1.out HB2.out) HB3.out⟩
theorem z_bytes (a b : ByteArray) : bs (a ++ ⟨#[10]⟩ ++ b) = bs a ++ 10 :: bs b := by simp [bs]
set_option maxRecDepth 100000 in
set_option maxHeartbeats 2000000 in
theorem joins_err (a b : ByteArray) (w : World) (h : Glob w) (xs : List Tok) (ha : tokensOf a = .ok xs) (hl : a.size + b.size ≤ 4000) (co p : Nat) (hb : tokensOf b = .error (co, p)) : Calls Tryd.prog 3 #[.string a, .string b] w fun e w' => e = .returned (.bool true) ∧ Below w.heap.size w w' := by
  have hof := of_ok ha
  have hp := of_err hb
  have hc := tokens_code hb
  have hc0 : ((co : Int) == 0) = false := beq_eq_false_iff_ne.mpr (by omega)
  have hc1 : ((co : Int) != 0) = true := by simp; omega
  have hgt : decide ((4000 : Int) < a.size + b.size) = false := by simp; omega
  obtain ⟨pz, hpz⟩ : ∃ pz : Nat, pz = p + (a.size + 1) := ⟨_, rfl⟩
  have HZ : Aside0 (tokensOf (a ++ ⟨#[10]⟩ ++ b) = .error (co, pz)) := ⟨by rw [joins_of (z_bytes a b) hl ha, hb, hpz]; rfl⟩
  have hpe : ((pz : Int) == (p : Int) + a.size + 1) = true := by rw [beq_iff_eq]; omega
  clear hpz
  have HG := Aside0.mk h
  have HA := Aside0.mk ha
  have HBB := Aside0.mk hb
  clear h ha hb hc
  go_enter Tryd.func3, Tryd.ntmps3
  go_wp2_with (first | (go_at_call 6; (with_reducible refine (alive_true _ HG.out).mono ?_); rintro e w1 ⟨rfl, hb1⟩; have HB1 := Aside0.mk hb1; clear hb1) | (go_at_call 7; (with_reducible refine (tokens_C a _ (HG.out.below HB1.out) xs HA.out).mono ?_); rintro e w2 ⟨A1, c1, rfl, hc1, hC1, hb2⟩; have HB2 := Aside0.mk (hb2.alloc (by have := hb2.size; omega) (Obj.cells #[.int .i64 0, .int .i64 0] 26)); have HC1 := Aside0.mk (Kd.C_below hC1 (w_alloc _ (Obj.cells #[.int .i64 0, .int .i64 0] 26))); have k := (cell_alloc2 w2 (.int .i64 0) (.int .i64 0) 26).1; clear hb2 hC1) | (go_at_call 7; (with_reducible refine (tokens_err b _ ((HG.out.below HB1.out).below HB2.out) co p HBB.out).mono ?_); rintro e w3 ⟨rfl, hb3⟩; have HB3 := Aside0.mk (hb3.alloc (by have := hb3.size; omega) (Obj.cells #[.int .i64 co, .int .i64 p] 26)); have k1 := pw_cell_below HB3.out k; have k2 := (cell_alloc2 w3 (.int .i64 co) (.int .i64 p) 26).1; have k3 := (cell_alloc2 w3 (.int .i64 co) (.int .i64 p) 26).2; clear hb3 k) | (go_at_call 7; (with_reducible refine (tokens_err _ _ (((HG.out.below HB1.out).below HB2.out).below HB3.out) co pz HZ.out).mono ?_); rintro e w4 ⟨rfl, hb4⟩; have HB4 := Aside0.mk (hb4.alloc (by have := hb4.size; omega) (Obj.cells #[.int .i64 co, .int .i64 (pz : Int)] 26)); have k4 := pw_cell_below HB4.out k2; have k5 := pw_cell_below HB4.out k3; have k6 := (cell_alloc2 w4 (.int .i64 co) (.int .i64 (pz : Int)) 26).1; have k7 := (cell_alloc2 w4 (.int .i64 co) (.int .i64 (pz : Int)) 26).2; clear hb4 k1 k2 k3))
  go_ret
  exact ⟨rfl, onB (onB (onB HB1.out HB2.out) HB3.out) HB4.out⟩
end Go.Proofs.YtdffbaikdibalaaDoor.T

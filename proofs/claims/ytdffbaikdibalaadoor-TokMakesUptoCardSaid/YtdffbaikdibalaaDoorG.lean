/- Plain and the law's examples, walked. -/
import Derived.Test.YtdffbaikdibalaaDoorF
namespace Go.Proofs.YtdffbaikdibalaaDoor.T
set_option linter.unusedVariables false
set_option linter.unusedSimpArgs false
open Go.RowKit Go.Proofs.YtdffbaikdibalaaDoorW.PrintWords
open Go.Proofs.YtdffbaikdibalaaDoor.PTokJoins (S31 k31 z31 k31_mkM k31_mk k31_open k31_openM rd_T31 at_T31)

/-- The package-level variables that a text's reading comes to. -/
def Glob (w : World) : Prop := (∃ m, w.cell? ⟨0, 0, none⟩ = some (.int .i64 m)) ∧ ∃ te pe, w.cell? ⟨2, 0, none⟩ = some (.iface te pe)
theorem Glob.below {w W : World} (h : Glob w) (hb : Below w.heap.size w W) : Glob W := by
  obtain ⟨⟨m, hm⟩, te, pe, hE⟩ := h
  exact ⟨⟨m, pw_cell_below hb hm⟩, te, pe, pw_cell_below hb hE⟩
theorem tokens_any (s : ByteArray) (w : World) (h : Glob w) : Calls Tryd.prog 7 #[.string s] w fun e w' => Toks e w w' (tokensOf s) ∧ Below w.heap.size w w' := by
  obtain ⟨⟨m, hm⟩, te, pe, hE⟩ := h
  by_cases hs : 4096 < s.size
  · exact tokens_long s w hs
  · exact tokens_short s w (by omega) m te pe hm hE
theorem tokens_err (s : ByteArray) (w : World) (h : Glob w) (code p : Nat) (ht : tokensOf s = .error (code, p)) :
    Calls Tryd.prog 7 #[.string s] w fun e w' => e = .returned (.tuple #[.slice none 0 0, .agg #[.int .i64 code, .int .i64 p]]) ∧ Below w.heap.size w w' :=
  (tokens_any s w h).mono fun e w' ⟨hT, hb⟩ => by
    rw [ht] at hT
    exact ⟨hT, hb⟩
theorem tokens_ok (s : ByteArray) (w : World) (h : Glob w) (ts : List Tok) (ht : tokensOf s = .ok ts) :
    Calls Tryd.prog 7 #[.string s] w fun e w' => ∃ v, e = .returned (.tuple #[v, .agg #[.int .i64 0, .int .i64 0]]) ∧ Kd.R k31 31 w' w.heap.size (fun _ => True) v (ts.map toS) ∧ Below w.heap.size w w' :=
  (tokens_any s w h).mono fun e w' ⟨hT, hb⟩ => by
    rw [ht] at hT
    obtain ⟨v, he, hR⟩ := hT
    exact ⟨v, he, hR, hb⟩
theorem tokens_code {s : ByteArray} {code p : Nat} (h : tokensOf s = .error (code, p)) : code ≠ 0 := by
  unfold tokensOf at h
  split at h
  · injection h with h; injection h with h; omega
  · have key : ∀ (n a : Nat) (l : Bs), l.length ≤ n → tokensL a l = .error (code, p) → 70 ≤ code := by
      intro n
      induction n with
      | zero =>
        intro a l hl h
        obtain rfl : l = [] := List.length_eq_zero_iff.1 (by omega)
        have hs : skipL [] = (0, false) := by unfold skipL; rfl
        rw [tokens_end (by rw [hs]) (by simp)] at h
        cases h
      | succ n ih =>
        intro a l hl h
        cases ho : (skipL l).2 with
        | true => rw [tokens_open ho] at h; injection h with h; injection h with h; omega
        | false =>
          cases hd : l.drop (skipL l).1 with
          | nil => rw [tokens_end ho hd] at h; cases h
          | cons c r =>
            have hlen := congrArg List.length hd
            simp only [List.length_drop, List.length_cons] at hlen
            cases ht : tokenL c r with
            | bad co k => rw [tokens_bad ho hd ht] at h; injection h with h; injection h with h; have := token_code ht; omega
            | ok kind t v m =>
              rw [tokens_step ho hd ht] at h
              cases hr : tokensL (a + (skipL l).1 + (m + 1)) (r.drop m) with
              | ok ts => rw [hr] at h; cases h
              | error e =>
                rw [hr] at h
                injection h with h
                subst h
                exact ih _ _ (by simp only [List.length_drop]; omega) hr
    have := key _ _ _ (Nat.le_refl _) h
    omega
/-- A text's tokens in memory: where their cells lie. -/
theorem toks_cells {w : World} {base : Nat} {ok : Nat → Prop} {v : Value} {xs : List S31} (h : Kd.R k31 31 w base ok v xs) :
    (v = .slice none 0 0 ∧ xs = []) ∨ ∃ g cap, v = .slice (some ⟨g, 0, none⟩) xs.length cap ∧ base ≤ g ∧ xs.length ≤ cap ∧ cap ≤ maxLen ∧ g < w.heap.size ∧
      ∀ (i : Nat) (hi : i < xs.length), w.cell? ⟨g, i * 4, none⟩ = some (.int .i64 xs[i].f0) ∧ w.cell? ⟨g, i * 4 + 1, none⟩ = some (.string xs[i].f1) ∧ w.cell? ⟨g, i * 4 + 2, none⟩ = some (.int .i64 xs[i].f2) ∧ w.cell? ⟨g, i * 4 + 3, none⟩ = some (.int .i64 xs[i].f3) := by
  obtain ⟨_, inner, ho, hr⟩ := h
  rcases ho.2 with ⟨rfl, h0⟩ | ⟨g, cap, cur, rfl, hg, hb, hn, hc, hcs, htake⟩
  · exact .inl ⟨rfl, List.length_eq_zero_iff.1 h0⟩
  · refine .inr ⟨g, cap, rfl, hg, hn, hc, blk_lt hb, fun i hi => ?_⟩
    have hc4 : (inner.drop (i * 4)).take 4 = [.int .i64 xs[i].f0, .string xs[i].f1, .int .i64 xs[i].f2, .int .i64 xs[i].f3] := k31_openM (hr.2 i xs[i] (List.getElem?_eq_getElem hi))
    have key : ∀ (j : Nat) (u : Value), j < 4 → [Value.int .i64 xs[i].f0, .string xs[i].f1, .int .i64 xs[i].f2, .int .i64 xs[i].f3][j]? = some u → w.cell? ⟨g, i * 4 + j, none⟩ = some u := fun j u hj hu => by
      rw [← hc4, List.getElem?_take, if_pos hj, List.getElem?_drop] at hu
      have := ho.cells (g := g) rfl _ u hu
      rw [show (⟨g, 0, none⟩ : Addr).add (i * 4 + j) = ⟨g, i * 4 + j, none⟩ from by unfold Addr.add; split <;> simp_all] at this
      exact this
    exact ⟨key 0 _ (by omega) rfl, key 1 _ (by omega) rfl, key 2 _ (by omega) rfl, key 3 _ (by omega) rfl⟩
theorem len23 (v : Option Addr) (n c : Nat) (w : World) : (Builtin.len_ #[23] 3 #[.slice v n c]).run Tryd.prog w = .ok (.int .i64 (n : Int)) w := by
  simp only [run_len_slice, Tryd.underlying23, go_sem]
theorem ind23 (g n c i : Nat) (k : IntKind) (h1 : i < n) (w : World) : (Instr.indexAt 23 (.slice (some ⟨g, 0, none⟩) n c) (.int k (i : Int))).run Tryd.prog w = .ok (.pointer (some ((⟨g, 0, none⟩ : Addr).add (i * 4)))) w := by
  rw [run_indexAt_slice (h := (by rfl : Tryd.prog.underlying 23 = some (.slice (Tryd.prog.elem 23)))), if_pos ⟨by omega, by omega⟩]
  have h4 : (sizeOf (Tryd.prog.elem 23)).run Tryd.prog w = .ok 4 w := by rfl
  rw [h4]
  simp only [Result.andThen, Int.toNat_natCast]
theorem w_alloc (w1 : World) (o : Obj) : Below w1.heap.size w1 (w1.alloc o) := (Below.refl w1.heap.size w1).alloc (Nat.le_refl _) o
/-- Is a text one word? -/
def plainT (ts : List Tok) (s : ByteArray) : Bool := match ts with
  | [t] => t.kind == 1 && t.text.toList == s.toList
  | _ => false
def plainB (s : ByteArray) : Bool := match tokensOf s with
  | .ok ts => plainT ts s
  | _ => false
set_option maxRecDepth 100000 in
set_option maxHeartbeats 4000000 in
theorem plain_any (s : ByteArray) (w : World) (h : Glob w) : Calls Tryd.prog 12 #[.string s] w fun e w' => e = .returned (.bool (plainB s)) ∧ Below w.heap.size w w' := by
  cases ht : tokensOf s with
  | error e =>
    obtain ⟨code, p⟩ := e
    have hc := tokens_code ht
    have hc0 : ((code : Int) == 0) = false := by simp; omega
    have HP := Aside0.mk (show plainB s = false by unfold plainB; rw [ht])
    have HT := Aside0.mk ht
    have HG := Aside0.mk h
    clear ht h hc
    go_enter Tryd.func12, Tryd.ntmps12
    go_wp2_with (go_at_call 7; refine (tokens_err s _ HG.out code p HT.out).mono ?_; rintro e w1 ⟨rfl, hb1⟩)
    go_ret
    exact ⟨by rw [HP.out]; rfl, hb1.alloc (by have := hb1.size; omega) _⟩
  | ok ts =>
    have HT := Aside0.mk ht
    have HG := Aside0.mk h
    have HP := Aside0.mk (show plainB s = plainT ts s by unfold plainB; rw [ht])
    clear ht h
    go_enter Tryd.func12, Tryd.ntmps12
    go_wp2_with (go_at_call 7; refine (tokens_ok s _ HG.out ts HT.out).mono ?_; rintro e w1 ⟨v, rfl, hR, hb1⟩)
    rcases toks_cells hR with ⟨rfl, h0⟩ | ⟨g, cap, rfl, hbg, hlc, hcm, hgs, hcell⟩
    · have hts : ts = [] := by simpa using h0
      subst hts
      clear hR
      have hl := len23 none 0 0
      simp only [hl, List.map_nil, List.length_nil, Result.andThen]
      go_wp2
      go_ret
      exact ⟨by rw [HP.out]; rfl, hb1.alloc (by have := hb1.size; omega) _⟩
    · clear hR
      match ts, HT, HP, hcell, hlc with
      | [], HT, HP, hcell, hlc =>
        simp only [List.map_nil, List.length_nil] at hlc ⊢
        clear hcell
        have hl := fun k => len23 (some ⟨g, 0, none⟩) k cap
        simp only [hl, Result.andThen]
        go_wp2
        go_ret
        exact ⟨by rw [HP.out]; rfl, hb1.alloc (by have := hb1.size; omega) _⟩
      | t :: t2 :: r, HT, HP, hcell, hlc =>
        simp only [List.map_cons, List.length_cons, List.length_map] at hlc ⊢
        have hn : ((((r.length + 1 + 1 : Nat) : Int)) == 1) = false := by simp; omega
        clear hcell
        have hl := fun k => len23 (some ⟨g, 0, none⟩) k cap
        simp only [hl, Result.andThen]
        go_wp2
        go_ret
        exact ⟨by rw [HP.out]; rfl, hb1.alloc (by have := hb1.size; omega) _⟩
      | [t], HT, HP, hcell, hlc =>
        simp only [List.map_cons, List.length_cons, List.map_nil, List.length_nil] at hlc ⊢
        obtain ⟨c0, c1, _, _⟩ := hcell 0 (by simp)
        replace c0 := pw_cell_below (w1 := w1.alloc (Obj.cells #[Value.int IntKind.i64 0, Value.int IntKind.i64 0] 26)) (w_alloc _ _) c0
        replace c1 := pw_cell_below (w1 := w1.alloc (Obj.cells #[Value.int IntKind.i64 0, Value.int IntKind.i64 0] 26)) (w_alloc _ _) c1
        simp only [Nat.zero_mul, Nat.zero_add, List.map_cons, List.getElem_cons_zero, toS] at c0 c1
        have hl := fun k => len23 (some ⟨g, 0, none⟩) k cap
        have hi := ind23 g 1 cap 0 .i64 (by omega)
        simp only [hl, Result.andThen]
        go_wp2
        all_goals go_ret
        all_goals refine ⟨?_, hb1.alloc (by have := hb1.size; omega) _⟩
        all_goals rw [HP.out]
        all_goals simp_all [plainT]
end Go.Proofs.YtdffbaikdibalaaDoor.T

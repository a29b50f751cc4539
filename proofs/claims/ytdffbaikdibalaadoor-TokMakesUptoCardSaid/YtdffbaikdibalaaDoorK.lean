/- TokWords, walked. -/
import Derived.Test.YtdffbaikdibalaaDoorJ
namespace Go.Proofs.YtdffbaikdibalaaDoor.T
set_option linter.unusedVariables false
set_option linter.unusedSimpArgs false
open Go.RowKit Go.Proofs.YtdffbaikdibalaaDoorW.PrintWords
theorem digit11 (c : Int) (w : World) : Calls Tryd.prog 11 #[.int .u8 c] w fun e w' => e = .returned (.bool (digitB c)) ∧ w = w' := by
  go_enter Tryd.func11, Tryd.ntmps11
  go_wp2
  all_goals (go_ret; refine ⟨ret_bool ?_, rfl⟩; simp [digitB] at *; try omega)
theorem word10 (c : Int) (w : World) : Calls Tryd.prog 10 #[.int .u8 c] w fun e w' => e = .returned (.bool (wordB c)) ∧ w = w' := by
  go_enter Tryd.func10, Tryd.ntmps10
  go_wp2_with (go_at_call 11; refine (digit11 _ _).mono ?_; rintro e w' ⟨rfl, rfl⟩)
  all_goals (go_ret; refine ⟨ret_bool ?_, rfl⟩; simp [wordB, digitB] at *; try omega)
theorem one_row (s : ByteArray) (w : World) (h : Glob w) (k v : Int) (ht : tokensOf s = .ok [⟨k, s, v, 0⟩]) :
    Calls Tryd.prog 7 #[.string s] w fun e w' => ∃ g cap, e = .returned (.tuple #[.slice (some ⟨g, 0, none⟩) 1 cap, .agg #[.int .i64 0, .int .i64 0]]) ∧ 1 ≤ cap ∧ (∀ o, (w'.alloc o).cell? ⟨g, 0, none⟩ = some (.int .i64 k) ∧ (w'.alloc o).cell? ⟨g, 1, none⟩ = some (.string s)) ∧ Below w.heap.size w w' :=
  (tokens_row s w h _ ht (by simp)).mono fun e w' ⟨g, cap, he, hc, _, hL, hb⟩ => ⟨g, cap, he, hc, fun o => ⟨by simpa using ((hL.alloc o) 0 _ rfl).1, by simpa using ((hL.alloc o) 0 _ rfl).2.1⟩, hb⟩
theorem err73 (s : ByteArray) (w : World) (h : Glob w) (ht : tokensOf s = .error (73, 0)) :
    Calls Tryd.prog 7 #[.string s] w fun e w' => e = .returned (.tuple #[.slice none 0 0, .agg #[.int .i64 73, .int .i64 0]]) ∧ Below w.heap.size w w' := tokens_err s w h 73 0 ht
def dgL : Bs → Bool
  | [] => true
  | c :: r => digitsB c r
theorem dgL_snoc (l : Bs) (x : UInt8) : dgL (l ++ [x]) = (dgL l && (digitB x.toNat || (l.isEmpty && x == 45))) := by
  cases l with
  | nil => simp [dgL, digitsB]
  | cons c r => simp [dgL, digitsB, Bool.and_assoc]
theorem take_snoc {s : ByteArray} {i : Nat} (h : i < s.size) : (bs s).take (i + 1) = (bs s).take i ++ [s[i]] := by
  have h2 := drop_at h
  have h3 : (bs s)[i]? = some s[i] := by rw [← List.head?_drop, h2]; rfl
  rw [List.take_add_one, h3]; rfl
theorem starts_at {s : ByteArray} (h : 0 < s.size) : bs s = s[0] :: (bs s).drop 1 := by simpa using drop_at h
theorem head_at {s : ByteArray} (h : 1 < s.size) : headB ((bs s).drop 1) = s[1].toNat := by rw [drop_at h]; rfl
theorem head_none {s : ByteArray} (h : s.size ≤ 1) : headB ((bs s).drop 1) = 0 := by rw [drop_end h]; rfl
set_option maxRecDepth 100000 in
set_option maxHeartbeats 1000000 in
theorem words_out (s : ByteArray) (w : World) (h : Glob w) (hs : s.size = 0 ∨ 1000 < s.size) : Calls Tryd.prog 5 #[.string s] w fun e w' => e = .returned (.bool true) ∧ Below w.heap.size w w' := by
  have HG := Aside0.mk h
  clear h
  rcases hs with hs | hs
  · have hz : ((s.size : Int) == 0) = true := by simp [hs]
    go_enter Tryd.func5, Tryd.ntmps5
    go_wp2_with (go_at_call 6; (with_reducible refine (alive_true _ HG.out).mono ?_); rintro e w1 ⟨rfl, hb1⟩)
    go_ret
    exact ⟨rfl, hb1⟩
  · have hz : ((s.size : Int) == 0) = false := beq_eq_false_iff_ne.mpr (by omega)
    have hgt : decide (1000 < (s.size : Int)) = true := by simp; omega
    go_enter Tryd.func5, Tryd.ntmps5
    go_wp2_with (go_at_call 6; (with_reducible refine (alive_true _ HG.out).mono ?_); rintro e w1 ⟨rfl, hb1⟩)
    go_ret
    exact ⟨rfl, hb1⟩
set_option maxRecDepth 100000 in
set_option maxHeartbeats 4000000 in
theorem words_in (s : ByteArray) (w : World) (h : Glob w) (h0 : 0 < s.size) (hs : s.size ≤ 1000) : Calls Tryd.prog 5 #[.string s] w fun e w' => e = .returned (.bool true) ∧ Below w.heap.size w w' := by
  have HG := Aside0.mk h
  clear h
  have hz : ((s.size : Int) == 0) = false := beq_eq_false_iff_ne.mpr (by omega)
  have hgt : decide (1000 < (s.size : Int)) = false := by simp; omega
  go_enter Tryd.func5, Tryd.ntmps5
  go_wp2_with (go_at_call 6; (with_reducible refine (alive_true _ HG.out).mono ?_); rintro e w1 ⟨rfl, hb1⟩; have HB1 := Aside0.mk hb1; clear hb1)
  go_loopg [3, 4] (s.size) (fun k v3 v4 wr => ∃ i : Nat, i ≤ s.size ∧ k = s.size - i ∧ v3 = .bool (dgL ((bs s).take i)) ∧ v4 = .int .i64 (i : Int) ∧ Aside0 (∀ x ∈ (bs s).take i, wordB x.toNat = true) ∧ Aside0 (Below w.heap.size w wr))
  case atStart => exact ⟨0, by omega, rfl, rfl, rfl, ⟨by simp⟩, HB1⟩
  case round =>
    clear HB1
    obtain ⟨i, hi, rfl, rfl, rfl, HW, HB⟩ := hrel
    by_cases hlt : i < s.size
    · have hlt' : decide (i < s.size) = true := by simpa using hlt
      cases hw : wordB (s[i].toNat : Int) with
      | false =>
        go_wp2_with (go_at_call 10; refine (word10 _ _).mono ?_; rintro e w' ⟨rfl, rfl⟩)
        go_ret
        exact ⟨rfl, HB.out⟩
      | true =>
        have HN := Aside0.mk (show dgL ((bs s).take (i + 1)) = (dgL ((bs s).take i) && (digitB (s[i].toNat : Int) || (((bs s).take i).isEmpty && s[i] == 45))) by rw [take_snoc hlt, dgL_snoc])
        have HW2 := Aside0.mk (show ∀ x ∈ (bs s).take (i + 1), wordB x.toNat = true by
          rw [take_snoc hlt]
          intro x hx
          rcases List.mem_append.1 hx with hx | hx
          · exact HW.out x hx
          · rw [List.mem_singleton.1 hx]; exact hw)
        cases hdg : dgL ((bs s).take i) with
        | false =>
          go_wp2_with (first | (go_at_call 10; refine (word10 _ _).mono ?_; rintro e w' ⟨rfl, rfl⟩) | (go_at_call 11; refine (digit11 _ _).mono ?_; rintro e w' ⟨rfl, rfl⟩))
          go_roundg (s.size - (i + 1))
          case measure => omega
          case rel => exact ⟨i + 1, by omega, rfl, by rw [HN.out, hdg]; rfl, rfl, HW2, HB⟩
        | true =>
          cases hd : digitB (s[i].toNat : Int) with
          | true =>
            go_wp2_with (first | (go_at_call 10; refine (word10 _ _).mono ?_; rintro e w' ⟨rfl, rfl⟩) | (go_at_call 11; refine (digit11 _ _).mono ?_; rintro e w' ⟨rfl, rfl⟩))
            go_roundg (s.size - (i + 1))
            case measure => omega
            case rel => exact ⟨i + 1, by omega, rfl, by rw [HN.out, hdg, hd]; rfl, rfl, HW2, HB⟩
          | false =>
            by_cases hi0 : i = 0
            · subst hi0
              have h45 : (s[0] == 45) = ((s[0].toNat : Int) == 45) := by
                rw [Bool.eq_iff_iff]
                simp only [beq_iff_eq]
                constructor
                · intro h; rw [h]; rfl
                · intro h; exact UInt8.toNat_inj.1 (by have : s[0].toNat = 45 := by omega
                                                       rw [this]; rfl)
              have HN2 := Aside0.mk (show dgL ((bs s).take 1) = ((s[0].toNat : Int) == 45) by rw [HN.out, hdg, hd, ← h45]; simp)
              clear h45
              go_wp2_with (first | (go_at_call 10; refine (word10 _ _).mono ?_; rintro e w' ⟨rfl, rfl⟩) | (go_at_call 11; refine (digit11 _ _).mono ?_; rintro e w' ⟨rfl, rfl⟩))
              go_roundg (s.size - 1)
              case measure => omega
              case rel => exact ⟨1, by omega, rfl, by rw [HN2.out], rfl, HW2, HB⟩
            · have hi0' : ((i : Int) == 0) = false := beq_eq_false_iff_ne.mpr (by omega)
              have HE := Aside0.mk (show ((bs s).take i).isEmpty = false by
                cases hb : (bs s).take i with
                | nil =>
                  have := congrArg List.length hb
                  rw [List.length_take, bs_len] at this
                  simp only [List.length_nil] at this
                  omega
                | cons a b => rfl)
              go_wp2_with (first | (go_at_call 10; refine (word10 _ _).mono ?_; rintro e w' ⟨rfl, rfl⟩) | (go_at_call 11; refine (digit11 _ _).mono ?_; rintro e w' ⟨rfl, rfl⟩))
              go_roundg (s.size - (i + 1))
              case measure => omega
              case rel => exact ⟨i + 1, by omega, rfl, by rw [HN.out, hdg, hd, HE.out]; rfl, rfl, HW2, HB⟩
    · obtain rfl : i = s.size := by omega
      have htk : (bs s).take s.size = s[0] :: (bs s).drop 1 := by rw [← starts_at h0, ← bs_len, List.take_length]
      rw [htk] at HW ⊢
      have hw0 := HW.out s[0] (by simp)
      have hwr : ∀ x ∈ (bs s).drop 1, wordB x.toNat = true := fun x hx => HW.out x (List.mem_cons_of_mem _ hx)
      have hbs := starts_at h0
      clear HW htk hlt
      have HGW := Aside0.mk (HG.out.below HB.out)
      have hst : startsB s[0] ((bs s).drop 1) = (digitB (s[0].toNat : Int) || (s[0] == 45 && digitB (headB ((bs s).drop 1)))) := rfl
      have h45 : (s[0] == 45) = ((s[0].toNat : Int) == 45) := by
        rw [Bool.eq_iff_iff]
        simp only [beq_iff_eq]
        constructor
        · intro h; rw [h]; rfl
        · intro h; exact UInt8.toNat_inj.1 (by have : s[0].toNat = 45 := by omega
                                               rw [this]; rfl)
      rw [h45] at hst
      clear h45
      cases hd0 : digitB (s[0].toNat : Int) with
      | true =>
        have hS : startsB s[0] ((bs s).drop 1) = true := by rw [hst, hd0]; rfl
        cases hdg : dgL (s[0] :: (bs s).drop 1) with
        | false =>
          have hr := words_wrong hbs (by omega) hw0 hwr hS hdg
          have HT := Aside0.mk hr.1
          have HPL := Aside0.mk hr.2
          clear hr hst hbs hw0 hwr HG hS
          go_wp2_with (first | (go_at_call 10; refine (word10 _ _).mono ?_; rintro e w' ⟨rfl, rfl⟩) | (go_at_call 11; refine (digit11 _ _).mono ?_; rintro e w' ⟨rfl, rfl⟩) | (go_at_call 7; (with_reducible refine (err73 s _ HGW.out HT.out).mono ?_); rintro e w2 ⟨rfl, hb2⟩; have HB2 := Aside0.mk (hb2.alloc (by have := hb2.size; omega) (Obj.cells #[.int .i64 73, .int .i64 0] 26)); clear hb2) | (go_at_call 12; (with_reducible refine (plain_known s _ (HGW.out.below HB2.out) _ HPL.out).mono ?_); rintro e w3 ⟨rfl, hb3⟩; have HB3 := Aside0.mk hb3; clear hb3))
          go_ret
          exact ⟨rfl, onB (onB HB.out HB2.out) HB3.out⟩
        | true =>
          obtain ⟨hpl, ⟨ht, h19⟩ | ⟨v, ht⟩⟩ := words_number hbs (by omega) hw0 hS hdg
          · have HT := Aside0.mk ht
            have HPL := Aside0.mk hpl
            have h19' : decide ((19 : Int) ≤ s.size) = true := by simp; omega
            clear ht hpl hst hbs hw0 hwr HG hS
            go_wp2_with (first | (go_at_call 10; refine (word10 _ _).mono ?_; rintro e w' ⟨rfl, rfl⟩) | (go_at_call 11; refine (digit11 _ _).mono ?_; rintro e w' ⟨rfl, rfl⟩) | (go_at_call 7; (with_reducible refine (err73 s _ HGW.out HT.out).mono ?_); rintro e w2 ⟨rfl, hb2⟩; have HB2 := Aside0.mk (hb2.alloc (by have := hb2.size; omega) (Obj.cells #[.int .i64 73, .int .i64 0] 26)); clear hb2) | (go_at_call 12; (with_reducible refine (plain_known s _ (HGW.out.below HB2.out) _ HPL.out).mono ?_); rintro e w3 ⟨rfl, hb3⟩; have HB3 := Aside0.mk hb3; clear hb3))
            go_ret
            exact ⟨rfl, onB (onB HB.out HB2.out) HB3.out⟩
          · have HT := Aside0.mk ht
            have HPL := Aside0.mk hpl
            clear ht hpl hst hbs hw0 hwr HG hS
            go_wp2_with (first | (go_at_call 10; refine (word10 _ _).mono ?_; rintro e w' ⟨rfl, rfl⟩) | (go_at_call 11; refine (digit11 _ _).mono ?_; rintro e w' ⟨rfl, rfl⟩) | (go_at_call 7; (with_reducible refine (one_row s _ HGW.out 3 v HT.out).mono ?_); rintro e w2 ⟨g, cap, rfl, hcap, hcell, hb2⟩; have HB2 := Aside0.mk (hb2.alloc (by have := hb2.size; omega) (Obj.cells #[.int .i64 0, .int .i64 0] 26)); have c0 := (hcell (Obj.cells #[.int .i64 0, .int .i64 0] 26)).1; have c1 := (hcell (Obj.cells #[.int .i64 0, .int .i64 0] 26)).2; clear hb2 hcell) | (go_at_call 12; (with_reducible refine (plain_known s _ (HGW.out.below HB2.out) _ HPL.out).mono ?_); rintro e w3 ⟨rfl, hb3⟩; have HB3 := Aside0.mk hb3; clear hb3))
            go_ret
            exact ⟨rfl, onB (onB HB.out HB2.out) HB3.out⟩
      | false =>
        by_cases h1 : 1 < s.size
        · have hgt1 : decide ((1 : Int) < s.size) = true := by simp; omega
          rw [head_at h1] at hst
          cases h45 : ((s[0].toNat : Int) == 45) with
          | false =>
            have hr := words_word hbs (by omega) hw0 hwr (by rw [hst, hd0, h45]; rfl)
            have HT := Aside0.mk hr.1
            have HPL := Aside0.mk hr.2
            clear hr hst hbs hw0 hwr HG
            go_wp2_with (first | (go_at_call 10; refine (word10 _ _).mono ?_; rintro e w' ⟨rfl, rfl⟩) | (go_at_call 11; refine (digit11 _ _).mono ?_; rintro e w' ⟨rfl, rfl⟩) | (go_at_call 7; (with_reducible refine (one_row s _ HGW.out 1 0 HT.out).mono ?_); rintro e w2 ⟨g, cap, rfl, hcap, hcell, hb2⟩; have HB2 := Aside0.mk (hb2.alloc (by have := hb2.size; omega) (Obj.cells #[.int .i64 0, .int .i64 0] 26)); have c0 := (hcell (Obj.cells #[.int .i64 0, .int .i64 0] 26)).1; have c1 := (hcell (Obj.cells #[.int .i64 0, .int .i64 0] 26)).2; clear hb2 hcell) | (go_at_call 12; (with_reducible refine (plain_known s _ (HGW.out.below HB2.out) _ HPL.out).mono ?_); rintro e w3 ⟨rfl, hb3⟩; have HB3 := Aside0.mk hb3; clear hb3))
            go_ret
            exact ⟨rfl, onB (onB HB.out HB2.out) HB3.out⟩
          | true =>
            cases hd1 : digitB (s[1].toNat : Int) with
            | false =>
              have hr := words_word hbs (by omega) hw0 hwr (by rw [hst, hd0, h45, hd1]; rfl)
              have HT := Aside0.mk hr.1
              have HPL := Aside0.mk hr.2
              clear hr hst hbs hw0 hwr HG
              go_wp2_with (first | (go_at_call 10; refine (word10 _ _).mono ?_; rintro e w' ⟨rfl, rfl⟩) | (go_at_call 11; refine (digit11 _ _).mono ?_; rintro e w' ⟨rfl, rfl⟩) | (go_at_call 7; (with_reducible refine (one_row s _ HGW.out 1 0 HT.out).mono ?_); rintro e w2 ⟨g, cap, rfl, hcap, hcell, hb2⟩; have HB2 := Aside0.mk (hb2.alloc (by have := hb2.size; omega) (Obj.cells #[.int .i64 0, .int .i64 0] 26)); have c0 := (hcell (Obj.cells #[.int .i64 0, .int .i64 0] 26)).1; have c1 := (hcell (Obj.cells #[.int .i64 0, .int .i64 0] 26)).2; clear hb2 hcell) | (go_at_call 12; (with_reducible refine (plain_known s _ (HGW.out.below HB2.out) _ HPL.out).mono ?_); rintro e w3 ⟨rfl, hb3⟩; have HB3 := Aside0.mk hb3; clear hb3))
              go_ret
              exact ⟨rfl, onB (onB HB.out HB2.out) HB3.out⟩
            | true =>
              have hS : startsB s[0] ((bs s).drop 1) = true := by rw [hst, hd0, h45, hd1]; rfl
              cases hdg : dgL (s[0] :: (bs s).drop 1) with
              | false =>
                have hr := words_wrong hbs (by omega) hw0 hwr hS hdg
                have HT := Aside0.mk hr.1
                have HPL := Aside0.mk hr.2
                clear hr hst hbs hw0 hwr HG hS
                go_wp2_with (first | (go_at_call 10; refine (word10 _ _).mono ?_; rintro e w' ⟨rfl, rfl⟩) | (go_at_call 11; refine (digit11 _ _).mono ?_; rintro e w' ⟨rfl, rfl⟩) | (go_at_call 7; (with_reducible refine (err73 s _ HGW.out HT.out).mono ?_); rintro e w2 ⟨rfl, hb2⟩; have HB2 := Aside0.mk (hb2.alloc (by have := hb2.size; omega) (Obj.cells #[.int .i64 73, .int .i64 0] 26)); clear hb2) | (go_at_call 12; (with_reducible refine (plain_known s _ (HGW.out.below HB2.out) _ HPL.out).mono ?_); rintro e w3 ⟨rfl, hb3⟩; have HB3 := Aside0.mk hb3; clear hb3))
                go_ret
                exact ⟨rfl, onB (onB HB.out HB2.out) HB3.out⟩
              | true =>
                obtain ⟨hpl, ⟨ht, h19⟩ | ⟨v, ht⟩⟩ := words_number hbs (by omega) hw0 hS hdg
                · have HT := Aside0.mk ht
                  have HPL := Aside0.mk hpl
                  have h19' : decide ((19 : Int) ≤ s.size) = true := by simp; omega
                  clear ht hpl hst hbs hw0 hwr HG hS
                  go_wp2_with (first | (go_at_call 10; refine (word10 _ _).mono ?_; rintro e w' ⟨rfl, rfl⟩) | (go_at_call 11; refine (digit11 _ _).mono ?_; rintro e w' ⟨rfl, rfl⟩) | (go_at_call 7; (with_reducible refine (err73 s _ HGW.out HT.out).mono ?_); rintro e w2 ⟨rfl, hb2⟩; have HB2 := Aside0.mk (hb2.alloc (by have := hb2.size; omega) (Obj.cells #[.int .i64 73, .int .i64 0] 26)); clear hb2) | (go_at_call 12; (with_reducible refine (plain_known s _ (HGW.out.below HB2.out) _ HPL.out).mono ?_); rintro e w3 ⟨rfl, hb3⟩; have HB3 := Aside0.mk hb3; clear hb3))
                  go_ret
                  exact ⟨rfl, onB (onB HB.out HB2.out) HB3.out⟩
                · have HT := Aside0.mk ht
                  have HPL := Aside0.mk hpl
                  clear ht hpl hst hbs hw0 hwr HG hS
                  go_wp2_with (first | (go_at_call 10; refine (word10 _ _).mono ?_; rintro e w' ⟨rfl, rfl⟩) | (go_at_call 11; refine (digit11 _ _).mono ?_; rintro e w' ⟨rfl, rfl⟩) | (go_at_call 7; (with_reducible refine (one_row s _ HGW.out 3 v HT.out).mono ?_); rintro e w2 ⟨g, cap, rfl, hcap, hcell, hb2⟩; have HB2 := Aside0.mk (hb2.alloc (by have := hb2.size; omega) (Obj.cells #[.int .i64 0, .int .i64 0] 26)); have c0 := (hcell (Obj.cells #[.int .i64 0, .int .i64 0] 26)).1; have c1 := (hcell (Obj.cells #[.int .i64 0, .int .i64 0] 26)).2; clear hb2 hcell) | (go_at_call 12; (with_reducible refine (plain_known s _ (HGW.out.below HB2.out) _ HPL.out).mono ?_); rintro e w3 ⟨rfl, hb3⟩; have HB3 := Aside0.mk hb3; clear hb3))
                  go_ret
                  exact ⟨rfl, onB (onB HB.out HB2.out) HB3.out⟩
        · have hgt1 : decide ((1 : Int) < s.size) = false := by simp; omega
          rw [head_none (by omega)] at hst
          have hr := words_word hbs (by omega) hw0 hwr (by rw [hst, hd0, show digitB 0 = false from rfl, Bool.and_false]; rfl)
          have HT := Aside0.mk hr.1
          have HPL := Aside0.mk hr.2
          clear hr hst hbs hw0 hwr HG
          go_wp2_with (first | (go_at_call 10; refine (word10 _ _).mono ?_; rintro e w' ⟨rfl, rfl⟩) | (go_at_call 11; refine (digit11 _ _).mono ?_; rintro e w' ⟨rfl, rfl⟩) | (go_at_call 7; (with_reducible refine (one_row s _ HGW.out 1 0 HT.out).mono ?_); rintro e w2 ⟨g, cap, rfl, hcap, hcell, hb2⟩; have HB2 := Aside0.mk (hb2.alloc (by have := hb2.size; omega) (Obj.cells #[.int .i64 0, .int .i64 0] 26)); have c0 := (hcell (Obj.cells #[.int .i64 0, .int .i64 0] 26)).1; have c1 := (hcell (Obj.cells #[.int .i64 0, .int .i64 0] 26)).2; clear hb2 hcell) | (go_at_call 12; (with_reducible refine (plain_known s _ (HGW.out.below HB2.out) _ HPL.out).mono ?_); rintro e w3 ⟨rfl, hb3⟩; have HB3 := Aside0.mk hb3; clear hb3))
          go_ret
          exact ⟨rfl, onB (onB HB.out HB2.out) HB3.out⟩
end Go.Proofs.YtdffbaikdibalaaDoor.T

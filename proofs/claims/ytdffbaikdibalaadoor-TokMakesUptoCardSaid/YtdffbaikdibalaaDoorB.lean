/- (*scan).skip, walked: it passes over what 'skipL' says. -/
import Derived.Test.YtdffbaikdibalaaDoorA
import Derived.Test.YtdffbaikdibalaaDoorShelf
namespace Go.Proofs.YtdffbaikdibalaaDoor.T
set_option linter.unusedVariables false
set_option linter.unusedSimpArgs false
open Go.RowKit Go.Proofs.YtdffbaikdibalaaDoorW.PrintWords

theorem lineEnd_of (l : Bs) : (0 ≤ Lib.indexByte l 10 → (lineEnd l : Int) = Lib.indexByte l 10) ∧ (Lib.indexByte l 10 < 0 → lineEnd l = l.length) := by
  induction l with
  | nil => exact ⟨fun h => by simp [Lib.indexByte] at h, fun _ => rfl⟩
  | cons c r ih =>
    have hg := Lib.indexByte_ge r 10
    unfold Lib.indexByte lineEnd
    by_cases hc : c = 10
    · simp [hc]
    · simp only [beq_iff_eq, hc, if_false]
      by_cases h1 : Lib.indexByte r 10 = -1
      · simp [h1, ih.2 (by omega)]
      · have := ih.1 (by omega)
        simp [h1]
        omega
theorem bs_extract (s : ByteArray) (j : Nat) : bs (s.extract j s.size) = (bs s).drop j := by
  show (s.extract j s.size).data.toList = _
  rw [Lib.extract_data]
  rw [List.take_of_length_le]
  rw [List.length_drop, bs_len]
  omega
theorem size_extract_to (s : ByteArray) (j : Nat) (h : j ≤ s.size) : (s.extract j s.size).size = s.size - j := by
  simp [ByteArray.size_extract]

theorem extract_zero (s : ByteArray) (j : Nat) (hj : j < s.size) (h : 0 < (s.extract j s.size).size) : (s.extract j s.size)[0] = s[j] := by
  simp [ByteArray.getElem_extract]
theorem hasPrefix_rest (s : ByteArray) (j : Nat) (p : Bs) (b : Bool) (h : Lib.hasPrefix ((bs s).drop j) p = b) (w : World) :
    Calls Tryd.prog 16 #[.string (s.extract j s.size), .string ⟨p.toArray⟩] w fun e w' => e = .returned (.bool b) ∧ w = w' :=
  (Tryd.strings_HasPrefix _ _ _).mono fun e w' ⟨he, hw⟩ => ⟨by rw [he, ← h, ← bs_extract], hw.symm⟩
theorem indexByte_rest (s : ByteArray) (j : Nat) (n : Int) (h : Lib.indexByte ((bs s).drop j) 10 = n) (w : World) :
    Calls Tryd.prog 17 #[.string (s.extract j s.size), .int .u8 10] w fun e w' => e = .returned (.int .i64 n) ∧ w = w' :=
  (Tryd.strings_IndexByte _ _ _).mono fun e w' ⟨he, hw⟩ => ⟨by rw [he, ← h, ← bs_extract]; rfl, hw.symm⟩
theorem index_rest (s : ByteArray) (j : Nat) (n m : Int) (h : Lib.index ((bs s).drop (j + 2)) [42, 47] = n) (hs : s.size ≤ 4096) (h2 : 2 ≤ s.size - j) (w : World) (hm : w.cell? ⟨0, 0, none⟩ = some (.int .i64 m)) :
    Calls Tryd.prog 18 #[.string ((s.extract j s.size).extract 2 (s.size - j)), .string ⟨#[42, 47]⟩] w fun e w' => e = .returned (.int .i64 n) ∧ w = w' :=
  (Tryd.strings_Index _ _ m _ (by simp [ByteArray.size_extract]; omega) hm).mono fun e w' ⟨he, hw⟩ => ⟨by
    rw [he, ← h]
    have : ((s.extract j s.size).extract 2 (s.size - j)).data.toList = (bs s).drop (j + 2) := by
      rw [Lib.extract_data, show (s.extract j s.size).data.toList = _ from bs_extract s j, List.drop_drop, List.take_of_length_le]
      rw [List.length_drop, bs_len]
      omega
    rw [this], hw.symm⟩
theorem lineEnd_le (l : Bs) : lineEnd l ≤ l.length := by
  induction l with
  | nil => exact Nat.le_refl _
  | cons c r ih => unfold lineEnd; split <;> simp <;> omega
theorem hp_head {l : Bs} {c : UInt8} {r : Bs} (h : l = c :: r) (hp : Lib.hasPrefix l [47, 47] = true) : ¬ c = 10 := by
  subst h
  unfold Lib.hasPrefix at hp
  simp [List.isPrefixOf] at hp
  rintro rfl
  exact absurd hp.1 (by decide)
theorem hp_two {l : Bs} {a b : UInt8} (hp : Lib.hasPrefix l [a, b] = true) : 2 ≤ l.length := by
  unfold Lib.hasPrefix at hp
  have := (List.isPrefixOf_iff_prefix.1 hp).length_le
  simpa using this
theorem skip_line {l : Bs} {c : UInt8} {r : Bs} (h : l = c :: r) (hb : blankB (c.toNat : Int) = false) (hp : Lib.hasPrefix l [47, 47] = true) (hc : ¬ c = 10) :
    skipL l = ((skipL (l.drop (lineEnd l))).1 + lineEnd l, (skipL (l.drop (lineEnd l))).2) := by
  subst h
  rw [skipL, hb]
  simp only [hp, if_true, lineEnd, if_neg hc, List.drop_succ_cons]
  simp
theorem skip_none {l : Bs} {c : UInt8} {r : Bs} (h : l = c :: r) (hb : blankB (c.toNat : Int) = false) (hp : Lib.hasPrefix l [47, 47] = false) (hq : Lib.hasPrefix l [47, 42] = false) :
    skipL l = (0, false) := by
  subst h
  rw [skipL, hb]
  simp [hp, hq]
theorem drop2_cons {l : Bs} {c : UInt8} {r : Bs} (h : l = c :: r) : r.drop 1 = l.drop 2 := by subst h; rfl
theorem skip_open {l : Bs} {c : UInt8} {r : Bs} (h : l = c :: r) (hb : blankB (c.toNat : Int) = false) (hp : Lib.hasPrefix l [47, 47] = false) (hq : Lib.hasPrefix l [47, 42] = true) (hn : Lib.index (l.drop 2) [42, 47] = -1) :
    skipL l = (0, true) := by
  rw [← drop2_cons h] at hn
  subst h
  rw [skipL, hb]
  rw [List.drop_one] at hn
  simp [hp, hq, hn]
theorem skip_rem {l : Bs} {c : UInt8} {r : Bs} (h : l = c :: r) (hb : blankB (c.toNat : Int) = false) (hp : Lib.hasPrefix l [47, 47] = false) (hq : Lib.hasPrefix l [47, 42] = true) (n : Nat) (hn : Lib.index (l.drop 2) [42, 47] = (n : Int)) :
    skipL l = ((skipL (l.drop (n + 4))).1 + (n + 4), (skipL (l.drop (n + 4))).2) := by
  rw [← drop2_cons h] at hn
  subst h
  rw [skipL, hb]
  rw [List.drop_one] at hn
  simp [hp, hq, hn, show ¬ (n : Int) < 0 by omega]
theorem index_le (l sub : Bs) (n : Nat) (h : Lib.index l sub = (n : Int)) : n + sub.length ≤ l.length := by
  induction l generalizing n with
  | nil =>
    unfold Lib.index at h
    split at h
    · rename_i he
      have : sub = [] := by simpa using he
      subst this
      simp at h ⊢
      omega
    · omega
  | cons b r ih =>
    unfold Lib.index at h
    split at h
    · rename_i hp
      have := (List.isPrefixOf_iff_prefix.1 hp).length_le
      have h0 : n = 0 := by omega
      subst h0
      simpa using this
    · split at h
      · omega
      · have hg := Lib.index_ge r sub
        rename_i h1
        have h1 : ¬ Lib.index r sub = -1 := by simpa using h1
        have := ih (n - 1) (by omega)
        simp only [List.length_cons]
        omega
theorem scan_ne0 {w : World} {g : Nat} {s : ByteArray} {i c f m : Int} (h : Scan w g s i c f) (hm : w.cell? ⟨0, 0, none⟩ = some (.int .i64 m)) : some 0 ≠ some g := by
  rintro h0
  injection h0 with h0
  subst h0
  rw [h.c0] at hm
  cases hm
/-- What skip leaves. -/
def Skipped (w : World) (g : Nat) (s : ByteArray) (i : Nat) (c f : Int) : Prop :=
  Scan w g s ((i + (skipL ((bs s).drop i)).1 : Nat) : Int) (if (skipL ((bs s).drop i)).2 then 71 else c) (if (skipL ((bs s).drop i)).2 then ((i + (skipL ((bs s).drop i)).1 : Nat) : Int) else f)
theorem Skipped.of {w : World} {g : Nat} {s : ByteArray} {i j : Nat} {c f : Int} (h : Scan w g s j c f) (h1 : skipL ((bs s).drop j) = (0, false)) (h2 : j + (skipL ((bs s).drop j)).1 = i + (skipL ((bs s).drop i)).1 ∧ (skipL ((bs s).drop j)).2 = (skipL ((bs s).drop i)).2) : Skipped w g s i c f := by
  unfold Skipped
  rw [← h2.1, ← h2.2, h1]
  exact h

set_option maxRecDepth 100000 in
set_option maxHeartbeats 2000000 in
theorem skip_any (g : Nat) (s : ByteArray) (i : Nat) (c f m : Int) (w : World) (h : Scan w g s i c f) (hi : i ≤ s.size) (hs : s.size ≤ 4096) (hm : w.cell? ⟨0, 0, none⟩ = some (.int .i64 m)) :
    Calls Tryd.prog 13 #[.pointer (some ⟨g, 0, none⟩)] w fun e w' => e = .returned (.tuple #[]) ∧
      Skipped w' g s i c f ∧ w.grownBy w' (some g) := by
  have H := Aside0.mk h
  have HM := Aside0.mk hm
  clear h hm
  go_enter Tryd.func13, Tryd.ntmps13
  go_wp2
  go_loopg [] (s.size - i) (fun k wr => ∃ j : Nat, j ≤ s.size ∧ k = s.size - j ∧ Aside0 (Scan wr g s j c f) ∧ Aside0 (j + (skipL ((bs s).drop j)).1 = i + (skipL ((bs s).drop i)).1 ∧ (skipL ((bs s).drop j)).2 = (skipL ((bs s).drop i)).2) ∧ Aside0 (w.grownBy wr (some g)))
  case atStart => exact ⟨i, hi, rfl, H, ⟨rfl, rfl⟩, ⟨grefl _ _⟩⟩
  case round =>
    obtain ⟨j, hj, rfl, hS, hW, hG⟩ := hrel
    have g0 := hS.out.c0
    have g1 := hS.out.c1
    have f1 := hS.out.fz 1
    by_cases hlt : j < s.size
    · have hlt' : decide (j < s.size) = true := by simpa using hlt
      have HD := Aside0.mk (drop_at hlt)
      have hx : ∀ h, ((s.extract j s.size)[0]'h).toNat = s[j].toNat := fun h => by rw [extract_zero _ _ hlt]
      by_cases hb : blankB (s[j].toNat : Int) = true
      · go_wp2
        go_quiet (fail)
        go_wp2
        go_quiet (fail)
        go_wp2_with (go_at_call 15; refine (blank_any _ _).mono ?_; rintro e w1 ⟨rfl, rfl⟩)
        go_roundg (s.size - (j + 1))
        case measure => omega
        case rel =>
          refine ⟨j + 1, by omega, rfl, ⟨(hS.out.drewN _).at_ _⟩, ⟨?_⟩, ⟨gset (gdrewN hG.out _) _ _⟩⟩
          rw [← hW.out.1, ← hW.out.2, HD.out, skipL]
          simp only [hb, if_true]
          exact ⟨by omega, trivial⟩
      · have hb' : blankB (s[j].toNat : Int) = false := by simpa using hb
        by_cases hp : Lib.hasPrefix ((bs s).drop j) [47, 47] = true
        · have hc := hp_head HD.out hp
          rcases Int.lt_or_le (Lib.indexByte ((bs s).drop j) 10) 0 with hn | hn
          · have HL := Aside0.mk ((lineEnd_of ((bs s).drop j)).2 hn)
            have hn : Lib.indexByte ((bs s).drop j) 10 = -1 := by have := Lib.indexByte_ge ((bs s).drop j) 10; omega
            have HN := Aside0.mk hn
            have HP := Aside0.mk hp
            have HC := Aside0.mk hc
            clear hn hp hc
            go_wp2
            go_quiet (fail)
            go_wp2
            go_quiet (fail)
            go_wp2_with (first | (go_at_call 15; refine (blank_any _ _).mono ?_; rintro e w1 ⟨rfl, rfl⟩) | (go_at_call 16; (with_reducible refine (hasPrefix_rest s j [47, 47] true HP.out _).mono ?_); rintro e w1 ⟨rfl, rfl⟩) | (go_at_call 16; (with_reducible refine (hasPrefix_rest s j [47, 42] false hq _).mono ?_); rintro e w1 ⟨rfl, rfl⟩) | (go_at_call 17; refine (indexByte_rest s j (-1) HN.out _).mono ?_; rintro e w1 ⟨rfl, rfl⟩) | (go_at_call 18; refine (index_rest s j (-1) m HN.out hs hlt2 _ (by exact HM2.out)).mono ?_; rintro e w1 ⟨rfl, rfl⟩) | (go_at_call 19; refine (wrong_any g s j c f _ _ _ (hS.out.drewN _)).mono ?_; rintro e w1 ⟨rfl, hS1, hG1⟩))
            go_roundg (s.size - s.size)
            case measure => omega
            case rel =>
              refine ⟨s.size, by omega, rfl, ⟨(hS.out.drewN _).at_ _⟩, ⟨?_⟩, ⟨gset (gdrewN hG.out _) _ _⟩⟩
              rw [← hW.out.1, ← hW.out.2, drop_end (Nat.le_refl _), skip_line HD.out hb' HP.out HC.out, HL.out, List.length_drop, bs_len, List.drop_drop, drop_end (by omega)]
              unfold skipL
              exact ⟨by simp; omega, rfl⟩
          · obtain ⟨n, hn⟩ := Int.eq_ofNat_of_zero_le hn
            have hl := (lineEnd_of ((bs s).drop j)).1 (by omega)
            have hle : lineEnd ((bs s).drop j) ≤ ((bs s).drop j).length := lineEnd_le _
            rw [List.length_drop, bs_len] at hle
            have hnn : lineEnd ((bs s).drop j) = n := by omega
            have hnj : j + n ≤ s.size := by omega
            have h1 : 1 ≤ n := by
              rw [← hnn, HD.out, lineEnd, if_neg hc]
              omega
            have HL := Aside0.mk hnn
            have HN := Aside0.mk hn
            have HP := Aside0.mk hp
            have HC := Aside0.mk hc
            clear hn hp hc hl hle hnn
            go_wp2
            go_quiet (fail)
            go_wp2
            go_quiet (fail)
            go_wp2_with (first | (go_at_call 15; refine (blank_any _ _).mono ?_; rintro e w1 ⟨rfl, rfl⟩) | (go_at_call 16; (with_reducible refine (hasPrefix_rest s j [47, 47] true HP.out _).mono ?_); rintro e w1 ⟨rfl, rfl⟩) | (go_at_call 16; (with_reducible refine (hasPrefix_rest s j [47, 42] false hq _).mono ?_); rintro e w1 ⟨rfl, rfl⟩) | (go_at_call 17; refine (indexByte_rest s j (n : Int) HN.out _).mono ?_; rintro e w1 ⟨rfl, rfl⟩) | (go_at_call 18; refine (index_rest s j (n : Int) m HN.out hs hlt2 _ (by exact HM2.out)).mono ?_; rintro e w1 ⟨rfl, rfl⟩) | (go_at_call 19; refine (wrong_any g s j c f _ _ _ (hS.out.drewN _)).mono ?_; rintro e w1 ⟨rfl, hS1, hG1⟩))
            go_roundg (s.size - (j + n))
            case measure => omega
            case rel =>
              refine ⟨j + n, by omega, rfl, ⟨(hS.out.drewN _).at_ _⟩, ⟨?_⟩, ⟨gset (gdrewN hG.out _) _ _⟩⟩
              rw [← hW.out.1, ← hW.out.2, skip_line HD.out hb' HP.out HC.out, HL.out, List.drop_drop]
              exact ⟨by omega, rfl⟩
        · have hp' : Lib.hasPrefix ((bs s).drop j) [47, 47] = false := by simpa using hp
          by_cases hq : Lib.hasPrefix ((bs s).drop j) [47, 42] = true
          · have hlt2 := hp_two hq
            rw [List.length_drop, bs_len] at hlt2
            have HM2 := Aside0.mk (hG.out.cell HM.out (scan_ne0 H.out HM.out))
            rcases Int.lt_or_le (Lib.index ((bs s).drop (j + 2)) [42, 47]) 0 with hn | hn
            · have hn : Lib.index ((bs s).drop (j + 2)) [42, 47] = -1 := by have := Lib.index_ge ((bs s).drop (j + 2)) [42, 47]; omega
              have HN := Aside0.mk hn
              have HP := Aside0.mk hp'
              have HQ := Aside0.mk hq
              clear hn hp hp' hq
              go_wp2
              go_quiet (fail)
              go_wp2
              go_quiet (fail)
              go_wp2_with (first | (go_at_call 15; refine (blank_any _ _).mono ?_; rintro e w1 ⟨rfl, rfl⟩) | (go_at_call 16; (with_reducible refine (hasPrefix_rest s j [47, 47] false HP.out _).mono ?_); rintro e w1 ⟨rfl, rfl⟩) | (go_at_call 16; (with_reducible refine (hasPrefix_rest s j [47, 42] true HQ.out _).mono ?_); rintro e w1 ⟨rfl, rfl⟩) | (go_at_call 17; refine (indexByte_rest s j (-1) HN.out _).mono ?_; rintro e w1 ⟨rfl, rfl⟩) | (go_at_call 18; refine (index_rest s j (-1) m HN.out hs hlt2 _ (by exact HM2.out)).mono ?_; rintro e w1 ⟨rfl, rfl⟩) | (go_at_call 19; refine (wrong_any g s j c f _ _ _ (hS.out.drewN _)).mono ?_; rintro e w1 ⟨rfl, hS1, hG1⟩))
              refine bodyPost_ret (v := .tuple #[]) (results_none Tryd.results13 ..) rfl ⟨rfl, ?_, gtrans (gdrewN hG.out _) hG1⟩
              unfold Skipped
              rw [← hW.out.1, ← hW.out.2, skip_open HD.out hb' HP.out HQ.out (by rw [List.drop_drop, HN.out])]
              exact hS1
            · obtain ⟨n, hn⟩ := Int.eq_ofNat_of_zero_le hn
              have hle := index_le _ _ _ hn
              simp only [List.length_drop, bs_len, List.length_cons, List.length_nil] at hle
              have hnj : j + (n + 4) ≤ s.size := by omega
              have HN := Aside0.mk hn
              have HP := Aside0.mk hp'
              have HQ := Aside0.mk hq
              clear hn hp hp' hq hle
              go_wp2
              go_quiet (fail)
              go_wp2
              go_quiet (fail)
              go_wp2_with (first | (go_at_call 15; refine (blank_any _ _).mono ?_; rintro e w1 ⟨rfl, rfl⟩) | (go_at_call 16; (with_reducible refine (hasPrefix_rest s j [47, 47] false HP.out _).mono ?_); rintro e w1 ⟨rfl, rfl⟩) | (go_at_call 16; (with_reducible refine (hasPrefix_rest s j [47, 42] true HQ.out _).mono ?_); rintro e w1 ⟨rfl, rfl⟩) | (go_at_call 17; refine (indexByte_rest s j (n : Int) HN.out _).mono ?_; rintro e w1 ⟨rfl, rfl⟩) | (go_at_call 18; refine (index_rest s j (n : Int) m HN.out hs hlt2 _ (by exact HM2.out)).mono ?_; rintro e w1 ⟨rfl, rfl⟩) | (go_at_call 19; refine (wrong_any g s j c f _ _ _ (hS.out.drewN _)).mono ?_; rintro e w1 ⟨rfl, hS1, hG1⟩))
              go_roundg (s.size - (j + (n + 4)))
              case measure => omega
              case rel =>
                refine ⟨j + (n + 4), by omega, rfl, ⟨(hS.out.drewN _).at_ _⟩, ⟨?_⟩, ⟨gset (gdrewN hG.out _) _ _⟩⟩
                rw [← hW.out.1, ← hW.out.2, skip_rem HD.out hb' HP.out HQ.out n (by rw [List.drop_drop, HN.out]), List.drop_drop]
                exact ⟨by omega, rfl⟩
          · have hq' : Lib.hasPrefix ((bs s).drop j) [47, 42] = false := by simpa using hq
            have HP := Aside0.mk hp'
            have HQ := Aside0.mk hq'
            clear hp hp' hq hq'
            go_wp2
            go_quiet (fail)
            go_wp2
            go_quiet (fail)
            go_wp2_with (first | (go_at_call 15; refine (blank_any _ _).mono ?_; rintro e w1 ⟨rfl, rfl⟩) | (go_at_call 16; (with_reducible refine (hasPrefix_rest s j [47, 47] false HP.out _).mono ?_); rintro e w1 ⟨rfl, rfl⟩) | (go_at_call 16; (with_reducible refine (hasPrefix_rest s j [47, 42] false HQ.out _).mono ?_); rintro e w1 ⟨rfl, rfl⟩) | (go_at_call 17; refine (indexByte_rest s j (-1) HN.out _).mono ?_; rintro e w1 ⟨rfl, rfl⟩) | (go_at_call 18; refine (index_rest s j (-1) m HN.out hs hlt2 _ (by exact HM2.out)).mono ?_; rintro e w1 ⟨rfl, rfl⟩) | (go_at_call 19; refine (wrong_any g s j c f _ _ _ (hS.out.drewN _)).mono ?_; rintro e w1 ⟨rfl, hS1, hG1⟩))
            exact bodyPost_ret (v := .tuple #[]) (results_none Tryd.results13 ..) rfl ⟨rfl, Skipped.of (hS.out.drewN _) (skip_none HD.out hb' HP.out HQ.out) hW.out, gdrewN hG.out _⟩
    · have hlt' : decide (j < s.size) = false := by simpa using hlt
      have HD := Aside0.mk (drop_end (s := s) (i := j) (by omega))
      go_wp2
      go_quiet (fail)
      go_wp2
      go_end0
      exact ⟨rfl, Skipped.of (hS.out.drewN _) (by rw [HD.out]; unfold skipL; rfl) hW.out, gdrewN hG.out _⟩
end Go.Proofs.YtdffbaikdibalaaDoor.T

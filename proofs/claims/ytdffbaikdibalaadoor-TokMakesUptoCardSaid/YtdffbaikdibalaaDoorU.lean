/- TokMakes, walked. -/
import Derived.Test.YtdffbaikdibalaaDoorS
import Derived.Test.YtdffbaikdibalaaDoorK
namespace Go.Proofs.YtdffbaikdibalaaDoor.T
set_option linter.unusedVariables false
set_option linter.unusedSimpArgs false
open Go.RowKit Go.Proofs.YtdffbaikdibalaaDoorW.PrintWords
theorem two_row (s D : ByteArray) (n : Int) (w : World) (h : Glob w) (ht : ∃ k, tokensOf s = .ok [⟨3, D, n, 0⟩, ⟨3, D, n, k⟩]) :
    Calls Tryd.prog 7 #[.string s] w fun e w' => ∃ g cap, e = .returned (.tuple #[.slice (some ⟨g, 0, none⟩) 2 cap, .agg #[.int .i64 0, .int .i64 0]]) ∧ 2 ≤ cap ∧ (∀ o, (w'.alloc o).cell? ⟨g, 2, none⟩ = some (.int .i64 n) ∧ (w'.alloc o).cell? ⟨g, 4, none⟩ = some (.int .i64 3) ∧ (w'.alloc o).cell? ⟨g, 5, none⟩ = some (.string D)) ∧ Below w.heap.size w w' := by
  obtain ⟨k, ht⟩ := ht
  exact (tokens_row s w h _ ht (by simp)).mono fun e w' ⟨g, cap, he, hc, _, hL, hb⟩ => ⟨g, cap, he, hc, fun o => ⟨by simpa using ((hL.alloc o) 0 _ rfl).2.2.1, by simpa using ((hL.alloc o) 1 _ rfl).1, by simpa using ((hL.alloc o) 1 _ rfl).2.1⟩, hb⟩
theorem err_at (s : ByteArray) (w : World) (h : Glob w) (co p : Nat) (ht : tokensOf s = .error (co, p)) :
    Calls Tryd.prog 7 #[.string s] w fun e w' => e = .returned (.tuple #[.slice none 0 0, .agg #[.int .i64 co, .int .i64 p]]) ∧ Below w.heap.size w w' := tokens_err s w h co p ht
theorem text_row (z s : ByteArray) (w : World) (h : Glob w) (ht : tokensOf z = .ok [⟨2, s, 0, 0⟩]) :
    Calls Tryd.prog 7 #[.string z] w fun e w' => ∃ g cap, e = .returned (.tuple #[.slice (some ⟨g, 0, none⟩) 1 cap, .agg #[.int .i64 0, .int .i64 0]]) ∧ 1 ≤ cap ∧ (∀ o, (w'.alloc o).cell? ⟨g, 0, none⟩ = some (.int .i64 2) ∧ (w'.alloc o).cell? ⟨g, 1, none⟩ = some (.string s)) ∧ Below w.heap.size w w' :=
  (tokens_row z w h _ ht (by simp)).mono fun e w' ⟨g, cap, he, hc, _, hL, hb⟩ => ⟨g, cap, he, hc, fun o => ⟨by simpa using ((hL.alloc o) 0 _ rfl).1, by simpa using ((hL.alloc o) 0 _ rfl).2.1⟩, hb⟩
def qn (q : Bs) : List Int := 34 :: q.map fun c => (c.toNat : Int)
theorem qn_len (q : Bs) : (qn q).length = q.length + 1 := by simp [qn]
theorem qn_app (q e : Bs) : qn (q ++ e) = qn q ++ e.map fun c => (c.toNat : Int) := by simp [qn]
theorem qn_bytes (q : Bs) : bs (strOfNums (qn q ++ [34])) = 34 :: (q ++ [34]) := by
  have key : ∀ l : Bs, (l.map fun c => (c.toNat : Int)).map (fun n => UInt8.ofNat n.toNat) = l := by
    intro l
    induction l with
    | nil => rfl
    | cons c r ih => rw [List.map_cons, List.map_cons, ih]; simp
  unfold bs
  rw [strOfNums_data]
  unfold qn
  rw [List.cons_append, List.map_cons, List.map_append, key]
  rfl
theorem byte_is {c : UInt8} {k : Nat} (hk : k < 256) (h : ((c.toNat : Int) == (k : Int)) = true) : c = UInt8.ofNat k := by
  have : c.toNat = k := by rw [beq_iff_eq] at h; omega
  rw [← this]; simp
theorem enc_else {c : UInt8} (h1 : c.toNat ≠ 10) (h2 : c.toNat ≠ 9) (h3 : c.toNat ≠ 34) (h4 : c.toNat ≠ 92) (h5 : ¬ c.toNat < 32) (h6 : c.toNat ≠ 127) : encC c = some [c] := by
  unfold encC
  rw [if_neg (fun h => h1 (by rw [h]; rfl)), if_neg (fun h => h2 (by rw [h]; rfl)), if_neg (fun h => h.elim (fun h => h3 (by rw [h]; rfl)) (fun h => h4 (by rw [h]; rfl))), if_neg (fun h => h.elim h5 (fun h => h6 (by rw [h]; rfl)))]
theorem byte_not {c : UInt8} {k : Nat} (h : ((c.toNat : Int) == (k : Int)) = false) : c.toNat ≠ k := by
  rw [beq_eq_false_iff_ne] at h; omega
set_option maxRecDepth 100000 in
set_option maxHeartbeats 2000000 in
theorem makes_any (n : Int) (text : ByteArray) (w : World) (h : Glob w) (hn1 : -9223372036854775808 ≤ n) (hn2 : n ≤ 9223372036854775807) (hts : text.size ≤ 1048576) :
    Calls Tryd.prog 4 #[.int .i64 n, .string text] w fun e w' => e = .returned (.bool true) ∧ Below w.heap.size w w' := by
  obtain ⟨D, hD, hDs, hDC⟩ := decimal_any n hn1 hn2
  have HDC := Aside0.mk hDC
  have HZ1 : Aside0 (∃ k, tokensOf (D ++ ⟨#[32]⟩ ++ D) = .ok [⟨3, D, n, 0⟩, ⟨3, D, n, k⟩]) := ⟨_, dec_twice hn1 hn2 hD (by rw [bs_append, bs_append, hD]; simp [bs]) (by rw [ByteArray.size_append, ByteArray.size_append, show (⟨#[32]⟩ : ByteArray).size = 1 from rfl]; omega)⟩
  have HZ2 : Aside0 (tokensOf (⟨#[120, 32]⟩ ++ D ++ ⟨#[121]⟩) = .error (73, 2)) := ⟨dec_then hn1 hn2 (by rw [bs_append, bs_append, hD]; simp [bs]) (by rw [ByteArray.size_append, ByteArray.size_append, show (⟨#[120, 32]⟩ : ByteArray).size = 2 from rfl, show (⟨#[121]⟩ : ByteArray).size = 1 from rfl]; omega)⟩
  have HG := Aside0.mk h
  clear h hD hDC
  go_enter Tryd.func4, Tryd.ntmps4
  go_wp2_with (first | (go_at_call 6; (with_reducible refine (alive_true _ HG.out).mono ?_); rintro e w1 ⟨rfl, hb1⟩; have HB1 := Aside0.mk hb1; clear hb1) | (go_at_call 9; (with_reducible refine (HDC.out _).mono ?_); rintro e w2 ⟨rfl, hb2⟩; have HB2 := Aside0.mk (onB HB1.out hb2); clear hb2 HB1) | (go_at_call 7; (with_reducible refine (two_row _ D n _ (HG.out.below HB2.out) HZ1.out).mono ?_); rintro e w3 ⟨g, cap, rfl, hcap, hcell, hb3⟩; have HB3 := Aside0.mk (onB HB2.out (hb3.alloc (by have := hb3.size; omega) (Obj.cells #[.int .i64 0, .int .i64 0] 26))); have HW3 := Aside0.mk (hb3.size); have p0 := (hcell (Obj.cells #[.int .i64 0, .int .i64 0] 26)).1; have p1 := (hcell (Obj.cells #[.int .i64 0, .int .i64 0] 26)).2.1; have p2 := (hcell (Obj.cells #[.int .i64 0, .int .i64 0] 26)).2.2; have p3 := (cell_alloc2 w3 (.int .i64 0) (.int .i64 0) 26).1; clear hb3 hcell) | (go_at_call 7; (with_reducible refine (err_at _ _ (HG.out.below HB3.out) 73 2 HZ2.out).mono ?_); rintro e w4 ⟨rfl, hb4⟩; have HB4 := Aside0.mk (onB HB3.out (hb4.alloc (by have := hb4.size; omega) (Obj.cells #[.int .i64 73, .int .i64 2] 26))); have hb5 := hb4.alloc (by have := hb4.size; omega) (Obj.cells #[.int .i64 73, .int .i64 2] 26); have q0 := pw_cell_below hb5 p0; have q1 := pw_cell_below hb5 p1; have q2 := pw_cell_below hb5 p2; have q3 := pw_cell_below hb5 p3; have q4 := (cell_alloc2 w4 (.int .i64 73) (.int .i64 2) 26).1; have q5 := (cell_alloc2 w4 (.int .i64 73) (.int .i64 2) 26).2; clear hb4 hb5 p0 p1 p2 p3))
  go_loopg [10, 11] (text.size) (fun k v10 v11 wr => ∃ (i : Nat) (q : Bs), i ≤ text.size ∧ k = text.size - i ∧ v11 = .int .i64 (i : Int) ∧ Aside0 (encL ((bs text).take i) = some q) ∧ q.length ≤ 2 * i ∧ Aside0 (wr.ownsRow w.heap.size 5 1 v10 (qn q).length (nums .u8 (qn q))) ∧ Aside0 (Below w.heap.size w wr))
  case atStart => exact ⟨0, [], by omega, rfl, rfl, ⟨rfl⟩, by simp, ⟨by have := own_lit _ w.heap.size 5 .u8 [34] HB4.out.size (by decide); simpa [nums, qn] using this⟩, ⟨HB4.out.alloc HB4.out.size _⟩⟩
  case round =>
    clear HB4 HB3 HB2 HW3 HZ1 HZ2 HDC
    obtain ⟨i, q, hi, rfl, rfl, HQ, hql, HO, HB⟩ := hrel
    have hbase := HB.out.size
    by_cases hlt : i < text.size
    · have hlt' : decide (i < text.size) = true := by simpa using hlt
      cases h10 : ((text[i].toNat : Int) == 10) with
      | true =>
        have hc := byte_is (k := 10) (by decide) h10
        have HE := Aside0.mk (show encL ((bs text).take (i + 1)) = some (q ++ [92, 110]) by rw [take_snoc hlt]; exact enc_snoc _ _ _ _ HQ.out (by rw [hc]; rfl))
        go_wp2_with (first | (at_builtin; refine append_two (w0 := w) w.heap.size rfl (.tmp 92) (.tmp 93) 34 5 .u8 1 rfl Tryd.underlying34 infoByte (by decide) _ (qn q) 92 110 rfl rfl HO.out HB.out hbase (by rw [qn_len]; omega) ?_; intro v1 w5 HO1 HB1; have HO1 := Aside0.mk HO1; have HB1 := Aside0.mk HB1))
        go_roundg (text.size - (i + 1))
        case measure => omega
        case rel => exact ⟨i + 1, q ++ [92, 110], by omega, rfl, rfl, HE, by rw [List.length_append]; simp; omega, ⟨by rw [qn_app]; exact HO1.out⟩, HB1⟩
      | false =>
        have n10 := byte_not (k := 10) h10
        cases h9 : ((text[i].toNat : Int) == 9) with
        | true =>
          have hc := byte_is (k := 9) (by decide) h9
          have HE := Aside0.mk (show encL ((bs text).take (i + 1)) = some (q ++ [92, 116]) by rw [take_snoc hlt]; exact enc_snoc _ _ _ _ HQ.out (by rw [hc]; rfl))
          go_wp2_with (first | (at_builtin; refine append_two (w0 := w) w.heap.size rfl (.tmp 98) (.tmp 99) 34 5 .u8 1 rfl Tryd.underlying34 infoByte (by decide) _ (qn q) 92 116 rfl rfl HO.out HB.out hbase (by rw [qn_len]; omega) ?_; intro v1 w5 HO1 HB1; have HO1 := Aside0.mk HO1; have HB1 := Aside0.mk HB1))
          go_roundg (text.size - (i + 1))
          case measure => omega
          case rel => exact ⟨i + 1, q ++ [92, 116], by omega, rfl, rfl, HE, by rw [List.length_append]; simp; omega, ⟨by rw [qn_app]; exact HO1.out⟩, HB1⟩
        | false =>
          have n9 := byte_not (k := 9) h9
          cases h34 : ((text[i].toNat : Int) == 34) with
          | true =>
            have hc := byte_is (k := 34) (by decide) h34
            have HE := Aside0.mk (show encL ((bs text).take (i + 1)) = some (q ++ [92, 34]) by rw [take_snoc hlt]; exact enc_snoc _ _ _ _ HQ.out (by rw [hc]; rfl))
            go_wp2_with (first | (at_builtin; refine append_two (w0 := w) w.heap.size rfl (.tmp 108) (.tmp 110) 34 5 .u8 1 rfl Tryd.underlying34 infoByte (by decide) _ (qn q) 92 34 rfl rfl HO.out HB.out hbase (by rw [qn_len]; omega) ?_; intro v1 w5 HO1 HB1; have HO1 := Aside0.mk HO1; have HB1 := Aside0.mk HB1))
            go_roundg (text.size - (i + 1))
            case measure => omega
            case rel => exact ⟨i + 1, q ++ [92, 34], by omega, rfl, rfl, HE, by rw [List.length_append]; simp; omega, ⟨by rw [qn_app]; exact HO1.out⟩, HB1⟩
          | false =>
            have n34 := byte_not (k := 34) h34
            cases h92 : ((text[i].toNat : Int) == 92) with
            | true =>
              have hc := byte_is (k := 92) (by decide) h92
              have HE := Aside0.mk (show encL ((bs text).take (i + 1)) = some (q ++ [92, 92]) by rw [take_snoc hlt]; exact enc_snoc _ _ _ _ HQ.out (by rw [hc]; rfl))
              go_wp2_with (first | (at_builtin; refine append_two (w0 := w) w.heap.size rfl (.tmp 108) (.tmp 110) 34 5 .u8 1 rfl Tryd.underlying34 infoByte (by decide) _ (qn q) 92 92 rfl rfl HO.out HB.out hbase (by rw [qn_len]; omega) ?_; intro v1 w5 HO1 HB1; have HO1 := Aside0.mk HO1; have HB1 := Aside0.mk HB1))
              go_roundg (text.size - (i + 1))
              case measure => omega
              case rel => exact ⟨i + 1, q ++ [92, 92], by omega, rfl, rfl, HE, by rw [List.length_append]; simp; omega, ⟨by rw [qn_app]; exact HO1.out⟩, HB1⟩
            | false =>
              have n92 := byte_not (k := 92) h92
              cases hlow : decide ((text[i].toNat : Int) < 32) with
              | true =>
                go_wp2
                go_ret
                exact ⟨rfl, HB.out⟩
              | false =>
                have nlow : ¬ text[i].toNat < 32 := by simp at hlow; omega
                cases h127 : ((text[i].toNat : Int) == 127) with
                | true =>
                  go_wp2
                  go_ret
                  exact ⟨rfl, HB.out⟩
                | false =>
                  have n127 := byte_not (k := 127) h127
                  have henc := Aside0.mk (enc_else n10 n9 n34 n92 nlow n127)
                  have HE := Aside0.mk (show encL ((bs text).take (i + 1)) = some (q ++ [text[i]]) by rw [take_snoc hlt]; exact enc_snoc _ _ _ _ HQ.out henc.out)
                  go_wp2_with (first | (at_builtin; refine print_append_num (w0 := w) w.heap.size rfl (.tmp 85) (.tmp 87) 34 5 .u8 1 rfl Tryd.underlying34 infoByte (by decide) _ (qn q) (text[i].toNat : Int) rfl rfl HO.out HB.out hbase (by rw [qn_len]; omega) ?_; intro v1 w5 HO1 HB1 _ _; have HO1 := Aside0.mk HO1; have HB1 := Aside0.mk HB1))
                  go_roundg (text.size - (i + 1))
                  case measure => omega
                  case rel => exact ⟨i + 1, q ++ [text[i]], by omega, rfl, rfl, HE, by rw [List.length_append]; simp; omega, ⟨by rw [qn_app]; exact HO1.out⟩, HB1⟩
    · obtain rfl : i = text.size := by omega
      have HQ2 := Aside0.mk (show encL (bs text) = some q by have := HQ.out; rw [← bs_len, List.take_length] at this; exact this)
      obtain ⟨L, hL⟩ : ∃ L, L = q.length + 1 := ⟨_, rfl⟩
      have HL : Aside0 (wr.ownsRow w.heap.size 5 1 u10 L (nums .u8 (qn q))) := ⟨by rw [hL, ← qn_len]; exact HO.out⟩
      have hlt' : decide (text.size < text.size) = false := by simp
      obtain ⟨A, c, rfl⟩ := own_slice HL.out
      clear hlt
      by_cases hbig : 4000 < L
      · have hgt : decide ((4000 : Int) < (L : Int)) = true := by simp; omega
        go_wp2
        go_ret
        exact ⟨rfl, HB.out⟩
      · have hgt : decide ((4000 : Int) < (L : Int)) = false := by simp; omega
        obtain ⟨z, hz⟩ : ∃ z, z = strOfNums (qn q ++ [34]) := ⟨_, rfl⟩
        have hzs : z.size ≤ 4096 := by rw [hz, strOfNums_size, List.length_append, qn_len]; simp; omega
        have HZ3 := Aside0.mk (quoted (z := z) HQ2.out (by rw [hz]; exact qn_bytes q) hzs)
        have HZE := Aside0.mk hz
        clear hz
        go_wp2_with (first | (at_builtin; refine print_append_num (w0 := w) w.heap.size rfl (.tmp 123) (.tmp 124) 34 5 .u8 1 rfl Tryd.underlying34 infoByte (by decide) _ (qn q) 34 rfl rfl HO.out HB.out hbase (by rw [qn_len]; omega) ?_; intro v1 w5 HO1 HB1 _ _; have HO1 := Aside0.mk HO1; have HB1 := Aside0.mk HB1; have hcv := own_string (P := Tryd.prog) (src := 34) (dst := 9) (e := 5) Tryd.underlying34 Tryd.underlying5 Tryd.underlying9 HO1.out; rw [← HZE.out] at hcv) | (go_at_call 7; (with_reducible refine (text_row _ text _ (HG.out.below HB1.out) HZ3.out).mono ?_); rintro e w6 ⟨g2, cap2, rfl, hcap2, hcell2, hb6⟩; have HB6 := Aside0.mk (onB HB1.out (hb6.alloc (by have := hb6.size; omega) (Obj.cells #[.int .i64 0, .int .i64 0] 26))); have r0 := (hcell2 (Obj.cells #[.int .i64 0, .int .i64 0] 26)).1; have r1 := (hcell2 (Obj.cells #[.int .i64 0, .int .i64 0] 26)).2; have r2 := (cell_alloc2 w6 (.int .i64 0) (.int .i64 0) 26).1; clear hb6 hcell2))
        all_goals go_ret
        all_goals exact ⟨rfl, HB6.out⟩
end Go.Proofs.YtdffbaikdibalaaDoor.T

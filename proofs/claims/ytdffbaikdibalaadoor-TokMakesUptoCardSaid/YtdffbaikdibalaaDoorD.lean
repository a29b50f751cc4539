/- (*scan).quote, walked: it reads what 'quoteL' says. -/
import Derived.Test.YtdffbaikdibalaaDoorC
namespace Go.Proofs.YtdffbaikdibalaaDoor.T
set_option linter.unusedVariables false
set_option linter.unusedSimpArgs false
open Go.RowKit Go.Proofs.YtdffbaikdibalaaDoorW.PrintWords

def QR.pre (acc : Bs) (n : Nat) : QR → QR
  | .ok t m => .ok (acc ++ t) (m + n)
  | .bad c (some k) => .bad c (some (k + n))
  | .bad c .none => .bad c .none
theorem QR.pre_cons (acc : Bs) (n m : Nat) (e : UInt8) (q : QR) : (q.cons e m).pre acc n = q.pre (acc ++ [e]) (n + m) := by
  cases q with
  | ok t k => simp [QR.cons, QR.pre]; omega
  | bad c o => cases o <;> simp [QR.cons, QR.pre]; omega
theorem QR.pre_nil (q : QR) : q.pre [] 0 = q := by
  cases q with
  | ok t k => rfl
  | bad c o => cases o <;> rfl
theorem scan_below {w w1 : World} {g B : Nat} {s : ByteArray} {i c f : Int} (h : Scan w g s i c f) (hb : Below B w w1) (hg : g < B) : Scan w1 g s i c f := (hb.block g hg).trans h
theorem isb_set {w : World} {g b : Nat} {xs : List Value} (h : Lib.IsBuilder 54 5 b b xs w) (hg : g < b) (j : Nat) (u : Value) : Lib.IsBuilder 54 5 b b xs (w.setCell ⟨g, j, none⟩ u) := by
  have one : ∀ {p : Value}, Lib.BuilderAt 54 5 b b p xs w → Lib.BuilderAt 54 5 b b p xs (w.setCell ⟨g, j, none⟩ u) := by
    rintro p ⟨hB, v, hb, hown, hne⟩
    refine ⟨hB, v, (Below.heap_setCell w ⟨g, j, none⟩ u b (by simp; omega)).trans hb, ?_, hne⟩
    refine own_move hown (fun k hk => Below.heap_setCell w ⟨g, j, none⟩ u k ?_)
    have := (hown.lt k hk).1
    simp
    omega
  rcases h with h | h
  · exact .inl (one h)
  · exact .inr (one h)
theorem isb_drewN {w : World} {b : Nat} {xs : List Value} (h : Lib.IsBuilder 54 5 b b xs w) (n : Nat) : Lib.IsBuilder 54 5 b b xs (w.drewN n) := h
theorem gbelow {w W W1 : World} {g B : Nat} (h : w.grownBy W (some g)) (hb : Below B W W1) (hB : w.heap.size ≤ B) (hW : B ≤ W.heap.size) : w.grownBy W1 (some g) :=
  ⟨hb.os.trans h.os, hb.tape.trans h.tape, hb.output.trans h.output, Nat.le_trans h.size hb.size, fun k hk hne => (hb.block k (by omega)).trans (h.block k hk hne)⟩
theorem galloc {w W : World} {g : Nat} (h : w.grownBy W (some g)) (o : Obj) : w.grownBy (W.alloc o) (some g) :=
  gtrans h (World.grownBy_alloc W o (some g))

theorem peek0 (g : Nat) (s : ByteArray) (j : Nat) (c f x : Int) (w : World) (h : Scan w g s j c f) (hs : s.size ≤ 4096) (hj : j ≤ s.size) (hx : headB ((bs s).drop j) = x) :
    Calls Tryd.prog 20 #[.pointer (some ⟨g, 0, none⟩), .int .i64 0] w fun e w' => e = .returned (.int .u8 x) ∧ ∃ q, w' = w.drewN q :=
  (peek_any g s j c f 0 w h (by omega) (by omega) (by omega)).mono fun e w' ⟨he, hw⟩ => ⟨by rw [he, Int.add_zero, bt_head, hx], hw⟩
theorem peek1 (g : Nat) (s : ByteArray) (j : Nat) (c f x : Int) (w : World) (h : Scan w g s j c f) (hs : s.size ≤ 4096) (hj : j ≤ s.size) (hx : headB ((bs s).drop (j + 1)) = x) :
    Calls Tryd.prog 20 #[.pointer (some ⟨g, 0, none⟩), .int .i64 1] w fun e w' => e = .returned (.int .u8 x) ∧ ∃ q, w' = w.drewN q :=
  (peek_any g s j c f 1 w h (by omega) (by omega) (by omega)).mono fun e w' ⟨he, hw⟩ => ⟨by rw [he, show (j : Int) + 1 = ((j + 1 : Nat) : Int) by omega, bt_head, hx], hw⟩
theorem indexByte_esc (d : UInt8) (x n : Int) (hx : (d.toNat : Int) = x) (h : Lib.indexByte [34, 92, 110, 116] d = n) (w : World) :
    Calls Tryd.prog 17 #[.string ⟨#[34, 92, 110, 116]⟩, .int .u8 x] w fun e w' => e = .returned (.int .i64 n) ∧ w = w' :=
  (Tryd.strings_IndexByte _ _ _).mono fun e w' ⟨he, hw⟩ => ⟨by subst hx; rw [he, ← h]; simp, hw.symm⟩
theorem byteCells_snoc (l : Bs) (c : UInt8) (x : Int) (hx : (c.toNat : Int) = x) : Lib.byteCells l ++ [.int .u8 x] = Lib.byteCells (l ++ [c]) := by
  subst hx
  simp [Lib.byteCells]

theorem esc_none {d : UInt8} (h : escL d = none) : Lib.indexByte [34, 92, 110, 116] d = -1 := by
  unfold escL at h
  repeat (split at h; cases h)
  rename_i h1 h2 h3 h4
  have f : ∀ x : UInt8, ¬ d = x → (x == d) = false := fun x hx => beq_eq_false_iff_ne.2 (fun e => hx e.symm)
  simp [Lib.indexByte, f _ h1, f _ h2, f _ h3, f _ h4]
theorem esc_some {d e : UInt8} (h : escL d = some e) : (d = 34 ∧ e = 34) ∨ (d = 92 ∧ e = 92) ∨ (d = 110 ∧ e = 10) ∨ (d = 116 ∧ e = 9) := by
  unfold escL at h
  split at h
  · cases h; exact .inl ⟨‹_›, rfl⟩
  · split at h
    · cases h; exact .inr (.inl ⟨‹_›, rfl⟩)
    · split at h
      · cases h; exact .inr (.inr (.inl ⟨‹_›, rfl⟩))
      · split at h
        · cases h; exact .inr (.inr (.inr ⟨‹_›, rfl⟩))
        · cases h
theorem quote_nil : quoteL [] = .bad 71 none := by rw [quoteL.eq_def]
theorem quote_done (r : Bs) : quoteL (34 :: r) = .ok [] 1 := by rw [quoteL.eq_def]; simp
theorem quote_escend : quoteL [92] = .bad 71 none := by rw [quoteL.eq_def]; simp
theorem quote_escbad {d : UInt8} (r : Bs) (h : escL d = none) : quoteL (92 :: d :: r) = .bad 72 (some 0) := by rw [quoteL.eq_def]; simp [h]
theorem quote_esc {d e : UInt8} (r : Bs) (h : escL d = some e) : quoteL (92 :: d :: r) = (quoteL r).cons e 2 := by rw [quoteL.eq_def]; simp [h]
theorem Scan.eq {w : World} {g : Nat} {s : ByteArray} {a b c f : Int} (h : Scan w g s a c f) (e : a = b) : Scan w g s b c f := e ▸ h
theorem quote_bad {c : UInt8} {r : Bs} (h1 : ¬ c = 34) (h2 : ¬ c = 92) (h3 : c.toNat < 32 ∨ c = 127) : quoteL (c :: r) = .bad 70 (some 0) := by
  rw [quoteL.eq_def]; simp only [if_neg h1, if_neg h2, if_pos h3]
theorem quote_more {c : UInt8} {r : Bs} (h1 : ¬ c = 34) (h2 : ¬ c = 92) (h3 : ¬ (c.toNat < 32 ∨ c = 127)) : quoteL (c :: r) = (quoteL r).cons c 1 := by
  rw [quoteL.eq_def]; simp only [if_neg h1, if_neg h2, if_neg h3]
/-- What quote leaves and answers. -/
def Quoted (e : Ending) (w' : World) (g : Nat) (s : ByteArray) (i : Nat) (c f : Int) : QR → Prop
  | .ok t n => e = .returned (.string ⟨t.toArray⟩) ∧ Scan w' g s ((i + 1 + n : Nat) : Int) c f
  | .bad code .none => e = .returned (.string ⟨#[]⟩) ∧ ∃ p, Scan w' g s p code i
  | .bad code (some k) => e = .returned (.string ⟨#[]⟩) ∧ ∃ p, Scan w' g s p code ((i + 1 + k : Nat) : Int)

set_option maxRecDepth 100000 in
set_option maxHeartbeats 4000000 in
theorem quote_any (g : Nat) (s : ByteArray) (i : Nat) (c f : Int) (w : World) (h : Scan w g s i c f) (hi : i < s.size) (hs : s.size ≤ 4096) :
    Calls Tryd.prog 21 #[.pointer (some ⟨g, 0, none⟩)] w fun e w' => Quoted e w' g s i c f (quoteL ((bs s).drop (i + 1))) ∧ w.grownBy w' (some g) := by
  have g0 := h.c0
  have g1 := h.c1
  have f1 := h.fz 1
  have hlt := blk_lt h
  have hgw := hlt
  have H := Aside0.mk h
  clear h
  go_enter Tryd.func21, Tryd.ntmps21
  go_wp2
  go_loopg [] (s.size - (i + 1)) (fun k wr => ∃ (j : Nat) (acc : Bs), i + 1 ≤ j ∧ j ≤ s.size ∧ k = s.size - j ∧ acc.length ≤ j ∧ Aside0 (Scan wr g s j c f) ∧ Aside0 (Lib.IsBuilder 54 5 w.heap.size w.heap.size (Lib.byteCells acc) wr) ∧
    Aside0 (quoteL ((bs s).drop (i + 1)) = (quoteL ((bs s).drop j)).pre acc (j - (i + 1))) ∧ Aside0 (w.grownBy wr (some g)) ∧ w.heap.size < wr.heap.size)
  case atStart =>
    exact ⟨i + 1, [], Nat.le_refl _, by omega, rfl, by simp, ⟨scan_below ((H.out.at_ _)) (Below.alloc (Below.refl _ _) (Nat.le_refl _) _) (by simpa using hlt)⟩, ⟨by simpa [Lib.byteCells] using Lib.fresh_isBuilder 54 5 (w.setCell ⟨g, 1, none⟩ (.int .i64 (i + 1)))⟩, ⟨by rw [Nat.sub_self, QR.pre_nil]⟩, ⟨galloc (gset (grefl _ _) _ _) _⟩, by simp⟩
  case round =>
    obtain ⟨j, acc, hij, hj, rfl, hal, hS, hB, hQ, hG, hsz⟩ := hrel
    have g0 := hS.out.c0
    have g1 := hS.out.c1
    have f1 := hS.out.fz 1
    by_cases hlt : j < s.size
    · have hlt' : decide (j < s.size) = true := by simpa using hlt
      have HD := Aside0.mk (drop_at hlt)
      by_cases h34 : s[j] = 34
      · have HX := Aside0.mk (show headB ((bs s).drop j) = 34 by rw [HD.out, h34]; rfl)
        have HC := Aside0.mk h34
        clear h34
        go_wp2
        go_quiet (fail)
        go_wp2_with (first | (go_at_call_of 20 (Value.int IntKind.i64 0); refine (peek0 g s j c f 34 _ (hS.out.drewN _) hs hj HX.out).mono ?_; rintro e w1 ⟨rfl, q1, rfl⟩) | (go_at_call 29; refine (Tryd.Builder_String_any _ _ acc _ (isb_set (isb_drewN hB.out _) (by omega) _ _) (by simp; omega)).mono ?_; rintro e w2 ⟨rfl, hb2⟩))
        go_ret
        refine ⟨?_, gbelow (gset (gdrewN hG.out _) _ _) hb2 (Nat.le_refl _) (by simp; omega)⟩
        rw [hQ.out, HD.out, HC.out, quote_done]
        simp only [QR.pre, Quoted, List.append_nil]
        refine ⟨rfl, ?_⟩
        rw [show i + 1 + (1 + (j - (i + 1))) = j + 1 by omega]
        exact scan_below ((hS.out.drewN _).at_ _) hb2 hgw
      · by_cases h92 : s[j] = 92
        · have HX := Aside0.mk (show headB ((bs s).drop j) = 92 by rw [HD.out, h92]; rfl)
          have HC := Aside0.mk h92
          clear h92 h34
          by_cases he : j + 1 = s.size
          · have he2 : (((j : Int) + 1) == (s.size : Int)) = true := by simp; omega
            have HE := Aside0.mk he
            clear he
            go_wp2
            go_quiet (fail)
            go_wp2_with (first | (go_at_call_of 20 (Value.int IntKind.i64 0); refine (peek0 g s j c f 92 _ (hS.out.drewN _) hs hj HX.out).mono ?_; rintro e w1 ⟨rfl, q1, rfl⟩) | (go_at_call 19; refine (wrong_any g s j c f _ _ _ (hS.out.drewN _)).mono ?_; rintro e w2 ⟨rfl, hS2, hG2⟩))
            go_quiet (fail)
            go_wp2_with (first | (go_at_call_of 20 (Value.int IntKind.i64 0); refine (peek0 g s j c f 92 _ (hS.out.drewN _) hs hj HX.out).mono ?_; rintro e w1 ⟨rfl, q1, rfl⟩) | (go_at_call 19; refine (wrong_any g s j c f _ _ _ (hS.out.drewN _)).mono ?_; rintro e w2 ⟨rfl, hS2, hG2⟩))
            go_ret
            refine ⟨?_, gtrans (gdrewN hG.out _) hG2⟩
            rw [hQ.out, HD.out, HC.out, drop_end (by rw [HE.out]; exact Nat.le_refl _), quote_escend]
            exact ⟨rfl, _, hS2⟩
          · have he2 : (((j : Int) + 1) == (s.size : Int)) = false := by simp; omega
            have hlt3 : j + 1 < s.size := by omega
            have HD2 := Aside0.mk (drop_at hlt3)
            obtain ⟨y, hy⟩ : ∃ y : Int, y = (s[j + 1].toNat : Int) := ⟨_, rfl⟩
            have HY := Aside0.mk (show headB ((bs s).drop (j + 1)) = y by rw [HD2.out, hy]; rfl)
            have HYY := Aside0.mk hy.symm
            clear hy he
            cases hesc : escL s[j + 1] with
            | none =>
              have HN := Aside0.mk (esc_none hesc)
              have HESC := Aside0.mk hesc
              clear hesc
              go_wp2
              go_quiet (fail)
              go_wp2_with (first | (go_at_call_of 20 (Value.int IntKind.i64 0); refine (peek0 g s j c f 92 _ (hS.out.drewN _) hs hj HX.out).mono ?_; rintro e w1 ⟨rfl, q1, rfl⟩) | (go_at_call_of 20 (Value.int IntKind.i64 1); refine (peek1 g s j c f y _ (hS.out.drewN _) hs hj HY.out).mono ?_; rintro e w1 ⟨rfl, q2, rfl⟩) | (go_at_call 17; refine (indexByte_esc _ y (-1) HYY.out HN.out _).mono ?_; rintro e w1 ⟨rfl, rfl⟩) | (go_at_call 19; refine (wrong_any g s j c f _ _ _ (hS.out.drewN _)).mono ?_; rintro e w2 ⟨rfl, hS2, hG2⟩))
              go_quiet (fail)
              go_wp2_with (first | (go_at_call_of 20 (Value.int IntKind.i64 0); refine (peek0 g s j c f 92 _ (hS.out.drewN _) hs hj HX.out).mono ?_; rintro e w1 ⟨rfl, q1, rfl⟩) | (go_at_call_of 20 (Value.int IntKind.i64 1); refine (peek1 g s j c f y _ (hS.out.drewN _) hs hj HY.out).mono ?_; rintro e w1 ⟨rfl, q2, rfl⟩) | (go_at_call 17; refine (indexByte_esc _ y (-1) HYY.out HN.out _).mono ?_; rintro e w1 ⟨rfl, rfl⟩) | (go_at_call 19; refine (wrong_any g s j c f _ _ _ (hS.out.drewN _)).mono ?_; rintro e w2 ⟨rfl, hS2, hG2⟩))
              go_ret
              refine ⟨?_, gtrans (gdrewN hG.out _) hG2⟩
              rw [hQ.out, HD.out, HC.out, HD2.out, quote_escbad _ HESC.out]
              simp only [QR.pre, Quoted]
              refine ⟨rfl, (j : Int), ?_⟩
              rw [show i + 1 + (0 + (j - (i + 1))) = j by omega]
              exact hS2
            | some e =>
              rcases esc_some hesc with ⟨h1, rfl⟩ | ⟨h1, rfl⟩ | ⟨h1, rfl⟩ | ⟨h1, rfl⟩
              · have hesc2 := hesc
                have HN := Aside0.mk (show Lib.indexByte [34, 92, 110, 116] s[j + 1] = 0 by rw [h1]; decide)
                have HESC := Aside0.mk hesc
                clear hesc hesc2 h1
                go_wp2
                go_quiet (fail)
                go_wp2_with (first | (go_at_call_of 20 (Value.int IntKind.i64 0); refine (peek0 g s j c f 92 _ (hS.out.drewN _) hs hj HX.out).mono ?_; rintro e w1 ⟨rfl, q1, rfl⟩) | (go_at_call_of 20 (Value.int IntKind.i64 1); refine (peek1 g s j c f y _ (hS.out.drewN _) hs hj HY.out).mono ?_; rintro e w1 ⟨rfl, q2, rfl⟩) | (go_at_call 17; refine (indexByte_esc _ y (0) HYY.out HN.out _).mono ?_; rintro e w1 ⟨rfl, rfl⟩) | (go_at_call 30; refine (writeByte_any _ _ (Lib.byteCells acc) 34 _ (isb_drewN hB.out _) (by simp [Lib.byteCells]; omega) (by simp; omega)).mono ?_; rintro e w2 ⟨rfl, hB2, hb2⟩; have hS2 := Aside0.mk (scan_below (hS.out.drewN _) hb2 hgw); have g0' := hS2.out.c0; have g1' := hS2.out.c1; have f1' := hS2.out.fz 1))
                go_quiet (fail)
                go_wp2_with (first | (go_at_call_of 20 (Value.int IntKind.i64 0); refine (peek0 g s j c f 92 _ (hS.out.drewN _) hs hj HX.out).mono ?_; rintro e w1 ⟨rfl, q1, rfl⟩) | (go_at_call_of 20 (Value.int IntKind.i64 1); refine (peek1 g s j c f y _ (hS.out.drewN _) hs hj HY.out).mono ?_; rintro e w1 ⟨rfl, q2, rfl⟩) | (go_at_call 17; refine (indexByte_esc _ y (0) HYY.out HN.out _).mono ?_; rintro e w1 ⟨rfl, rfl⟩) | (go_at_call 30; refine (writeByte_any _ _ (Lib.byteCells acc) 34 _ (isb_drewN hB.out _) (by simp [Lib.byteCells]; omega) (by simp; omega)).mono ?_; rintro e w2 ⟨rfl, hB2, hb2⟩; have hS2 := Aside0.mk (scan_below (hS.out.drewN _) hb2 hgw); have g0' := hS2.out.c0; have g1' := hS2.out.c1; have f1' := hS2.out.fz 1))
                go_roundg (s.size - (j + 2))
                case measure => omega
                case rel =>
                  refine ⟨j + 2, acc ++ [34], by omega, by omega, rfl, by simp; omega, ⟨((hS2.out.at_ _).at_ _).eq (by omega)⟩, ⟨?_⟩, ⟨?_⟩, ⟨gset (gset (gbelow (gdrewN hG.out _) hb2 (Nat.le_refl _) (by simp; omega)) _ _) _ _⟩, by have := hb2.size; simp at this ⊢; omega⟩
                  · exact isb_set (isb_set (by rw [← byteCells_snoc acc 34 _ rfl]; exact hB2) hgw _ _) hgw _ _
                  · rw [hQ.out, HD.out, HC.out, HD2.out, quote_esc _ HESC.out]
                    rw [QR.pre_cons, show j + 1 + 1 = j + 2 from rfl, show j - (i + 1) + 2 = j + 2 - (i + 1) by omega]
              · have hesc2 := hesc
                have HN := Aside0.mk (show Lib.indexByte [34, 92, 110, 116] s[j + 1] = 1 by rw [h1]; decide)
                have HESC := Aside0.mk hesc
                clear hesc hesc2 h1
                go_wp2
                go_quiet (fail)
                go_wp2_with (first | (go_at_call_of 20 (Value.int IntKind.i64 0); refine (peek0 g s j c f 92 _ (hS.out.drewN _) hs hj HX.out).mono ?_; rintro e w1 ⟨rfl, q1, rfl⟩) | (go_at_call_of 20 (Value.int IntKind.i64 1); refine (peek1 g s j c f y _ (hS.out.drewN _) hs hj HY.out).mono ?_; rintro e w1 ⟨rfl, q2, rfl⟩) | (go_at_call 17; refine (indexByte_esc _ y (1) HYY.out HN.out _).mono ?_; rintro e w1 ⟨rfl, rfl⟩) | (go_at_call 30; refine (writeByte_any _ _ (Lib.byteCells acc) 92 _ (isb_drewN hB.out _) (by simp [Lib.byteCells]; omega) (by simp; omega)).mono ?_; rintro e w2 ⟨rfl, hB2, hb2⟩; have hS2 := Aside0.mk (scan_below (hS.out.drewN _) hb2 hgw); have g0' := hS2.out.c0; have g1' := hS2.out.c1; have f1' := hS2.out.fz 1))
                go_quiet (fail)
                go_wp2_with (first | (go_at_call_of 20 (Value.int IntKind.i64 0); refine (peek0 g s j c f 92 _ (hS.out.drewN _) hs hj HX.out).mono ?_; rintro e w1 ⟨rfl, q1, rfl⟩) | (go_at_call_of 20 (Value.int IntKind.i64 1); refine (peek1 g s j c f y _ (hS.out.drewN _) hs hj HY.out).mono ?_; rintro e w1 ⟨rfl, q2, rfl⟩) | (go_at_call 17; refine (indexByte_esc _ y (1) HYY.out HN.out _).mono ?_; rintro e w1 ⟨rfl, rfl⟩) | (go_at_call 30; refine (writeByte_any _ _ (Lib.byteCells acc) 92 _ (isb_drewN hB.out _) (by simp [Lib.byteCells]; omega) (by simp; omega)).mono ?_; rintro e w2 ⟨rfl, hB2, hb2⟩; have hS2 := Aside0.mk (scan_below (hS.out.drewN _) hb2 hgw); have g0' := hS2.out.c0; have g1' := hS2.out.c1; have f1' := hS2.out.fz 1))
                go_roundg (s.size - (j + 2))
                case measure => omega
                case rel =>
                  refine ⟨j + 2, acc ++ [92], by omega, by omega, rfl, by simp; omega, ⟨((hS2.out.at_ _).at_ _).eq (by omega)⟩, ⟨?_⟩, ⟨?_⟩, ⟨gset (gset (gbelow (gdrewN hG.out _) hb2 (Nat.le_refl _) (by simp; omega)) _ _) _ _⟩, by have := hb2.size; simp at this ⊢; omega⟩
                  · exact isb_set (isb_set (by rw [← byteCells_snoc acc 92 _ rfl]; exact hB2) hgw _ _) hgw _ _
                  · rw [hQ.out, HD.out, HC.out, HD2.out, quote_esc _ HESC.out]
                    rw [QR.pre_cons, show j + 1 + 1 = j + 2 from rfl, show j - (i + 1) + 2 = j + 2 - (i + 1) by omega]
              · have hesc2 := hesc
                have HN := Aside0.mk (show Lib.indexByte [34, 92, 110, 116] s[j + 1] = 2 by rw [h1]; decide)
                have HESC := Aside0.mk hesc
                clear hesc hesc2 h1
                go_wp2
                go_quiet (fail)
                go_wp2_with (first | (go_at_call_of 20 (Value.int IntKind.i64 0); refine (peek0 g s j c f 92 _ (hS.out.drewN _) hs hj HX.out).mono ?_; rintro e w1 ⟨rfl, q1, rfl⟩) | (go_at_call_of 20 (Value.int IntKind.i64 1); refine (peek1 g s j c f y _ (hS.out.drewN _) hs hj HY.out).mono ?_; rintro e w1 ⟨rfl, q2, rfl⟩) | (go_at_call 17; refine (indexByte_esc _ y (2) HYY.out HN.out _).mono ?_; rintro e w1 ⟨rfl, rfl⟩) | (go_at_call 30; refine (writeByte_any _ _ (Lib.byteCells acc) 10 _ (isb_drewN hB.out _) (by simp [Lib.byteCells]; omega) (by simp; omega)).mono ?_; rintro e w2 ⟨rfl, hB2, hb2⟩; have hS2 := Aside0.mk (scan_below (hS.out.drewN _) hb2 hgw); have g0' := hS2.out.c0; have g1' := hS2.out.c1; have f1' := hS2.out.fz 1))
                go_quiet (fail)
                go_wp2_with (first | (go_at_call_of 20 (Value.int IntKind.i64 0); refine (peek0 g s j c f 92 _ (hS.out.drewN _) hs hj HX.out).mono ?_; rintro e w1 ⟨rfl, q1, rfl⟩) | (go_at_call_of 20 (Value.int IntKind.i64 1); refine (peek1 g s j c f y _ (hS.out.drewN _) hs hj HY.out).mono ?_; rintro e w1 ⟨rfl, q2, rfl⟩) | (go_at_call 17; refine (indexByte_esc _ y (2) HYY.out HN.out _).mono ?_; rintro e w1 ⟨rfl, rfl⟩) | (go_at_call 30; refine (writeByte_any _ _ (Lib.byteCells acc) 10 _ (isb_drewN hB.out _) (by simp [Lib.byteCells]; omega) (by simp; omega)).mono ?_; rintro e w2 ⟨rfl, hB2, hb2⟩; have hS2 := Aside0.mk (scan_below (hS.out.drewN _) hb2 hgw); have g0' := hS2.out.c0; have g1' := hS2.out.c1; have f1' := hS2.out.fz 1))
                go_roundg (s.size - (j + 2))
                case measure => omega
                case rel =>
                  refine ⟨j + 2, acc ++ [10], by omega, by omega, rfl, by simp; omega, ⟨((hS2.out.at_ _).at_ _).eq (by omega)⟩, ⟨?_⟩, ⟨?_⟩, ⟨gset (gset (gbelow (gdrewN hG.out _) hb2 (Nat.le_refl _) (by simp; omega)) _ _) _ _⟩, by have := hb2.size; simp at this ⊢; omega⟩
                  · exact isb_set (isb_set (by rw [← byteCells_snoc acc 10 _ rfl]; exact hB2) hgw _ _) hgw _ _
                  · rw [hQ.out, HD.out, HC.out, HD2.out, quote_esc _ HESC.out]
                    rw [QR.pre_cons, show j + 1 + 1 = j + 2 from rfl, show j - (i + 1) + 2 = j + 2 - (i + 1) by omega]
              · have hesc2 := hesc
                have HN := Aside0.mk (show Lib.indexByte [34, 92, 110, 116] s[j + 1] = 3 by rw [h1]; decide)
                have HESC := Aside0.mk hesc
                clear hesc hesc2 h1
                go_wp2
                go_quiet (fail)
                go_wp2_with (first | (go_at_call_of 20 (Value.int IntKind.i64 0); refine (peek0 g s j c f 92 _ (hS.out.drewN _) hs hj HX.out).mono ?_; rintro e w1 ⟨rfl, q1, rfl⟩) | (go_at_call_of 20 (Value.int IntKind.i64 1); refine (peek1 g s j c f y _ (hS.out.drewN _) hs hj HY.out).mono ?_; rintro e w1 ⟨rfl, q2, rfl⟩) | (go_at_call 17; refine (indexByte_esc _ y (3) HYY.out HN.out _).mono ?_; rintro e w1 ⟨rfl, rfl⟩) | (go_at_call 30; refine (writeByte_any _ _ (Lib.byteCells acc) 9 _ (isb_drewN hB.out _) (by simp [Lib.byteCells]; omega) (by simp; omega)).mono ?_; rintro e w2 ⟨rfl, hB2, hb2⟩; have hS2 := Aside0.mk (scan_below (hS.out.drewN _) hb2 hgw); have g0' := hS2.out.c0; have g1' := hS2.out.c1; have f1' := hS2.out.fz 1))
                go_quiet (fail)
                go_wp2_with (first | (go_at_call_of 20 (Value.int IntKind.i64 0); refine (peek0 g s j c f 92 _ (hS.out.drewN _) hs hj HX.out).mono ?_; rintro e w1 ⟨rfl, q1, rfl⟩) | (go_at_call_of 20 (Value.int IntKind.i64 1); refine (peek1 g s j c f y _ (hS.out.drewN _) hs hj HY.out).mono ?_; rintro e w1 ⟨rfl, q2, rfl⟩) | (go_at_call 17; refine (indexByte_esc _ y (3) HYY.out HN.out _).mono ?_; rintro e w1 ⟨rfl, rfl⟩) | (go_at_call 30; refine (writeByte_any _ _ (Lib.byteCells acc) 9 _ (isb_drewN hB.out _) (by simp [Lib.byteCells]; omega) (by simp; omega)).mono ?_; rintro e w2 ⟨rfl, hB2, hb2⟩; have hS2 := Aside0.mk (scan_below (hS.out.drewN _) hb2 hgw); have g0' := hS2.out.c0; have g1' := hS2.out.c1; have f1' := hS2.out.fz 1))
                go_roundg (s.size - (j + 2))
                case measure => omega
                case rel =>
                  refine ⟨j + 2, acc ++ [9], by omega, by omega, rfl, by simp; omega, ⟨((hS2.out.at_ _).at_ _).eq (by omega)⟩, ⟨?_⟩, ⟨?_⟩, ⟨gset (gset (gbelow (gdrewN hG.out _) hb2 (Nat.le_refl _) (by simp; omega)) _ _) _ _⟩, by have := hb2.size; simp at this ⊢; omega⟩
                  · exact isb_set (isb_set (by rw [← byteCells_snoc acc 9 _ rfl]; exact hB2) hgw _ _) hgw _ _
                  · rw [hQ.out, HD.out, HC.out, HD2.out, quote_esc _ HESC.out]
                    rw [QR.pre_cons, show j + 1 + 1 = j + 2 from rfl, show j - (i + 1) + 2 = j + 2 - (i + 1) by omega]
        · obtain ⟨x, hx⟩ : ∃ x : Int, x = (s[j].toNat : Int) := ⟨_, rfl⟩
          have HX := Aside0.mk (show headB ((bs s).drop j) = x by rw [HD.out, hx]; rfl)
          have hn34 : (x == 34) = false := by rw [beq_eq_false_iff_ne, hx]; intro h; exact h34 (UInt8.toNat_inj.1 (by simpa using (by omega : s[j].toNat = 34)))
          have hn92 : (x == 92) = false := by rw [beq_eq_false_iff_ne, hx]; intro h; exact h92 (UInt8.toNat_inj.1 (by simpa using (by omega : s[j].toNat = 92)))
          by_cases hbad : s[j].toNat < 32 ∨ s[j] = 127
          · have hx2 : x < 32 ∨ x = 127 := by
              rw [hx]
              rcases hbad with h | h
              · left; omega
              · right; rw [h]; rfl
            have HC := Aside0.mk (And.intro h34 (And.intro h92 hbad))
            have HXX := Aside0.mk hx
            clear hx h34 h92 hbad
            by_cases hx3 : x < 32
            · clear hx2
              go_wp2
              go_quiet (fail)
              go_wp2_with (first | (go_at_call_of 20 (Value.int IntKind.i64 0); refine (peek0 g s j c f x _ (hS.out.drewN _) hs hj HX.out).mono ?_; rintro e w1 ⟨rfl, q1, rfl⟩) | (go_at_call 19; refine (wrong_any g s j c f _ _ _ (hS.out.drewN _)).mono ?_; rintro e w2 ⟨rfl, hS2, hG2⟩))
              go_ret
              refine ⟨?_, gtrans (gdrewN hG.out _) hG2⟩
              rw [hQ.out, HD.out, quote_bad HC.out.1 HC.out.2.1 HC.out.2.2]
              refine ⟨rfl, (j : Int), ?_⟩
              rw [show i + 1 + (0 + (j - (i + 1))) = j by omega]
              exact hS2
            · have hx4 : (x == 127) = true := by simp; omega
              clear hx2
              go_wp2
              go_quiet (fail)
              go_wp2_with (first | (go_at_call_of 20 (Value.int IntKind.i64 0); refine (peek0 g s j c f x _ (hS.out.drewN _) hs hj HX.out).mono ?_; rintro e w1 ⟨rfl, q1, rfl⟩) | (go_at_call 19; refine (wrong_any g s j c f _ _ _ (hS.out.drewN _)).mono ?_; rintro e w2 ⟨rfl, hS2, hG2⟩))
              go_ret
              refine ⟨?_, gtrans (gdrewN hG.out _) hG2⟩
              rw [hQ.out, HD.out, quote_bad HC.out.1 HC.out.2.1 HC.out.2.2]
              refine ⟨rfl, (j : Int), ?_⟩
              rw [show i + 1 + (0 + (j - (i + 1))) = j by omega]
              exact hS2
          · have hx3 : ¬ x < 32 := by rw [hx]; intro h; exact hbad (.inl (by omega))
            have hx4 : (x == 127) = false := by rw [beq_eq_false_iff_ne, hx]; intro h; exact hbad (.inr (UInt8.toNat_inj.1 (by simpa using (by omega : s[j].toNat = 127))))
            have HC := Aside0.mk (And.intro h34 (And.intro h92 hbad))
            have HXX := Aside0.mk hx
            clear hx h34 h92 hbad
            go_wp2
            go_quiet (fail)
            go_wp2_with (first | (go_at_call_of 20 (Value.int IntKind.i64 0); refine (peek0 g s j c f x _ (hS.out.drewN _) hs hj HX.out).mono ?_; rintro e w1 ⟨rfl, q1, rfl⟩) | (go_at_call 30; refine (writeByte_any _ _ (Lib.byteCells acc) x _ (isb_drewN hB.out _) (by simp [Lib.byteCells]; omega) (by simp; omega)).mono ?_; rintro e w2 ⟨rfl, hB2, hb2⟩; have hS2 := Aside0.mk (scan_below (hS.out.drewN _) hb2 hgw); have g0' := hS2.out.c0; have g1' := hS2.out.c1; have f1' := hS2.out.fz 1))
            go_roundg (s.size - (j + 1))
            case measure => omega
            case rel =>
              refine ⟨j + 1, acc ++ [s[j]], by omega, by omega, rfl, by simp; omega, ⟨hS2.out.at_ _⟩, ⟨?_⟩, ⟨?_⟩, ⟨gset (gbelow (gdrewN hG.out _) hb2 (Nat.le_refl _) (by simp; omega)) _ _⟩, by have := hb2.size; simp at this ⊢; omega⟩
              · exact isb_set (by rw [← byteCells_snoc acc s[j] x HXX.out.symm]; exact hB2) hgw _ _
              · rw [hQ.out, HD.out, quote_more HC.out.1 HC.out.2.1 HC.out.2.2, QR.pre_cons, show j - (i + 1) + 1 = j + 1 - (i + 1) by omega]
    · have hlt' : decide (j < s.size) = false := by simpa using hlt
      have HD := Aside0.mk (drop_end (s := s) (i := j) (by omega))
      go_wp2
      go_quiet (fail)
      go_wp2_with (first | (go_at_call 19; refine (wrong_any g s j c f _ _ _ (hS.out.drewN _)).mono ?_; rintro e w2 ⟨rfl, hS2, hG2⟩))
      go_ret
      refine ⟨?_, gtrans (gdrewN hG.out _) hG2⟩
      rw [hQ.out, HD.out, quote_nil]
      exact ⟨rfl, _, hS2⟩
end Go.Proofs.YtdffbaikdibalaaDoor.T

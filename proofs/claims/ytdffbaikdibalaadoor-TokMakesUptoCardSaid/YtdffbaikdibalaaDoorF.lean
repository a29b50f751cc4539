/- Tokens, walked: it answers what 'tokensL' says. -/
import Derived.Test.YtdffbaikdibalaaDoorE
import Derived.Test.YtdffbaikdibalaaDoorPTokJoinsx0
import Derived.WalkSpells
namespace Go.Proofs.YtdffbaikdibalaaDoor.T
set_option linter.unusedVariables false
set_option linter.unusedSimpArgs false
open Go.RowKit Go.Proofs.YtdffbaikdibalaaDoorW.PrintWords
open Go.Proofs.YtdffbaikdibalaaDoor.PTokJoins (S31 k31 z31 k31_mkM k31_mk k31_open k31_openM rd_T31 at_T31)

def toS (t : Tok) : S31 := ⟨t.kind, t.text, t.int, t.at_⟩
def pre (acc : List Tok) : Except (Nat × Nat) (List Tok) → Except (Nat × Nat) (List Tok)
  | .ok ts => .ok (acc ++ ts)
  | .error e => .error e
theorem tokens_open {a : Nat} {l : Bs} (h : (skipL l).2 = true) : tokensL a l = .error (71, a + (skipL l).1) := by
  rw [tokensL.eq_def, if_pos h]
theorem tokens_end {a : Nat} {l : Bs} (h : (skipL l).2 = false) (h2 : l.drop (skipL l).1 = []) : tokensL a l = .ok [] := by
  rw [tokensL.eq_def, if_neg (by rw [h]; simp)]
  split
  · rfl
  · rename_i h3; rw [h2] at h3; cases h3
theorem tokens_bad {a code k : Nat} {l : Bs} {c : UInt8} {r : Bs} (h : (skipL l).2 = false) (h2 : l.drop (skipL l).1 = c :: r) (h3 : tokenL c r = .bad code k) : tokensL a l = .error (code, a + (skipL l).1 + k) := by
  rw [tokensL.eq_def, if_neg (by rw [h]; simp)]
  split
  · rename_i h4; rw [h2] at h4; cases h4
  · rename_i c' r' h4
    rw [h2] at h4
    injection h4 with h5 h6
    subst h5 h6
    rw [h3]
theorem tokens_step {a kind m : Nat} {v : Int} {t l : Bs} {c : UInt8} {r : Bs} (h : (skipL l).2 = false) (h2 : l.drop (skipL l).1 = c :: r) (h3 : tokenL c r = .ok kind t v m) :
    tokensL a l = pre [⟨kind, ⟨t.toArray⟩, v, (a + (skipL l).1 : Nat)⟩] (tokensL (a + (skipL l).1 + (m + 1)) (r.drop m)) := by
  rw [tokensL.eq_def, if_neg (by rw [h]; simp)]
  split
  · rename_i h4; rw [h2] at h4; cases h4
  · rename_i c' r' h4
    rw [h2] at h4
    injection h4 with h5 h6
    subst h5 h6
    rw [h3]
    dsimp only
    cases tokensL (a + (skipL l).1 + (m + 1)) (r.drop m) with
    | ok ts => rfl
    | error e => rfl
theorem pre_pre (a b : List Tok) (x : Except (Nat × Nat) (List Tok)) : pre a (pre b x) = pre (a ++ b) x := by
  cases x with
  | ok ts => simp [pre]
  | error e => rfl
theorem pre_nil (x : Except (Nat × Nat) (List Tok)) : pre [] x = x := by cases x <;> rfl
theorem cons_bad {e : UInt8} {n : Nat} {q : QR} {code : Nat} {o : Option Nat} (h : QR.cons e n q = .bad code o) : ∃ o', q = .bad code o' := by
  cases q with
  | ok t m => cases h
  | bad c o2 =>
    cases o2 with
    | none => exact ⟨none, by injection h with h1 h2; rw [h1]⟩
    | some k => exact ⟨some k, by injection h with h1 h2; rw [h1]⟩
theorem quote_code (n : Nat) : ∀ (l : Bs) (code : Nat) (o : Option Nat), l.length ≤ n → quoteL l = .bad code o → 70 ≤ code := by
  induction n with
  | zero =>
    intro l code o hl h
    obtain rfl : l = [] := List.length_eq_zero_iff.1 (by omega)
    rw [quote_nil] at h
    injection h with h1
    omega
  | succ n ih =>
    intro l code o hl h
    cases l with
    | nil => rw [quote_nil] at h; injection h with h1; omega
    | cons c r =>
      by_cases h34 : c = 34
      · subst h34; rw [quote_done] at h; cases h
      · by_cases h92 : c = 92
        · subst h92
          cases r with
          | nil => rw [quote_escend] at h; injection h with h1; omega
          | cons d r =>
            cases he : escL d with
            | none => rw [quote_escbad _ he] at h; injection h with h1; omega
            | some e =>
              rw [quote_esc _ he] at h
              obtain ⟨o', h'⟩ := cons_bad h
              exact ih r code o' (by simp at hl; omega) h'
        · by_cases hb : c.toNat < 32 ∨ c = 127
          · rw [quote_bad h34 h92 hb] at h; injection h with h1; omega
          · rw [quote_more h34 h92 hb] at h
            obtain ⟨o', h'⟩ := cons_bad h
            exact ih r code o' (by simp at hl; omega) h'
theorem token_code {c : UInt8} {r : Bs} {code k : Nat} (h : tokenL c r = .bad code k) : 70 ≤ code := by
  unfold tokenL at h
  split at h
  · cases h
  · split at h
    · cases h
    · split at h
      · split at h
        · cases h
        · rename_i hq
          injection h with h1
          subst h1
          exact quote_code _ _ _ _ (Nat.le_refl _) hq
        · rename_i hq
          injection h with h1
          subst h1
          exact quote_code _ _ _ _ (Nat.le_refl _) hq
      · split at h
        · split at h
          · split at h
            · injection h with h1; omega
            · cases h
          · injection h with h1; omega
        · split at h
          · cases h
          · injection h with h1; omega
theorem skip_le (l : Bs) : (skipL l).1 ≤ l.length := by
  induction l using skipL.induct with
  | case1 => rw [skipL]; exact Nat.le_refl _
  | case2 c r hb ih => rw [skipL, if_pos hb]; simp; omega
  | case3 c r hb hp ih =>
    rw [skipL, if_neg hb, if_pos hp]
    have := lineEnd_le r
    simp only [List.length_drop] at ih
    simp
    omega
  | case4 c r hb hp hq hn => rw [skipL, if_neg hb, if_neg hp, if_pos hq, if_pos hn]; simp
  | case5 c r hb hp hq hn ih =>
    rw [skipL, if_neg hb, if_neg hp, if_pos hq, if_neg hn]
    obtain ⟨n, hn2⟩ := Int.eq_ofNat_of_zero_le (Int.not_lt.1 hn)
    have hle := index_le _ _ _ hn2
    rw [hn2] at ih ⊢
    simp only [Int.toNat_natCast, List.length_drop, List.length_cons, List.length_nil] at ih hle ⊢
    omega
  | case6 c r hb hp hq => rw [skipL, if_neg hb, if_neg hp, if_neg hq]; simp
theorem Scan.grown2 {w W : World} {g : Nat} {s : ByteArray} {i c f : Int} {r : Option Nat} (h : Scan w g s i c f) (hg : w.grownBy W r) (hne : some g ≠ r) : Scan W g s i c f := (hg.block g (blk_lt h) hne).trans h
theorem token_ok (g : Nat) (s : ByteArray) (i : Nat) (c f : Int) (w : World) (h : Scan w g s i c f) (hi : i < s.size) (hs : s.size ≤ 4096) (te : TypeId) (pe : Value) (hE : w.cell? ⟨2, 0, none⟩ = some (.iface te pe)) (kind : Nat) (t : Bs) (v : Int) (m : Nat) (hk : tokenL s[i] ((bs s).drop (i + 1)) = .ok kind t v m) :
    Calls Tryd.prog 14 #[.pointer (some ⟨g, 0, none⟩)] w fun e w' => e = .returned (.agg #[.int .i64 kind, .string ⟨t.toArray⟩, .int .i64 v, .int .i64 i]) ∧ Scan w' g s ((i + 1 + m : Nat) : Int) c f ∧ w.grownBy w' (some g) :=
  (token_any g s i c f w h hi hs te pe hE).mono fun e w' ⟨hT, hG⟩ => by
    rw [hk] at hT
    exact ⟨hT.1, hT.2, hG⟩
theorem token_bad (g : Nat) (s : ByteArray) (i : Nat) (c f : Int) (w : World) (h : Scan w g s i c f) (hi : i < s.size) (hs : s.size ≤ 4096) (te : TypeId) (pe : Value) (hE : w.cell? ⟨2, 0, none⟩ = some (.iface te pe)) (code k : Nat) (hk : tokenL s[i] ((bs s).drop (i + 1)) = .bad code k) :
    Calls Tryd.prog 14 #[.pointer (some ⟨g, 0, none⟩)] w fun e w' => ∃ a b d, e = .returned (.agg #[.int .i64 a, .string b, .int .i64 d, .int .i64 i]) ∧ (∃ p, Scan w' g s p code ((i + k : Nat) : Int)) ∧ w.grownBy w' (some g) :=
  (token_any g s i c f w h hi hs te pe hE).mono fun e w' ⟨hT, hG⟩ => by
    rw [hk] at hT
    obtain ⟨⟨a, b, d, he⟩, hp⟩ := hT
    exact ⟨a, b, d, he, hp, hG⟩
theorem quote_len (n : Nat) : ∀ (l : Bs) (t : Bs) (k : Nat), l.length ≤ n → quoteL l = .ok t k → k ≤ l.length := by
  induction n with
  | zero =>
    intro l t k hl h
    obtain rfl : l = [] := List.length_eq_zero_iff.1 (by omega)
    rw [quote_nil] at h
    cases h
  | succ n ih =>
    intro l t k hl h
    have cons_ok : ∀ {e : UInt8} {m : Nat} {q : QR}, QR.cons e m q = .ok t k → ∃ t' k', q = .ok t' k' ∧ k = k' + m := fun {e m q} h => by
      cases q with
      | ok t' k' => injection h with h1 h2; exact ⟨t', k', rfl, h2.symm⟩
      | bad c o => cases o <;> cases h
    cases l with
    | nil => rw [quote_nil] at h; cases h
    | cons c r =>
      by_cases h34 : c = 34
      · subst h34; rw [quote_done] at h; injection h with h1 h2; simp; omega
      · by_cases h92 : c = 92
        · subst h92
          cases r with
          | nil => rw [quote_escend] at h; cases h
          | cons d r =>
            cases he : escL d with
            | none => rw [quote_escbad _ he] at h; cases h
            | some e =>
              rw [quote_esc _ he] at h
              obtain ⟨t', k', h', rfl⟩ := cons_ok h
              have := ih r t' k' (by simp at hl; omega) h'
              simp; omega
        · by_cases hb : c.toNat < 32 ∨ c = 127
          · rw [quote_bad h34 h92 hb] at h; cases h
          · rw [quote_more h34 h92 hb] at h
            obtain ⟨t', k', h', rfl⟩ := cons_ok h
            have := ih r t' k' (by simp at hl; omega) h'
            simp; omega
theorem token_len {c : UInt8} {r t : Bs} {kind m : Nat} {v : Int} (h : tokenL c r = .ok kind t v m) : m ≤ r.length := by
  unfold tokenL at h
  split at h
  · injection h with _ _ _ h; omega
  · split at h
    · injection h with _ _ _ h; omega
    · split at h
      · split at h
        · rename_i hq
          injection h with _ _ _ h
          subst h
          exact quote_len _ _ _ _ (Nat.le_refl _) hq
        · cases h
        · cases h
      · split at h
        · split at h
          · split at h
            · cases h
            · injection h with _ _ _ h; subst h; exact while_le _ _
          · cases h
        · split at h
          · injection h with _ _ _ h; subst h; exact while_le _ _
          · cases h
theorem info31 : (Tryd.prog.info? 31).map (fun i => (i.zero, i.size, i.bytes)) = some (some (.agg #[.int .i64 0, .string ⟨#[]⟩, .int .i64 0, .int .i64 0]), 4, 40) := by kernel_rfl

/-- A text's tokens or its fault, as Tokens tells it. -/
def tokensOf (s : ByteArray) : Except (Nat × Nat) (List Tok) := if 4096 < s.size then .error (2, 0) else tokensL 0 (bs s)
/-- What Tokens answers. -/
def Toks (e : Ending) (w w' : World) : Except (Nat × Nat) (List Tok) → Prop
  | .error (code, p) => e = .returned (.tuple #[.slice none 0 0, .agg #[.int .i64 code, .int .i64 p]])
  | .ok ts => ∃ v, e = .returned (.tuple #[v, .agg #[.int .i64 0, .int .i64 0]]) ∧ Kd.R k31 31 w' w.heap.size (fun _ => True) v (ts.map toS)

set_option maxRecDepth 100000 in
set_option maxHeartbeats 4000000 in
theorem tokens_long (s : ByteArray) (w : World) (hs : 4096 < s.size) :
    Calls Tryd.prog 7 #[.string s] w fun e w' => Toks e w w' (tokensOf s) ∧ Below w.heap.size w w' := by
  have h1 : decide (4096 < s.size) = true := by simpa using hs
  have HT := Aside0.mk (show tokensOf s = .error (2, 0) by unfold tokensOf; rw [if_pos hs])
  go_enter Tryd.func7, Tryd.ntmps7
  go_wp2
  refine bodyPost_ret (v := .tuple #[.slice none 0 0, .agg #[.int .i64 2, .int .i64 0]]) (by simp [results, Tryd.results7, go_sem]) rfl ⟨?_, ?_⟩
  · rw [HT.out]; rfl
  · exact (Below.refl _ _).alloc (Nat.le_refl _) _
/-- The fault that Tokens hands back: its block. -/
def FB (W : World) (b : Nat) : Prop := W.heap[b]? = some (.cells #[.int .i64 0, .int .i64 0] 26 (0, 0))
theorem FB.c0 {W : World} {b : Nat} (h : FB W b) : W.cell? ⟨b, 0, none⟩ = some (.int .i64 0) := (blk_cell h 0).trans rfl
theorem FB.c1 {W : World} {b : Nat} (h : FB W b) : W.cell? ⟨b, 1, none⟩ = some (.int .i64 0) := (blk_cell h 1).trans rfl
theorem FB.fz {W : World} {b : Nat} (h : FB W b) (j : Nat) : W.frozen? ⟨b, j, none⟩ = false := blk_frozen h j
theorem bgrown {w W W1 : World} {B : Nat} {r : Option Nat} (h : Below B w W) (hg : W.grownBy W1 r) (hB : B ≤ W.heap.size) (hr : ∀ k, r = some k → B ≤ k) : Below B w W1 := h.grown hg hB hr

set_option maxRecDepth 100000 in
set_option maxHeartbeats 8000000 in
theorem tokens_short (s : ByteArray) (w : World) (hs : s.size ≤ 4096) (m : Int) (te : TypeId) (pe : Value) (hm : w.cell? ⟨0, 0, none⟩ = some (.int .i64 m)) (hE : w.cell? ⟨2, 0, none⟩ = some (.iface te pe)) :
    Calls Tryd.prog 7 #[.string s] w fun e w' => Toks e w w' (tokensOf s) ∧ Below w.heap.size w w' := by
  have h1 : decide (4096 < s.size) = false := by simpa using hs
  have HT := Aside0.mk (show tokensOf s = tokensL 0 (bs s) by unfold tokensOf; rw [if_neg (by omega)])
  have HM := Aside0.mk hm
  have HE := Aside0.mk hE
  clear hm hE
  go_enter Tryd.func7, Tryd.ntmps7
  go_wp2_with (first | (go_at_call 13; refine (skip_any (w.heap.size + 1) s 0 0 0 m _ (by simpa [Scan] using heap_alloc_new (w.alloc (.cells #[.int .i64 0, .int .i64 0] 26)) (.cells #[.string s, .int .i64 0, .int .i64 0, .int .i64 0] 40)) (Nat.zero_le _) hs (pw_cell_below (((Below.refl _ _).alloc (Nat.le_refl _) _).alloc (by simp) _) HM.out)).mono ?_; rintro e w1 ⟨rfl, hS1, hG1⟩))
  have hB1 := bgrown (((Below.refl _ _).alloc (Nat.le_refl _) _).alloc (by simp) _) hG1 (by simp; omega) (fun k hk => by injection hk with hk; omega)
  have hF1 : FB w1 w.heap.size := (hG1.block w.heap.size (by simp; omega) (by simp)).trans ((Lib.alloc_old _ _ _ (by simp)).trans (heap_alloc_new w _))
  have hsz1 := hG1.size
  simp only [World.size_alloc] at hsz1
  have HS1 := Aside0.mk hS1
  have HB1 := Aside0.mk hB1
  have HF1 := Aside0.mk hF1
  clear hS1 hB1 hF1 hG1
  go_loopg [5] (s.size + 1) (fun k v5 wr => ∃ (i : Nat) (acc : List Tok), i + (skipL ((bs s).drop i)).1 ≤ s.size ∧ k = s.size + 1 - i ∧ acc.length ≤ i ∧ w.heap.size + 1 < wr.heap.size ∧ Aside0 (Skipped wr (w.heap.size + 1) s i 0 0) ∧ Aside0 (FB wr w.heap.size) ∧
    Aside0 (Kd.R k31 31 wr w.heap.size (fun k => k ≠ w.heap.size + 1 ∧ k ≠ w.heap.size) v5 (acc.map toS)) ∧ Aside0 (tokensL 0 (bs s) = pre acc (tokensL i ((bs s).drop i))) ∧ Aside0 (Below w.heap.size w wr))
  case atStart => exact ⟨0, [], by have := skip_le (bs s); rw [bs_len] at this; simpa using this, rfl, by simp, by omega, HS1, HF1, ⟨Kd.R_nil _ _ _ _ _⟩, ⟨by rw [pre_nil]; rfl⟩, HB1⟩
  case round =>
    clear HS1 HB1 HF1 hsz1
    obtain ⟨i, acc, hP, rfl, hal, hsz, HS, HF, HO, HR, HB⟩ := hrel
    have z0 := HF.out.c0
    have z1 := HF.out.c1
    have zf0 := HF.out.fz 0
    have zf1 := HF.out.fz 1
    obtain ⟨P, hPe⟩ : ∃ P, P = i + (skipL ((bs s).drop i)).1 := ⟨_, rfl⟩
    rw [← hPe] at hP
    have hiP : i ≤ P := by omega
    cases hop : (skipL ((bs s).drop i)).2 with
    | true =>
      have hS : Scan wr (w.heap.size + 1) s P 71 P := by
        have := HS.out
        unfold Skipped at this
        rw [hop, ← hPe] at this
        simpa using this
      have HRes := Aside0.mk (show tokensOf s = .error (71, P) by rw [HT.out, HR.out, tokens_open hop, ← hPe]; rfl)
      have g0 := hS.c0
      have g1 := hS.c1
      have g2 := hS.c2
      have g3 := hS.c3
      clear hS hop hPe HR
      by_cases hlt : P < s.size
      all_goals
        go_wp2
        go_region
        go_wp2
        refine bodyPost_ret (v := .tuple #[.slice none 0 0, .agg #[.int .i64 71, .int .i64 P]]) (by simp [results, Tryd.results7, go_sem, z0, z1]) rfl ⟨?_, ?_⟩
        · rw [HRes.out]; rfl
        · exact below_drew ((HB.out.setCell (p := ⟨w.heap.size, 0, none⟩) (Nat.le_refl _) _).setCell (p := ⟨w.heap.size, 1, none⟩) (Nat.le_refl _) _)
    | false =>
      have hS : Scan wr (w.heap.size + 1) s P 0 0 := by
        have := HS.out
        unfold Skipped at this
        rw [hop, ← hPe] at this
        simpa using this
      have HSP := Aside0.mk hS
      have g0 := hS.c0
      have g1 := hS.c1
      have g2 := hS.c2
      have g3 := hS.c3
      have HPE := Aside0.mk hPe
      have HOP := Aside0.mk hop
      clear hS hPe hop HS
      by_cases hlt : P < s.size
      · have HD := Aside0.mk (show ((bs s).drop i).drop (skipL ((bs s).drop i)).1 = s[P] :: (bs s).drop (P + 1) by rw [List.drop_drop, ← HPE.out]; exact drop_at hlt)
        have HM2 := Aside0.mk (pw_cell_below HB.out HM.out)
        have HE2 := Aside0.mk (pw_cell_below HB.out HE.out)
        cases htk : tokenL s[P] ((bs s).drop (P + 1)) with
        | bad code k =>
          have HRes := Aside0.mk (show tokensOf s = .error (code, P + k) by rw [HT.out, HR.out, tokens_bad HOP.out HD.out htk, ← HPE.out]; rfl)
          have hcode := token_code htk
          have HTK := Aside0.mk htk
          clear htk HR HD
          have hc0 : ((code : Int) == 0) = false := by simp; omega
          have hc1 : ((code : Int) != 0) = true := by simp; omega
          go_wp2_with (first | (go_at_call 14; refine (token_bad (w.heap.size + 1) s P 0 0 _ HSP.out hlt hs te pe HE2.out code k HTK.out).mono ?_; rintro e w2 ⟨ta, tb, td, rfl, ⟨pp, hS2⟩, hG2⟩; have hsz2 := hG2.size; have HS2 := Aside0.mk hS2; have HF2 := Aside0.mk ((hG2.block _ (by omega) (by simp)).trans HF.out); have HO2 := Aside0.mk (Kd.R_grown HO.out hG2 (fun k hk => by simpa using hk.1)); have HB2 := Aside0.mk (bgrown HB.out hG2 (by omega) (fun k hk => by injection hk with hk; omega)); clear hS2 hG2) | (at_builtin; go_must (refine Kd.R_append k31 (w0 := w) w.heap.size rfl (.tmp 32) (.tmp 35) 23 31 (.agg #[.int .i64 0, .string ⟨#[]⟩, .int .i64 0, .int .i64 0]) 40 rfl Tryd.underlying23 info31 rfl (by decide) (by decide) _ (acc.map toS) ⟨ta, tb, td, P⟩ _ (fun k => k ≠ w.heap.size + 1 ∧ k ≠ w.heap.size) (fun _ => False) rfl rfl (k31_mkM _ _ _ _) (fun k hk => hk.elim) (fun k hk => by omega) HO2.out HB2.out (by omega) (by simp; omega) ?_); intro v3 w3 HO3 HB3 HG3 _; have hS3 := HS2.out.grown2 HG3 (by exact Kd.R_ne HO2.out HS2.out (by decide)); have hF3 : FB w3 w.heap.size := (HG3.block _ (by omega) (by exact Kd.R_ne HO2.out HF2.out (by decide))).trans HF2.out; have g0 := hS3.c0; have g1 := hS3.c1; have g2 := hS3.c2; have g3 := hS3.c3; have z0 := hF3.c0; have z1 := hF3.c1; have zf0 := hF3.fz 0; have zf1 := hF3.fz 1; clear hS3 hF3))
          go_region
          go_wp2
          refine bodyPost_ret (v := .tuple #[.slice none 0 0, .agg #[.int .i64 code, .int .i64 ((P + k : Nat) : Int)]]) (by simp [results, Tryd.results7, go_sem, z0, z1]) rfl ⟨?_, ?_⟩
          · rw [HRes.out]; rfl
          · exact below_drew ((HB3.setCell (p := ⟨w.heap.size, 0, none⟩) (Nat.le_refl _) _).setCell (p := ⟨w.heap.size, 1, none⟩) (Nat.le_refl _) _)
        | ok kind tt v mm =>
          have hml := token_len htk
          have HTK := Aside0.mk htk
          rw [List.length_drop, bs_len] at hml
          have HR2 := Aside0.mk (show tokensL 0 (bs s) = pre (acc ++ [⟨kind, ⟨tt.toArray⟩, v, P⟩]) (tokensL (P + 1 + mm) ((bs s).drop (P + 1 + mm))) by rw [HR.out, tokens_step HOP.out HD.out htk, ← HPE.out, pre_pre, List.drop_drop, show P + (mm + 1) = P + 1 + mm by omega])
          clear htk HR HD
          go_wp2_with (first | (go_at_call 14; refine (token_ok (w.heap.size + 1) s P 0 0 _ HSP.out hlt hs te pe HE2.out kind tt v mm HTK.out).mono ?_; rintro e w2 ⟨rfl, hS2, hG2⟩; have hsz2 := hG2.size; have HS2 := Aside0.mk hS2; have HF2 := Aside0.mk ((hG2.block _ (by omega) (by simp)).trans HF.out); have HO2 := Aside0.mk (Kd.R_grown HO.out hG2 (fun k hk => by simpa using hk.1)); have HB2 := Aside0.mk (bgrown HB.out hG2 (by omega) (fun k hk => by injection hk with hk; omega)); clear hS2 hG2) | (at_builtin; go_must (refine Kd.R_append k31 (w0 := w) w.heap.size rfl (.tmp 32) (.tmp 35) 23 31 (.agg #[.int .i64 0, .string ⟨#[]⟩, .int .i64 0, .int .i64 0]) 40 rfl Tryd.underlying23 info31 rfl (by decide) (by decide) _ (acc.map toS) ⟨kind, ⟨tt.toArray⟩, v, P⟩ _ (fun k => k ≠ w.heap.size + 1 ∧ k ≠ w.heap.size) (fun _ => False) rfl rfl (k31_mkM _ _ _ _) (fun k hk => hk.elim) (fun k hk => by omega) HO2.out HB2.out (by omega) (by simp; omega) ?_); intro v3 w3 HO3' HB3' HG3 _; have HO3 := Aside0.mk HO3'; have HB3 := Aside0.mk HB3'; have hsz3 := HG3.size; have HS3 := Aside0.mk (HS2.out.grown2 HG3 (by exact Kd.R_ne HO2.out HS2.out (by decide))); have HF3 := Aside0.mk (show FB w3 w.heap.size from (HG3.block _ (by omega) (by exact Kd.R_ne HO2.out HF2.out (by decide))).trans HF2.out); clear HO3' HB3' HG3; have g0 := HS3.out.c0; have g1 := HS3.out.c1; have g2 := HS3.out.c2; have g3 := HS3.out.c3; have z0 := HF3.out.c0; have z1 := HF3.out.c1; have zf0 := HF3.out.fz 0; have zf1 := HF3.out.fz 1) | (go_at_call 13; refine (skip_any (w.heap.size + 1) s (P + 1 + mm) 0 0 m _ HS3.out (by omega) hs (pw_cell_below HB3.out HM.out)).mono ?_; rintro e w4 ⟨rfl, hS4, hG4⟩; have hsz4 := hG4.size; have HS4 := Aside0.mk hS4; have HG4 := Aside0.mk hG4; clear hS4 hG4))
          go_roundg (s.size + 1 - (P + 1 + mm))
          case measure => omega
          case rel =>
            exact ⟨P + 1 + mm, acc ++ [⟨kind, ⟨tt.toArray⟩, v, P⟩], by have := skip_le ((bs s).drop (P + 1 + mm)); rw [List.length_drop, bs_len] at this; omega, rfl, by rw [List.length_append]; simp; omega, by omega, HS4, ⟨(HG4.out.block _ (by omega) (by simp)).trans HF3.out⟩,
              ⟨by rw [List.map_append]; exact Kd.R_grown HO3.out HG4.out (fun k hk => by simpa using hk.1)⟩, HR2, ⟨bgrown HB3.out HG4.out (by omega) (fun k hk => by injection hk with hk; omega)⟩⟩
      · have HRes := Aside0.mk (show tokensOf s = .ok acc by rw [HT.out, HR.out, tokens_end HOP.out (by rw [List.drop_drop, ← HPE.out]; exact drop_end (by omega))]; simp [pre])
        clear HR
        go_wp2
        refine bodyPost_ret (v := .tuple #[u5, .agg #[.int .i64 0, .int .i64 0]]) (by simp [results, Tryd.results7, go_sem, z0, z1]) rfl ⟨?_, ?_⟩
        · rw [HRes.out]
          exact ⟨u5, rfl, Kd.R_mono (Kd.R_far (p := ⟨w.heap.size, 1, none⟩) (Kd.R_far (p := ⟨w.heap.size, 0, none⟩) HO.out (fun k hk => hk.2) _) (fun k hk => hk.2) _) (fun _ _ => trivial)⟩
        · exact (HB.out.setCell (p := ⟨w.heap.size, 0, none⟩) (Nat.le_refl _) _).setCell (p := ⟨w.heap.size, 1, none⟩) (Nat.le_refl _) _
end Go.Proofs.YtdffbaikdibalaaDoor.T

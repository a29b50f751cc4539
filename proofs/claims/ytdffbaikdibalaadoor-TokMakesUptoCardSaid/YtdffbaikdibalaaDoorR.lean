/- A number's digits are its number; a quoted text is its text: plain laws, no program in sight. -/
import Derived.Test.YtdffbaikdibalaaDoorN
namespace Go.Proofs.YtdffbaikdibalaaDoor.T
set_option linter.unusedVariables false
set_option linter.unusedSimpArgs false
/-- The digits of a number, none for 0. -/
def decL (m : Nat) : Bs := if h : m = 0 then [] else decL (m / 10) ++ [UInt8.ofNat (48 + m % 10)]
  termination_by m
  decreasing_by omega
/-- A number as Decimal writes it. -/
def decB (n : Int) : Bs := if n = 0 then [48] else if n < 0 then 45 :: decL n.natAbs else decL n.natAbs
theorem decL_zero : decL 0 = [] := by rw [decL]; rfl
theorem decL_step {m : Nat} (h : m ≠ 0) : decL m = decL (m / 10) ++ [UInt8.ofNat (48 + m % 10)] := by rw [decL, dif_neg h]
theorem dig_nat (d : Nat) (h : d < 10) : (UInt8.ofNat (48 + d)).toNat = 48 + d := by
  rw [UInt8.toNat_ofNat']; omega
theorem dig_is (d : Nat) (h : d < 10) : digitB (UInt8.ofNat (48 + d)).toNat = true := by
  rw [dig_nat d h]; simp [digitB]; omega
theorem decL_digits (n : Nat) : ∀ m, m ≤ n → ∀ c ∈ decL m, digitB c.toNat = true := by
  induction n with
  | zero => intro m hm c hc; obtain rfl : m = 0 := by omega
            rw [decL_zero] at hc; simp at hc
  | succ n ih =>
    intro m hm c hc
    by_cases h : m = 0
    · subst h; rw [decL_zero] at hc; simp at hc
    · rw [decL_step h] at hc
      rcases List.mem_append.1 hc with hc | hc
      · exact ih (m / 10) (by omega) c hc
      · rw [List.mem_singleton.1 hc]; exact dig_is _ (by omega)
theorem decL_ne {m : Nat} (h : m ≠ 0) : decL m ≠ [] := by rw [decL_step h]; simp
theorem uint_dec (n : Nat) : ∀ (m : Nat) (r : Bs), m ≤ n → m ≤ 9223372036854775808 → Lib.parseUintM (2 ^ 64 - 1) 0 (decL m ++ r) = Lib.parseUintM (2 ^ 64 - 1) m r := by
  induction n with
  | zero => intro m r hm hb; obtain rfl : m = 0 := by omega
            rw [decL_zero]; rfl
  | succ n ih =>
    intro m r hm hb
    by_cases h : m = 0
    · subst h; rw [decL_zero]; rfl
    · rw [decL_step h, List.append_assoc, ih (m / 10) _ (by omega) (by omega)]
      have hd := dig_nat (m % 10) (by omega)
      show Lib.parseUintM (2 ^ 64 - 1) (m / 10) (UInt8.ofNat (48 + m % 10) :: r) = _
      rw [Lib.parseUintM, hd, if_pos (by omega), if_neg (by omega), if_neg (by omega), show m / 10 * 10 + (48 + m % 10 - 48) = m by omega]
theorem uintB_dec {m : Nat} (h : m ≠ 0) (hb : m ≤ 9223372036854775808) : Lib.parseUintB 64 (decL m) = .ok m := by
  have := uint_dec m m [] (Nat.le_refl _) hb
  rw [List.append_nil] at this
  unfold Lib.parseUintB
  rw [if_neg (decL_ne h), this]
  rfl
/-- What Decimal writes: its first byte and the others; the others are digits; its number. -/
theorem dec_shape (n : Int) (h1 : -9223372036854775808 ≤ n) (h2 : n ≤ 9223372036854775807) :
    ∃ c r, decB n = c :: r ∧ (∀ x ∈ r, digitB x.toNat = true) ∧ (digitB c.toNat = true ∨ (c = 45 ∧ r ≠ [])) ∧ Lib.parseIntB 64 (c :: r) = .ok n := by
  unfold decB
  split
  · rename_i h; subst h; exact ⟨48, [], rfl, by simp, .inl (by decide), by rfl⟩
  · rename_i h0
    have hm : n.natAbs ≠ 0 := by omega
    have hu := uintB_dec hm (by omega)
    have hd := decL_digits _ n.natAbs (Nat.le_refl _)
    split
    · rename_i hn
      refine ⟨45, _, rfl, hd, .inr ⟨rfl, decL_ne hm⟩, ?_⟩
      unfold Lib.parseIntB
      dsimp only
      rw [if_pos (by simp), hu]
      dsimp only
      rw [if_neg (by simp), if_neg (by simp; omega), if_pos (by simp)]
      congr 1; omega
    · rename_i hn
      cases hl : decL n.natAbs with
      | nil => exact absurd hl (decL_ne hm)
      | cons c r =>
        rw [hl] at hd hu
        have hc := hd c (by simp)
        refine ⟨c, r, rfl, fun x hx => hd x (by simp [hx]), .inl hc, ?_⟩
        simp [digitB] at hc
        unfold Lib.parseIntB
        dsimp only
        rw [if_neg (by omega), hu]
        dsimp only
        rw [if_neg (by omega), if_neg (by omega), if_neg (by omega)]
        congr 1; omega
theorem num_word {c : UInt8} {r : Bs} (h : digitB c.toNat = true ∨ (c = 45 ∧ r ≠ [])) : wordB c.toNat = true := by
  rcases h with h | ⟨rfl, _⟩
  · simp [wordB, h]
  · decide
theorem while_digits {r s : Bs} {x : UInt8} (hr : ∀ c ∈ r, digitB c.toNat = true) (hx : digitB x.toNat = false) : whileL digitB (r ++ x :: s) = r.length := by
  induction r with
  | nil => rw [List.nil_append, whileL, if_neg (by rw [hx]; simp)]; rfl
  | cons c r ih => rw [List.cons_append, whileL, if_pos (hr c (by simp)), ih (fun d hd => hr d (by simp [hd]))]; rfl
theorem num_starts {c : UInt8} {r : Bs} (s : Bs) (hr : ∀ x ∈ r, digitB x.toNat = true) (h : digitB c.toNat = true ∨ (c = 45 ∧ r ≠ [])) : (digitB c.toNat || (c == 45 && digitB (headB (r ++ s)))) = true := by
  rcases h with h | ⟨rfl, h⟩
  · rw [h]; rfl
  · cases r with
    | nil => exact absurd rfl h
    | cons d r => have := hr d (by simp); simp [headB, this]
/-- A number's token, whatever byte stands behind it that is no digit. -/
theorem token_dec {c : UInt8} {r : Bs} {n : Int} (hr : ∀ x ∈ r, digitB x.toNat = true) (h : digitB c.toNat = true ∨ (c = 45 ∧ r ≠ [])) (hp : Lib.parseIntB 64 (c :: r) = .ok n) (x : UInt8) (s : Bs) (hx : digitB x.toNat = false) :
    tokenL c (r ++ x :: s) = if wordB x.toNat then .bad 73 0 else .ok 3 (c :: r) n r.length := by
  rw [token_num (num_word h) (num_starts _ hr h), while_digits hr hx, List.take_left, List.drop_left, hp]
  rfl
theorem token_dec_end {c : UInt8} {r : Bs} {n : Int} (hr : ∀ x ∈ r, digitB x.toNat = true) (h : digitB c.toNat = true ∨ (c = 45 ∧ r ≠ [])) (hp : Lib.parseIntB 64 (c :: r) = .ok n) : tokenL c r = .ok 3 (c :: r) n r.length := by
  have hs := num_starts [] hr h
  rw [List.append_nil] at hs
  rw [token_num (num_word h) hs, whileL_all hr, List.take_length, List.drop_length, hp]
  rfl
theorem skip_one (c : UInt8) (r : Bs) (h : wordB c.toNat = true) : skipL (32 :: c :: r) = (1, false) := by
  obtain ⟨h0, h1, _⟩ := word_not h
  rw [sk1 _ _ (by decide), sk0 _ _ h0 h1]
theorem dec_twice {z D : ByteArray} {n : Int} (h1 : -9223372036854775808 ≤ n) (h2 : n ≤ 9223372036854775807) (hD : bs D = decB n) (hz : bs z = decB n ++ 32 :: decB n) (hs : z.size ≤ 4096) : tokensOf z = .ok [⟨3, D, n, 0⟩, ⟨3, D, n, (D.size + 1 : Nat)⟩] := by
  obtain ⟨c, r, hd, hr, hc, hp⟩ := dec_shape n h1 h2
  rw [hd] at hz hD
  have hw := num_word hc
  obtain ⟨w0, w1, _⟩ := word_not hw
  have e1 : tokenL c (r ++ 32 :: c :: r) = .ok 3 (c :: r) n r.length := by rw [token_dec hr hc hp 32 _ (by decide)]; rfl
  have hlen : D.size = r.length + 1 := by rw [← bs_len, hD]; rfl
  unfold tokensOf
  rw [if_neg (by omega), hz]
  refine (one (a := 0) 0 (sk0 _ _ w0 w1) rfl e1 (ts := [⟨3, D, n, (D.size + 1 : Nat)⟩]) ?_).trans ?_
  · rw [List.drop_left]
    refine (one (a := 0 + 0 + (r.length + 1)) 1 (skip_one c r hw) rfl (token_dec_end hr hc hp) (ts := []) ?_).trans ?_
    · rw [List.drop_length]; exact end_
    · rw [toA hD, hlen]; congr 3; omega
  · rw [toA hD]; rfl
theorem dec_then {z : ByteArray} {n : Int} (h1 : -9223372036854775808 ≤ n) (h2 : n ≤ 9223372036854775807) (hz : bs z = 120 :: 32 :: (decB n ++ [121])) (hs : z.size ≤ 4096) : tokensOf z = .error (73, 2) := by
  obtain ⟨c, r, hd, hr, hc, hp⟩ := dec_shape n h1 h2
  rw [hd] at hz
  have hw := num_word hc
  unfold tokensOf
  rw [if_neg (by omega), hz]
  rw [tokens_step (a := 0) (l := 120 :: 32 :: (c :: r ++ [121])) (c := 120) (r := 32 :: (c :: r ++ [121])) (kind := 1) (t := [120]) (v := 0) (m := 0) (by rw [sk0 _ _ (by decide) (by decide)]) (by rw [sk0 _ _ (by decide) (by decide)]; rfl) (by rfl), sk0 _ _ (by decide) (by decide)]
  have e2 : tokensL (0 + (0, false).1 + (0 + 1)) ((32 :: (c :: r ++ [121])).drop 0) = .error (73, 2) := by
    have hs1 := skip_one c (r ++ [121]) hw
    refine (tokens_bad (a := 0 + 0 + (0 + 1)) (l := 32 :: c :: (r ++ [121])) (c := c) (r := r ++ [121]) (code := 73) (k := 0) (by rw [hs1]) (by rw [hs1]; rfl) (by rw [token_dec hr hc hp 121 [] (by decide)]; rfl)).trans ?_
    rw [hs1]
    rfl
  rw [e2]
  rfl
/-- A byte as the law writes it inside quotes: none, where it may not stand there. -/
def encC (c : UInt8) : Option Bs := if c = 10 then some [92, 110] else if c = 9 then some [92, 116] else if c = 34 ∨ c = 92 then some [92, c] else if c.toNat < 32 ∨ c = 127 then none else some [c]
def encL : Bs → Option Bs
  | [] => some []
  | c :: r => (encC c).bind fun e => (encL r).map fun q => e ++ q
theorem enc_quote : ∀ (t q : Bs) (s : Bs), encL t = some q → quoteL (q ++ 34 :: s) = .ok t (q.length + 1)
  | [], q, s, h => by
    obtain rfl : [] = q := by simpa [encL] using h
    rw [List.nil_append, quote_done]; rfl
  | c :: t, q, s, h => by
    unfold encL at h
    cases he : encC c with
    | none => rw [he] at h; cases h
    | some e =>
      cases hq : encL t with
      | none => rw [he, hq] at h; cases h
      | some q' =>
        rw [he, hq] at h
        obtain rfl : e ++ q' = q := by simpa using h
        have ih := enc_quote t q' s hq
        rw [List.append_assoc]
        unfold encC at he
        split at he
        · rename_i hc; subst hc
          obtain rfl := Option.some.inj he
          show quoteL (92 :: 110 :: (q' ++ 34 :: s)) = _
          rw [quote_esc (e := 10) _ (by decide), ih]; rfl
        · split at he
          · rename_i hc; subst hc
            obtain rfl := Option.some.inj he
            show quoteL (92 :: 116 :: (q' ++ 34 :: s)) = _
            rw [quote_esc (e := 9) _ (by decide), ih]; rfl
          · split at he
            · rename_i hc
              obtain rfl := Option.some.inj he
              show quoteL (92 :: c :: (q' ++ 34 :: s)) = _
              rw [quote_esc (e := c) _ (by rcases hc with rfl | rfl <;> decide), ih]; rfl
            · rename_i hn
              split at he
              · cases he
              · rename_i hb
                obtain rfl := Option.some.inj he
                show quoteL (c :: (q' ++ 34 :: s)) = _
                rw [quote_more (fun h => hn (.inl h)) (fun h => hn (.inr h)) hb, ih]
                show QR.ok (c :: t) (q'.length + 1 + 1) = QR.ok (c :: t) ((c :: q').length + 1)
                rfl
theorem quoted {z text : ByteArray} {q : Bs} (hq : encL (bs text) = some q) (hz : bs z = 34 :: (q ++ [34])) (hs : z.size ≤ 4096) : tokensOf z = .ok [⟨2, text, 0, 0⟩] := by
  unfold tokensOf
  rw [if_neg (by omega), hz]
  have hk : tokenL 34 (q ++ [34]) = .ok 2 (bs text) 0 (q.length + 1) := by
    have := enc_quote _ _ [] hq
    unfold tokenL
    rw [if_neg (by decide), if_neg (by decide), if_pos rfl, this]
  refine (one (a := 0) 0 (sk0 _ _ (by decide) (by decide)) rfl hk (ts := []) ?_).trans ?_
  · rw [show q.length + 1 = (q ++ [34]).length by simp, List.drop_length]; exact end_
  · rw [toA rfl]; rfl
theorem enc_snoc : ∀ (t : Bs) (c : UInt8) (q e : Bs), encL t = some q → encC c = some e → encL (t ++ [c]) = some (q ++ e)
  | [], c, q, e, h, he => by
    obtain rfl : [] = q := by simpa [encL] using h
    simp [encL, he]
  | b :: t, c, q, e, h, he => by
    unfold encL at h
    cases hb : encC b with
    | none => rw [hb] at h; cases h
    | some e1 =>
      cases hq : encL t with
      | none => rw [hb, hq] at h; cases h
      | some q' =>
        rw [hb, hq] at h
        obtain rfl : e1 ++ q' = q := by simpa using h
        rw [List.cons_append, encL, hb, enc_snoc t c q' e hq he]
        simp
theorem encC_len {c : UInt8} {e : Bs} (h : encC c = some e) : e.length ≤ 2 := by
  unfold encC at h
  split at h
  · obtain rfl := Option.some.inj h; simp
  · split at h
    · obtain rfl := Option.some.inj h; simp
    · split at h
      · obtain rfl := Option.some.inj h; simp
      · split at h
        · cases h
        · obtain rfl := Option.some.inj h; simp
end Go.Proofs.YtdffbaikdibalaaDoor.T

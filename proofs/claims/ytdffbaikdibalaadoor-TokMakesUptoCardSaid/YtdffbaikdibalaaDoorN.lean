/- Two texts with a line feed between have the tokens of both: a plain law, no program in sight. -/
import Derived.Test.YtdffbaikdibalaaDoorJ
namespace Go.Proofs.YtdffbaikdibalaaDoor.T
set_option linter.unusedVariables false
set_option linter.unusedSimpArgs false
theorem lineEnd_app (B : Bs) : ∀ r : Bs, lineEnd (r ++ 10 :: B) = lineEnd r
  | [] => by simp [lineEnd]
  | c :: r => by rw [List.cons_append, lineEnd, lineEnd, lineEnd_app B r]
theorem prefix_app (c : UInt8) (r B : Bs) (x : UInt8) (hx : x ≠ 10) : Lib.hasPrefix (c :: (r ++ 10 :: B)) [47, x] = Lib.hasPrefix (c :: r) [47, x] := by
  cases r with
  | nil =>
    have h : (x == 10) = false := beq_eq_false_iff_ne.mpr hx
    show ((47 : UInt8) == c && ((x == 10) && _)) = ((47 : UInt8) == c && false)
    rw [h, Bool.false_and]
  | cons d r => rfl
theorem index_app (B : Bs) : ∀ l : Bs, 0 ≤ Lib.index l [42, 47] → Lib.index (l ++ B) [42, 47] = Lib.index l [42, 47]
  | [], h => by simp [Lib.index] at h
  | [b], h => by
    have h2 : ([42, 47] : Bs).isPrefixOf [b] = false := by
      show ((42 : UInt8) == b && false) = false
      rw [Bool.and_false]
    simp [Lib.index, h2] at h
  | b :: d :: l, h => by
    have ih := index_app B (d :: l)
    have hp : ([42, 47] : Bs).isPrefixOf (b :: ((d :: l) ++ B)) = ([42, 47] : Bs).isPrefixOf (b :: d :: l) := rfl
    rw [Lib.index] at h
    rw [List.cons_append, Lib.index, hp, Lib.index.eq_2 [42, 47] b (d :: l)]
    split
    · rfl
    · rename_i hn
      rw [if_neg hn] at h
      have hge := Lib.index_ge (d :: l) [42, 47]
      by_cases h1 : Lib.index (d :: l) [42, 47] = -1
      · rw [h1] at h
        simp at h
      · rw [ih (by omega)]
theorem skip_app (B : Bs) (l : Bs) : (skipL l).2 = false → skipL (l ++ 10 :: B) = skipL l := by
  induction l using skipL.induct with
  | case1 => intro _; rw [skn]; exact sk0 10 B (by decide) (by decide)
  | case2 c r hb ih =>
    rw [List.cons_append, skipL.eq_2 c r, skipL.eq_2 c (r ++ 10 :: B), if_pos hb, if_pos hb]
    intro h
    rw [ih h]
  | case3 c r hb hp ih =>
    rw [List.cons_append, skipL.eq_2 c r, skipL.eq_2 c (r ++ 10 :: B), if_neg hb, if_neg hb, prefix_app c r B 47 (by decide), if_pos hp, if_pos hp, lineEnd_app, List.drop_append_of_le_length (lineEnd_le r)]
    intro h
    rw [ih h]
  | case4 c r hb hp hq hn =>
    intro h
    rw [skipL.eq_2 c r, if_neg hb, if_neg hp, if_pos hq, if_pos hn] at h
    cases h
  | case5 c r hb hp hq hn ih =>
    have hr : 1 ≤ r.length := by
      cases r with
      | nil =>
        have : ((47 : UInt8) == c && false) = true := hq
        rw [Bool.and_false] at this
        cases this
      | cons d r => simp
    have hi : 0 ≤ Lib.index (r.drop 1) [42, 47] := by omega
    have hroom := Lib.index_room (r.drop 1) [42, 47] hi
    rw [List.length_drop] at hroom
    have h3 : (Lib.index (r.drop 1) [42, 47]).toNat + 3 ≤ r.length := by
      simp only [List.length_cons, List.length_nil] at hroom
      omega
    rw [List.cons_append, skipL.eq_2 c r, skipL.eq_2 c (r ++ 10 :: B), if_neg hb, if_neg hb, prefix_app c r B 47 (by decide), prefix_app c r B 42 (by decide), if_neg hp, if_neg hp, if_pos hq, if_pos hq,
      List.drop_append_of_le_length hr, index_app _ _ hi, if_neg hn, if_neg hn, List.drop_append_of_le_length h3]
    intro h
    rw [ih h]
  | case6 c r hb hp hq =>
    intro _
    rw [List.cons_append, skipL.eq_2 c r, skipL.eq_2 c (r ++ 10 :: B), if_neg hb, if_neg hb, prefix_app c r B 47 (by decide), prefix_app c r B 42 (by decide), if_neg hp, if_neg hp, if_neg hq, if_neg hq]
theorem cons_was {e : UInt8} {m : Nat} {q : QR} {t : Bs} {k : Nat} (h : QR.cons e m q = .ok t k) : ∃ t' k', q = .ok t' k' ∧ e :: t' = t ∧ k' + m = k := by
  cases q with
  | ok t' k' => injection h with h1 h2; exact ⟨t', k', rfl, h1, h2⟩
  | bad c o => cases o <;> cases h
theorem quote_app (B : Bs) (n : Nat) : ∀ (l : Bs) (t : Bs) (k : Nat), l.length ≤ n → quoteL l = .ok t k → quoteL (l ++ B) = .ok t k := by
  induction n with
  | zero =>
    intro l t k hl h
    obtain rfl : l = [] := List.length_eq_zero_iff.1 (by omega)
    rw [quote_nil] at h
    cases h
  | succ n ih =>
    intro l t k hl h
    cases l with
    | nil => rw [quote_nil] at h; cases h
    | cons c r =>
      by_cases h34 : c = 34
      · subst h34; rw [quote_done] at h; rw [List.cons_append, quote_done]; exact h
      · by_cases h92 : c = 92
        · subst h92
          cases r with
          | nil => rw [quote_escend] at h; cases h
          | cons d r =>
            cases he : escL d with
            | none => rw [quote_escbad _ he] at h; cases h
            | some e =>
              rw [quote_esc _ he] at h
              obtain ⟨t', k', h', rfl, rfl⟩ := cons_was h
              rw [List.cons_append, List.cons_append, quote_esc _ he, ih r t' k' (by simp at hl; omega) h']
              rfl
        · by_cases hb : c.toNat < 32 ∨ c = 127
          · rw [quote_bad h34 h92 hb] at h; cases h
          · rw [quote_more h34 h92 hb] at h
            obtain ⟨t', k', h', rfl, rfl⟩ := cons_was h
            rw [List.cons_append, quote_more h34 h92 hb, ih r t' k' (by simp at hl; omega) h']
            rfl
theorem head_app (B r : Bs) (p : Int → Bool) (h0 : p 0 = false) (h10 : p 10 = false) : p (headB (r ++ 10 :: B)) = p (headB r) := by
  cases r with
  | nil => show p 10 = p 0; rw [h0, h10]
  | cons c r => rfl
theorem while_app (B : Bs) (p : Int → Bool) (h10 : p 10 = false) : ∀ r : Bs, whileL p (r ++ 10 :: B) = whileL p r
  | [] => by
    show whileL p (10 :: B) = 0
    rw [whileL, if_neg (by rw [show (((10 : UInt8).toNat : Nat) : Int) = 10 from rfl, h10]; simp)]
  | c :: r => by rw [List.cons_append, whileL, whileL, while_app B p h10 r]
theorem token_app (B : Bs) {c : UInt8} {r t : Bs} {kind m : Nat} {v : Int} (h : tokenL c r = .ok kind t v m) : tokenL c (r ++ 10 :: B) = .ok kind t v m := by
  have hd : digitB (headB (r ++ 10 :: B)) = digitB (headB r) := head_app B r digitB (by decide) (by decide)
  have wd : whileL digitB (r ++ 10 :: B) = whileL digitB r := while_app B digitB (by decide) r
  have ww : whileL wordB (r ++ 10 :: B) = whileL wordB r := while_app B wordB (by decide) r
  have ld := whileL_le digitB r
  have lw := whileL_le wordB r
  have td : (r ++ 10 :: B).take (whileL digitB r) = r.take (whileL digitB r) := List.take_append_of_le_length ld
  have tw : (r ++ 10 :: B).take (whileL wordB r) = r.take (whileL wordB r) := List.take_append_of_le_length lw
  have dd : (r ++ 10 :: B).drop (whileL digitB r) = r.drop (whileL digitB r) ++ 10 :: B := List.drop_append_of_le_length ld
  have hw : wordB (headB (r.drop (whileL digitB r) ++ 10 :: B)) = wordB (headB (r.drop (whileL digitB r))) := head_app B _ wordB (by decide) (by decide)
  unfold tokenL at h ⊢
  rw [hd, wd, ww, td, tw, dd, hw]
  split
  · rename_i h1; rw [if_pos h1] at h; exact h
  · rename_i h1
    rw [if_neg h1] at h
    split
    · rename_i h2; rw [if_pos h2] at h; exact h
    · rename_i h2
      rw [if_neg h2] at h
      split
      · rename_i h3
        rw [if_pos h3] at h
        cases hq : quoteL r with
        | ok t' n =>
          rw [hq] at h
          rw [quote_app (10 :: B) r.length r t' n (Nat.le_refl _) hq]
          exact h
        | bad code o =>
          rw [hq] at h
          cases o <;> cases h
      · rename_i h3
        rw [if_neg h3] at h
        exact h
theorem pre_ok {ts ys : List Tok} {x : Except (Nat × Nat) (List Tok)} (h : pre ts x = .ok ys) : ∃ zs, x = .ok zs ∧ ys = ts ++ zs := by
  cases x with
  | ok zs => injection h with h; exact ⟨zs, rfl, h.symm⟩
  | error e => cases h
/-- The Break that the line feed is. -/
def brk (n : Nat) : Tok := ⟨5, ⟨#[10]⟩, 0, n⟩
theorem joins (B : Bs) (n : Nat) : ∀ (A : Bs) (a : Nat) (xs : List Tok), A.length ≤ n → tokensL a A = .ok xs →
    tokensL a (A ++ 10 :: B) = pre (xs ++ [brk (a + A.length)]) (tokensL (a + A.length + 1) B) := by
  induction n with
  | zero =>
    intro A a xs hl h
    obtain rfl : A = [] := List.length_eq_zero_iff.1 (by omega)
    rw [end_] at h
    injection h with h
    subst h
    have := tokens_step (a := a) (l := 10 :: B) (c := 10) (r := B) (kind := 5) (t := [10]) (v := 0) (m := 0) (by rw [sk0 10 B (by decide) (by decide)]) (by rw [sk0 10 B (by decide) (by decide)]; rfl) (by rfl)
    rw [sk0 10 B (by decide) (by decide)] at this
    exact this
  | succ n ih =>
    intro A a xs hl h
    cases ho : (skipL A).2 with
    | true => rw [tokens_open ho] at h; cases h
    | false =>
      have hs := skip_app B A ho
      have hle := skip_le A
      have hdr : (A ++ 10 :: B).drop (skipL A).1 = A.drop (skipL A).1 ++ 10 :: B := List.drop_append_of_le_length hle
      cases hd : A.drop (skipL A).1 with
      | nil =>
        rw [tokens_end ho hd] at h
        injection h with h
        subst h
        have hlen : (skipL A).1 = A.length := by
          have := congrArg List.length hd
          simp only [List.length_drop, List.length_nil] at this
          omega
        have := tokens_step (a := a) (l := A ++ 10 :: B) (c := 10) (r := B) (kind := 5) (t := [10]) (v := 0) (m := 0) (by rw [hs]; exact ho) (by rw [hs, hdr, hd]; rfl) (by rfl)
        rw [hs, hlen] at this
        exact this
      | cons c r =>
        have hlr := congrArg List.length hd
        simp only [List.length_drop, List.length_cons] at hlr
        cases ht : tokenL c r with
        | bad code k => rw [tokens_bad ho hd ht] at h; cases h
        | ok kind t v m =>
          have hm := token_len ht
          rw [tokens_step ho hd ht] at h
          obtain ⟨zs, hz, rfl⟩ := pre_ok h
          have hnext := ih (r.drop m) _ zs (by rw [List.length_drop]; omega) hz
          rw [tokens_step (a := a) (l := A ++ 10 :: B) (c := c) (r := r ++ 10 :: B) (by rw [hs]; exact ho) (by rw [hs, hdr, hd]; rfl) (token_app B ht), hs, List.drop_append_of_le_length hm, hnext, pre_pre, List.append_assoc]
          rw [List.length_drop, show a + (skipL A).1 + (m + 1) + (r.length - m) = a + A.length by omega]
/-- The same tokens, so many bytes further. -/
def shT (k : Nat) (t : Tok) : Tok := ⟨t.kind, t.text, t.int, t.at_ + k⟩
def shE (k : Nat) : Except (Nat × Nat) (List Tok) → Except (Nat × Nat) (List Tok)
  | .ok ts => .ok (ts.map (shT k))
  | .error (c, p) => .error (c, p + k)
theorem shE_pre (k : Nat) (ts : List Tok) (x : Except (Nat × Nat) (List Tok)) : shE k (pre ts x) = pre (ts.map (shT k)) (shE k x) := by
  cases x with
  | ok zs => simp [pre, shE]
  | error e => rfl
theorem shifts (k : Nat) (n : Nat) : ∀ (l : Bs) (a : Nat), l.length ≤ n → tokensL (a + k) l = shE k (tokensL a l) := by
  induction n with
  | zero =>
    intro l a hl
    obtain rfl : l = [] := List.length_eq_zero_iff.1 (by omega)
    rw [end_, end_]
    rfl
  | succ n ih =>
    intro l a hl
    cases ho : (skipL l).2 with
    | true => rw [tokens_open ho, tokens_open ho, show a + k + (skipL l).1 = a + (skipL l).1 + k by omega]; rfl
    | false =>
      cases hd : l.drop (skipL l).1 with
      | nil => rw [tokens_end ho hd, tokens_end ho hd]; rfl
      | cons c r =>
        have hlr := congrArg List.length hd
        simp only [List.length_drop, List.length_cons] at hlr
        cases ht : tokenL c r with
        | bad code j => rw [tokens_bad ho hd ht, tokens_bad ho hd ht, show a + k + (skipL l).1 + j = a + (skipL l).1 + j + k by omega]; rfl
        | ok kind t v m =>
          rw [tokens_step ho hd ht, tokens_step ho hd ht, shE_pre, show a + k + (skipL l).1 + (m + 1) = a + (skipL l).1 + (m + 1) + k by omega, ih _ _ (by rw [List.length_drop]; omega)]
          simp [shT]
          rw [show (a : Int) + k + (skipL l).1 = a + (skipL l).1 + k by omega]
theorem bs_append (a b : ByteArray) : bs (a ++ b) = bs a ++ bs b := by simp [bs]
theorem joins_of {a b z : ByteArray} {xs : List Tok} (hz : bs z = bs a ++ 10 :: bs b) (hs : a.size + b.size ≤ 4000) (ha : tokensOf a = .ok xs) :
    tokensOf z = pre (xs ++ [brk a.size]) (shE (a.size + 1) (tokensOf b)) := by
  have hsz : z.size = a.size + 1 + b.size := by
    rw [← bs_len, hz, List.length_append, List.length_cons, bs_len, bs_len]; omega
  unfold tokensOf at ha ⊢
  rw [if_neg (by omega)] at ha
  rw [if_neg (by omega), if_neg (by omega), hz, joins (bs b) (bs a).length (bs a) 0 xs (Nat.le_refl _) ha, bs_len, Nat.zero_add]
  have := shifts (a.size + 1) (bs b).length (bs b) 0 (Nat.le_refl _)
  rw [Nat.zero_add] at this
  rw [this]
theorem cons_bad_was {e : UInt8} {m : Nat} {q : QR} {c k : Nat} (h : QR.cons e m q = .bad c (some k)) : ∃ k', q = .bad c (some k') ∧ k' + m = k := by
  cases q with
  | ok t' k' => cases h
  | bad c o =>
    cases o with
    | none => injection h with h1 h2; cases h2
    | some k' => injection h with h1 h2; injection h2 with h2; exact ⟨k', by rw [h1], h2⟩
theorem quote_pos (n : Nat) : ∀ (l : Bs) (c k : Nat), l.length ≤ n → quoteL l = .bad c (some k) → k < l.length := by
  induction n with
  | zero =>
    intro l c k hl h
    obtain rfl : l = [] := List.length_eq_zero_iff.1 (by omega)
    rw [quote_nil] at h
    injection h with h1 h2; cases h2
  | succ n ih =>
    intro l co k hl h
    cases l with
    | nil => rw [quote_nil] at h; injection h with h1 h2; cases h2
    | cons c r =>
      by_cases h34 : c = 34
      · subst h34; rw [quote_done] at h; cases h
      · by_cases h92 : c = 92
        · subst h92
          cases r with
          | nil => rw [quote_escend] at h; injection h with h1 h2; cases h2
          | cons d r =>
            cases he : escL d with
            | none => rw [quote_escbad _ he] at h; injection h with h1 h2; injection h2 with h2; simp; omega
            | some e =>
              rw [quote_esc _ he] at h
              obtain ⟨k', h', rfl⟩ := cons_bad_was h
              have := ih r co k' (by simp at hl; omega) h'
              simp; omega
        · by_cases hb : c.toNat < 32 ∨ c = 127
          · rw [quote_bad h34 h92 hb] at h; injection h with h1 h2; injection h2 with h2; simp; omega
          · rw [quote_more h34 h92 hb] at h
            obtain ⟨k', h', rfl⟩ := cons_bad_was h
            have := ih r co k' (by simp at hl; omega) h'
            simp; omega
theorem token_pos {c : UInt8} {r : Bs} {code k : Nat} (h : tokenL c r = .bad code k) : k ≤ r.length := by
  unfold tokenL at h
  split at h
  · cases h
  · split at h
    · cases h
    · split at h
      · split at h
        · cases h
        · injection h with _ h; omega
        · rename_i hq
          injection h with _ h
          have := quote_pos _ _ _ _ (Nat.le_refl _) hq
          omega
      · split at h
        · split at h
          · split at h
            · injection h with _ h; omega
            · cases h
          · injection h with _ h; omega
        · split at h
          · cases h
          · injection h with _ h; omega
theorem tokens_bounds (n : Nat) : ∀ (l : Bs) (a : Nat), l.length ≤ n → (∀ c p, tokensL a l = .error (c, p) → p ≤ a + l.length) ∧ ∀ ts, tokensL a l = .ok ts → ts.length ≤ l.length := by
  induction n with
  | zero =>
    intro l a hl
    obtain rfl : l = [] := List.length_eq_zero_iff.1 (by omega)
    rw [end_]
    exact ⟨fun _ _ h => (by cases h), fun ts h => by injection h with h; subst h; simp⟩
  | succ n ih =>
    intro l a hl
    have hle := skip_le l
    cases ho : (skipL l).2 with
    | true =>
      rw [tokens_open ho]
      exact ⟨fun _ _ h => (by injection h with h; injection h with h1 h2; omega), fun ts h => by cases h⟩
    | false =>
      cases hd : l.drop (skipL l).1 with
      | nil => rw [tokens_end ho hd]; exact ⟨fun _ _ h => (by cases h), fun ts h => by injection h with h; subst h; simp⟩
      | cons c r =>
        have hlr := congrArg List.length hd
        simp only [List.length_drop, List.length_cons] at hlr
        cases ht : tokenL c r with
        | bad code j =>
          have := token_pos ht
          rw [tokens_bad ho hd ht]
          exact ⟨fun _ _ h => (by injection h with h; injection h with h1 h2; omega), fun ts h => by cases h⟩
        | ok kind t v m =>
          have hm := token_len ht
          rw [tokens_step ho hd ht]
          obtain ⟨i1, i2⟩ := ih (r.drop m) (a + (skipL l).1 + (m + 1)) (by rw [List.length_drop]; omega)
          rw [List.length_drop] at i1 i2
          cases hx : tokensL (a + (skipL l).1 + (m + 1)) (r.drop m) with
          | ok zs =>
            have := i2 _ hx
            exact ⟨fun _ _ h => (by cases h), fun ts h => by injection h with h; subst h; simp; omega⟩
          | error e =>
            refine ⟨fun c p h => ?_, fun ts h => by cases h⟩
            injection h with h
            subst h
            have := i1 _ _ hx
            omega
theorem of_err {s : ByteArray} {c p : Nat} (h : tokensOf s = .error (c, p)) : p ≤ s.size := by
  unfold tokensOf at h
  split at h
  · injection h with h; injection h with h1 h2; omega
  · have := (tokens_bounds _ (bs s) 0 (Nat.le_refl _)).1 _ _ h
    rw [bs_len] at this
    omega
theorem of_ok {s : ByteArray} {ts : List Tok} (h : tokensOf s = .ok ts) : ts.length ≤ s.size ∧ s.size ≤ 4096 := by
  unfold tokensOf at h
  split at h
  · cases h
  · have := (tokens_bounds _ (bs s) 0 (Nat.le_refl _)).2 _ h
    rw [bs_len] at this
    omega
end Go.Proofs.YtdffbaikdibalaaDoor.T

/- What a text of word bytes alone comes to: plain laws, no program in sight. -/
import Derived.Test.YtdffbaikdibalaaDoorH
namespace Go.Proofs.YtdffbaikdibalaaDoor.T
set_option linter.unusedVariables false
set_option linter.unusedSimpArgs false
theorem whileL_all {p : Int → Bool} : ∀ {r : Bs}, (∀ c ∈ r, p c.toNat = true) → whileL p r = r.length
  | [], _ => rfl
  | c :: r, h => by
    rw [whileL, if_pos (h c (by simp)), whileL_all (fun x hx => h x (by simp [hx]))]
    rfl
theorem whileL_le (p : Int → Bool) : ∀ r : Bs, whileL p r ≤ r.length
  | [] => Nat.le_refl _
  | c :: r => by
    rw [whileL]
    have := whileL_le p r
    split
    · simp; omega
    · simp
theorem whileL_take {p : Int → Bool} : ∀ (r : Bs), ∀ c ∈ r.take (whileL p r), p c.toNat = true
  | [], c, h => by simp at h
  | d :: r, c, h => by
    rw [whileL] at h
    split at h
    · rename_i hd
      rw [List.take_succ_cons] at h
      rcases List.mem_cons.1 h with rfl | h
      · exact hd
      · exact whileL_take r c h
    · simp at h
theorem whileL_stop {p : Int → Bool} : ∀ {r : Bs}, (∃ c ∈ r, p c.toNat = false) → ∃ x y, r.drop (whileL p r) = x :: y ∧ p x.toNat = false
  | [], h => by simp at h
  | c :: r, h => by
    rw [whileL]
    split
    · rename_i hc
      obtain ⟨x, hx, hp⟩ := h
      rcases List.mem_cons.1 hx with rfl | hx
      · rw [hc] at hp; cases hp
      · exact whileL_stop (r := r) ⟨x, hx, hp⟩
    · rename_i hc
      exact ⟨c, r, rfl, by simpa using hc⟩
theorem word_not {c : UInt8} (h : wordB c.toNat = true) : blankB c.toNat = false ∧ c ≠ 47 ∧ c ≠ 10 ∧ c ≠ 59 ∧ c ≠ 123 ∧ c ≠ 125 ∧ c ≠ 61 ∧ c ≠ 34 := by
  have key : ∀ n : Nat, c.toNat = n → wordB (n : Int) = true → blankB n = false ∧ n ≠ 47 ∧ n ≠ 10 ∧ n ≠ 59 ∧ n ≠ 123 ∧ n ≠ 125 ∧ n ≠ 61 ∧ n ≠ 34 := by
    intro n _ h
    simp [wordB, digitB] at h
    simp [blankB]
    omega
  obtain ⟨h0, h1, h2, h3, h4, h5, h6, h7⟩ := key _ rfl h
  refine ⟨h0, ?_, ?_, ?_, ?_, ?_, ?_, ?_⟩ <;> (rintro rfl; simp at *)
theorem toA {s : ByteArray} {l : Bs} (h : bs s = l) : (⟨l.toArray⟩ : ByteArray) = s := by
  subst h; cases s; simp [bs]
theorem one_end {a : Nat} {c : UInt8} {r : Bs} (hw : wordB c.toNat = true) {kind : Nat} {t : Bs} {v : Int} (h3 : tokenL c r = .ok kind t v r.length) : tokensL a (c :: r) = .ok [⟨kind, ⟨t.toArray⟩, v, (a : Nat)⟩] := by
  obtain ⟨h0, h1, _⟩ := word_not hw
  refine one (a := a) 0 (sk0 _ _ h0 h1) rfl h3 ?_
  rw [List.drop_length]
  exact end_
theorem one_bad {a : Nat} {c : UInt8} {r : Bs} (hw : wordB c.toNat = true) {code k : Nat} (h3 : tokenL c r = .bad code k) : tokensL a (c :: r) = .error (code, a + k) := by
  obtain ⟨h0, h1, _⟩ := word_not hw
  rw [tokens_bad (a := a) (by rw [sk0 _ _ h0 h1]) (by rw [sk0 _ _ h0 h1]; rfl) h3, sk0 _ _ h0 h1]
  rfl
theorem token_num {c : UInt8} {r : Bs} (hw : wordB c.toNat = true) (hn : (digitB c.toNat || (c == 45 && digitB (headB r))) = true) : tokenL c r = match Lib.parseIntB 64 (c :: r.take (whileL digitB r)) with
    | .ok v => if wordB (headB (r.drop (whileL digitB r))) then .bad 73 0 else .ok 3 (c :: r.take (whileL digitB r)) v (whileL digitB r)
    | _ => .bad 73 0 := by
  obtain ⟨_, _, h2, h3, h4, h5, h6, h7⟩ := word_not hw
  unfold tokenL
  rw [if_neg (by simp [h2, h3]), if_neg (by simp [h4, h5, h6]), if_neg h7, if_pos hn]
  rfl
theorem token_word {c : UInt8} {r : Bs} (hw : wordB c.toNat = true) (hn : (digitB c.toNat || (c == 45 && digitB (headB r))) = false) : tokenL c r = .ok 1 (c :: r.take (whileL wordB r)) 0 (whileL wordB r) := by
  obtain ⟨_, _, h2, h3, h4, h5, h6, h7⟩ := word_not hw
  unfold tokenL
  rw [if_neg (by simp [h2, h3]), if_neg (by simp [h4, h5, h6]), if_neg h7, if_neg (by simp [hn]), if_pos hw]
theorem parse_digits (l : Bs) : ∀ (k acc : Nat), acc < 10 ^ k → k + l.length ≤ 18 → (∀ c ∈ l, digitB c.toNat = true) → ∃ v, Lib.parseUintM (2 ^ 64 - 1) acc l = .ok v ∧ v < 10 ^ (k + l.length) := by
  induction l with
  | nil => intro k acc ha hl hd; exact ⟨acc, rfl, by simpa using ha⟩
  | cons c r ih =>
    intro k acc ha hl hd
    have hc := hd c (by simp)
    simp [digitB] at hc
    simp only [List.length_cons] at hl ⊢
    have h18 : 10 ^ (k + 1) ≤ 10 ^ 18 := Nat.pow_le_pow_right (by omega) (by omega)
    rw [Nat.pow_succ] at h18
    unfold Lib.parseUintM
    rw [if_pos (by omega), if_neg (by omega), if_neg (by omega)]
    obtain ⟨v, h1, h2⟩ := ih (k + 1) (acc * 10 + (c.toNat - 48)) (by rw [Nat.pow_succ]; omega) (by omega) (fun x hx => hd x (by simp [hx]))
    exact ⟨v, h1, by rw [show k + (r.length + 1) = k + 1 + r.length by omega]; exact h2⟩
theorem parse_short {c : UInt8} {r : Bs} (hc : digitB c.toNat = true ∨ (c = 45 ∧ r ≠ [])) (hr : ∀ x ∈ r, digitB x.toNat = true) (hl : r.length + 1 ≤ 18) : ∃ v, Lib.parseIntB 64 (c :: r) = .ok v := by
  unfold Lib.parseIntB
  dsimp only
  rcases hc with hc | ⟨rfl, hr0⟩
  · have h := hc
    simp [digitB] at h
    obtain ⟨v, h1, h2⟩ := parse_digits (c :: r) 0 0 (by decide) (by simpa using hl) (by simpa using ⟨hc, hr⟩)
    have h18 : 10 ^ (0 + (c :: r).length) ≤ 10 ^ 18 := Nat.pow_le_pow_right (by omega) (by simpa using hl)
    rw [if_neg (by omega)]
    unfold Lib.parseUintB
    rw [if_neg (by simp), h1]
    dsimp only
    rw [if_neg (by omega), if_neg (by omega)]
    exact ⟨_, rfl⟩
  · obtain ⟨v, h1, h2⟩ := parse_digits r 0 0 (by decide) (by omega) hr
    have h18 : 10 ^ (0 + r.length) ≤ 10 ^ 18 := Nat.pow_le_pow_right (by omega) (by omega)
    rw [if_pos (by simp)]
    unfold Lib.parseUintB
    rw [if_neg hr0, h1]
    dsimp only
    rw [if_neg (by simp), if_neg (by simp; omega)]
    exact ⟨_, rfl⟩
/-- Does a text of word bytes begin as a number does? -/
def startsB (c : UInt8) (r : Bs) : Bool := digitB c.toNat || (c == 45 && digitB (headB r))
def digitsB (c : UInt8) (r : Bs) : Bool := (digitB c.toNat || c == 45) && r.all fun x => digitB x.toNat
theorem words_word {s : ByteArray} {c : UInt8} {r : Bs} (hs : bs s = c :: r) (hsz : s.size ≤ 4096) (hc : wordB c.toNat = true) (hr : ∀ x ∈ r, wordB x.toNat = true) (h : startsB c r = false) : tokensOf s = .ok [⟨1, s, 0, 0⟩] ∧ plainB s = true := by
  have key : tokensOf s = .ok [⟨1, s, 0, 0⟩] := by
    unfold tokensOf
    rw [if_neg (by omega), hs]
    have hw := whileL_all hr
    have := one_end (a := 0) hc (kind := 1) (t := c :: r) (v := 0) (by rw [token_word hc h, hw, List.take_length])
    rw [this, toA hs]
    rfl
  refine ⟨key, ?_⟩
  unfold plainB
  rw [key]
  simp [plainT]
theorem words_wrong {s : ByteArray} {c : UInt8} {r : Bs} (hs : bs s = c :: r) (hsz : s.size ≤ 4096) (hc : wordB c.toNat = true) (hr : ∀ x ∈ r, wordB x.toNat = true) (h : startsB c r = true) (hd : digitsB c r = false) : tokensOf s = .error (73, 0) ∧ plainB s = false := by
  have key : tokensOf s = .error (73, 0) := by
    unfold tokensOf
    rw [if_neg (by omega), hs]
    have hst : ∃ x y, r.drop (whileL digitB r) = x :: y ∧ digitB x.toNat = false := by
      refine whileL_stop ?_
      unfold digitsB at hd
      unfold startsB at h
      cases hdc : digitB (c.toNat : Int) <;> simp_all
    obtain ⟨x, y, hxy, hx⟩ := hst
    have hxw : wordB x.toNat = true := hr x (List.mem_of_mem_drop (by rw [hxy]; simp))
    refine (one_bad (a := 0) hc (code := 73) (k := 0) ?_).trans rfl
    rw [token_num hc h]
    split
    · rw [if_pos (by rw [hxy]; exact hxw)]
    · rfl
  refine ⟨key, ?_⟩
  unfold plainB
  rw [key]
theorem words_number {s : ByteArray} {c : UInt8} {r : Bs} (hs : bs s = c :: r) (hsz : s.size ≤ 4096) (hc : wordB c.toNat = true) (h : startsB c r = true) (hd : digitsB c r = true) :
    plainB s = false ∧ ((tokensOf s = .error (73, 0) ∧ 19 ≤ s.size) ∨ ∃ v, tokensOf s = .ok [⟨3, s, v, 0⟩]) := by
  have hr : ∀ x ∈ r, digitB x.toNat = true := by
    unfold digitsB at hd
    simp at hd
    exact hd.2
  have hw := whileL_all hr
  have htok : tokenL c r = match Lib.parseIntB 64 (c :: r) with | .ok v => .ok 3 (c :: r) v r.length | _ => .bad 73 0 := by
    rw [token_num hc h, hw, List.take_length, List.drop_length]
    rfl
  have hlen : s.size = r.length + 1 := by rw [← bs_len, hs]; rfl
  cases hp : Lib.parseIntB 64 (c :: r) with
  | ok v =>
    rw [hp] at htok
    have key : tokensOf s = .ok [⟨3, s, v, 0⟩] := by
      unfold tokensOf
      rw [if_neg (by omega), hs, one_end (a := 0) hc htok, toA hs]
      rfl
    exact ⟨by unfold plainB; rw [key]; rfl, .inr ⟨v, key⟩⟩
  | _ =>
    rw [hp] at htok
    have key : tokensOf s = .error (73, 0) := by
      unfold tokensOf
      rw [if_neg (by omega), hs, one_bad (a := 0) hc htok]
    refine ⟨by unfold plainB; rw [key], .inl ⟨key, ?_⟩⟩
    refine Classical.byContradiction fun hlt => ?_
    obtain ⟨v, hv⟩ := parse_short (c := c) (r := r) (by
      unfold startsB at h
      cases r with
      | nil => left; simpa [headB, digitB] using h
      | cons d r => simp at h; rcases h with h | h
                    · exact .inl h
                    · exact .inr ⟨h.1, by simp⟩) hr (by omega)
    rw [hp] at hv
    cases hv
end Go.Proofs.YtdffbaikdibalaaDoor.T

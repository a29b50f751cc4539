/- Decimal: what it writes; an append of two bytes. -/
import Derived.Test.YtdffbaikdibalaaDoorR
import Derived.Test.YtdffbaikdibalaaDoorX
namespace Go.Proofs.YtdffbaikdibalaaDoor.T
set_option linter.unusedVariables false
set_option linter.unusedSimpArgs false
open Go.RowKit Go.Proofs.YtdffbaikdibalaaDoorW.PrintWords
open Go.Proofs.YtdffbaikdibalaaDoor.PTokMakes (casementref01_Decimal.calls casementref01_Decimal.f casementref01_Decimal.l0)
theorem up_tmod (m : Nat) : Int.tmod (m : Int) 10 = ((m % 10 : Nat) : Int) := rfl
theorem up_tdiv (m : Nat) : Int.tdiv (m : Int) 10 = ((m / 10 : Nat) : Int) := rfl
theorem dn_tmod (m : Nat) : Int.tmod (-(m : Int)) 10 = -((m % 10 : Nat) : Int) := by rw [Int.neg_tmod]; rfl
theorem dn_tdiv (m : Nat) : Int.tdiv (-(m : Int)) 10 = -((m / 10 : Nat) : Int) := by rw [Int.neg_tdiv]; rfl
theorem str_one (d : Nat) (h : d < 10) : bs (strOfNums [((48 + d : Nat) : Int)]) = [UInt8.ofNat (48 + d)] := by
  unfold bs
  rw [strOfNums_data]
  rfl
theorem l0_up (j m : Nat) (b : Bool) (acc : ByteArray) (hm : (m : Int) ≠ 0) (hb : (m : Int) ≤ 9223372036854775807) (hsz : (strOfNums [((48 + m % 10 : Nat) : Int)]).size + acc.size ≤ 9223372036854775807) :
    casementref01_Decimal.l0 (j + 1) (m : Int) b acc = casementref01_Decimal.l0 j ((m / 10 : Nat) : Int) b (strOfNums [((48 + m % 10 : Nat) : Int)] ++ acc) := by
  have e1 : wrap64 (48 + Int.tmod (m : Int) 10) % 256 = ((48 + m % 10 : Nat) : Int) := by rw [up_tmod, IntWalk.wrap64_in _ (by omega)]; omega
  have e2 : wrap64 (Int.tdiv (m : Int) 10) = ((m / 10 : Nat) : Int) := by rw [up_tdiv]; exact IntWalk.wrap64_in _ (by omega)
  have e3 : ¬ Int.tmod (m : Int) 10 < 0 := by rw [up_tmod]; omega
  rw [casementref01_Decimal.l0, if_neg hm, if_neg e3, e1, e2, Option.bind_some, if_pos hsz]
theorem l0_dn (j m : Nat) (b : Bool) (acc : ByteArray) (hm : (-(m : Int)) ≠ 0) (hb : (m : Int) ≤ 9223372036854775808) (hsz : (strOfNums [((48 + m % 10 : Nat) : Int)]).size + acc.size ≤ 9223372036854775807) :
    casementref01_Decimal.l0 (j + 1) (-(m : Int)) b acc = casementref01_Decimal.l0 j (-((m / 10 : Nat) : Int)) b (strOfNums [((48 + m % 10 : Nat) : Int)] ++ acc) := by
  have e2 : wrap64 (Int.tdiv (-(m : Int)) 10) = -((m / 10 : Nat) : Int) := by rw [dn_tdiv]; exact IntWalk.wrap64_in _ (by omega)
  by_cases hz : m % 10 = 0
  · have e1 : wrap64 (48 + Int.tmod (-(m : Int)) 10) % 256 = ((48 + m % 10 : Nat) : Int) := by rw [dn_tmod, IntWalk.wrap64_in _ (by omega)]; omega
    have e3 : ¬ Int.tmod (-(m : Int)) 10 < 0 := by rw [dn_tmod]; omega
    rw [casementref01_Decimal.l0, if_neg hm, if_neg e3, e1, e2, Option.bind_some, if_pos hsz]
  · have e4 : wrap64 (-(Int.tmod (-(m : Int)) 10)) = ((m % 10 : Nat) : Int) := by rw [dn_tmod, Int.neg_neg]; exact IntWalk.wrap64_in _ (by omega)
    have e1 : wrap64 (48 + wrap64 (-(Int.tmod (-(m : Int)) 10))) % 256 = ((48 + m % 10 : Nat) : Int) := by rw [e4, IntWalk.wrap64_in _ (by omega)]; omega
    have e3 : Int.tmod (-(m : Int)) 10 < 0 := by rw [dn_tmod]; omega
    rw [casementref01_Decimal.l0, if_neg hm, if_pos e3, e1, e2, Option.bind_some, if_pos hsz]
theorem dec_l0 (b : Bool) : ∀ (j : Nat) (x0 : Int) (acc : ByteArray), x0.natAbs < 10 ^ j → x0.natAbs ≤ 9223372036854775808 ∧ x0 ≤ 9223372036854775807 → acc.size + j ≤ 20 →
    ∃ D, casementref01_Decimal.l0 (j + 1) x0 b acc = some D ∧ bs D = (if b then [45] else []) ++ (decL x0.natAbs ++ bs acc) ∧ D.size ≤ 21 := by
  have base : ∀ (j : Nat) (acc : ByteArray), acc.size + j ≤ 20 → ∃ D, casementref01_Decimal.l0 (j + 1) 0 b acc = some D ∧ bs D = (if b then [45] else []) ++ (decL (0 : Int).natAbs ++ bs acc) ∧ D.size ≤ 21 := fun j acc ha => by
    unfold casementref01_Decimal.l0
    rw [if_pos rfl, show (0 : Int).natAbs = 0 from rfl, decL_zero]
    cases b with
    | true => exact ⟨_, by rw [if_pos rfl, if_pos (by omega)], by simp [bs], by rw [ByteArray.size_append, show (⟨#[45]⟩ : ByteArray).size = 1 from rfl]; omega⟩
    | false => exact ⟨acc, by rw [if_neg (by decide)], by simp, by omega⟩
  intro j
  induction j with
  | zero =>
    intro x0 acc h1 h2 h3
    obtain rfl : x0 = 0 := by rw [Nat.pow_zero] at h1; omega
    exact base 0 acc h3
  | succ j ih =>
    intro x0 acc h1 h2 h3
    by_cases h0 : x0 = 0
    · subst h0; exact base (j + 1) acc h3
    · rw [Nat.pow_succ] at h1
      have hm0 : x0.natAbs ≠ 0 := by omega
      have key : ∀ (q : Int), q.natAbs = x0.natAbs / 10 → ∃ D, casementref01_Decimal.l0 (j + 1) q b (strOfNums [((48 + x0.natAbs % 10 : Nat) : Int)] ++ acc) = some D ∧ bs D = (if b then [45] else []) ++ (decL x0.natAbs ++ bs acc) ∧ D.size ≤ 21 := fun q hq => by
        obtain ⟨D, hD, hb, hz⟩ := ih q (strOfNums [((48 + x0.natAbs % 10 : Nat) : Int)] ++ acc) (by omega) ⟨by omega, by omega⟩ (by rw [ByteArray.size_append, strOfNums_size]; simp; omega)
        refine ⟨D, hD, ?_, hz⟩
        rw [hb, hq, bs_append, str_one _ (by omega), decL_step hm0, List.append_assoc]
      have hsz : (strOfNums [((48 + x0.natAbs % 10 : Nat) : Int)]).size + acc.size ≤ 9223372036854775807 := by rw [strOfNums_size, List.length_singleton]; omega
      rcases Int.eq_nat_or_neg x0 with ⟨m, hm | hm⟩
      · have hma : x0.natAbs = m := by omega
        rw [hma] at hsz
        have hl := l0_up (j + 1) m b acc (by omega) (by omega) hsz
        have hk := key ((m / 10 : Nat) : Int) (by omega)
        rw [← hma] at hl
        rw [hma] at hl hk ⊢
        rw [hm, hl]
        exact hk
      · have hma : x0.natAbs = m := by omega
        rw [hma] at hsz
        have hl := l0_dn (j + 1) m b acc (by omega) (by omega) hsz
        have hk := key (-((m / 10 : Nat) : Int)) (by omega)
        rw [hma] at hk ⊢
        rw [hm, hl]
        exact hk
theorem decimal_any (n : Int) (h1 : -9223372036854775808 ≤ n) (h2 : n ≤ 9223372036854775807)  : ∃ D : ByteArray, bs D = decB n ∧ D.size ≤ 30 ∧ ∀ w : World, Calls Tryd.prog 9 #[.int .i64 n] w fun e w' => e = .returned (.string D) ∧ Below w.heap.size w w' := by
  by_cases h0 : n = 0
  · subst h0
    refine ⟨⟨#[48]⟩, by rfl, by decide, fun w => casementref01_Decimal.calls 1 0 _ w ?_⟩
    unfold casementref01_Decimal.f
    rw [if_pos rfl]
  · have h19 : n.natAbs < 10 ^ 19 := by
      have : (10 : Nat) ^ 19 = 10000000000000000000 := by decide
      omega
    obtain ⟨D, hD, hb, hz⟩ := dec_l0 (decide (n < 0)) 19 n ⟨#[]⟩ h19 ⟨by omega, h2⟩ (by decide)
    have hbs : bs D = decB n := by
      rw [hb]
      unfold decB
      rw [if_neg h0]
      by_cases hn : n < 0
      · simp [hn, bs]
      · simp [hn, bs]
    refine ⟨D, hbs, by omega, fun w => casementref01_Decimal.calls 20 n _ w ?_⟩
    unfold casementref01_Decimal.f
    rw [if_neg h0, hD]
section
variable {P : Program} {ops : Array Oper} {rest : List Oper} {o : Oper} {a : Act} {Q : Exit → Act → World → Prop}
/-- append(v, x, y): the goal's world is 'W.alloc' of the variadic's box of two. -/
theorem append_two {w0 W : World} (base : Nat) (hgd : o.guard = none) (s x : Operand) (t e : TypeId) (k : IntKind) (bytes : Nat)
    (ho : o.op = .call { callee := .builtin .append, args := #[s, x], argTypes := #[t, t] })
    (ht : P.underlying t = some (.slice e)) (hinfo : (P.info? e).map (fun i => (i.zero, i.size, i.bytes)) = some (some (.int k 0), 1, bytes)) (hb0 : 0 < bytes)
    (v : Value) (xs : List Int) (y z : Int) (hs : a.eval s = v) (hx : a.eval x = .slice (some ⟨W.heap.size, 0, none⟩) 2 2)
    (HO : W.ownsRow base e 1 v xs.length (nums k xs)) (HB : Below base w0 W) (hbase : base ≤ W.heap.size) (hl : (xs.length + 2) * bytes ≤ 140737488355328)
    (h : ∀ v1 w1, w1.ownsRow base e 1 v1 (xs ++ [y, z]).length (nums k (xs ++ [y, z])) → Below base w0 w1 → wpList P ops Q rest (a.put o.dst v1) w1) :
    wpList P ops Q (o :: rest) a (W.alloc (.cells #[.int k y, .int k z] e)) := by
  obtain ⟨i0, hi, hzz⟩ := Option.map_eq_some_iff.1 hinfo
  simp only [Prod.mk.injEq] at hzz
  obtain ⟨hz0, hz1, hz2⟩ := hzz
  have hlen : xs.length + 2 ≤ 140737488355328 := Nat.le_trans (Nat.le_mul_of_pos_right _ hb0) hl
  refine wpList_append_own_at (W.alloc (.cells #[.int k y, .int k z] e)) hgd s x t ho base e i0 (.int k 0) 1 bytes ht hi hz0 hz1 hz2 rfl (by omega) v xs.length (nums k xs) hs (HO.alloc _) ⟨W.heap.size, 0, none⟩ 2 2 [.int k y, .int k z] hx rfl
    (World.news_of_block (cs := #[.int k y, .int k z]) (t := e) (fr := (0, 0)) (heap_alloc_new W _)) (by intro u hu; simp at hu; rcases hu with rfl | rfl <;> rfl) (by simp only [maxLen]; omega) hl (by simp; omega) ?_
  intro v1 w1 hown hg _ hat
  exact h v1 w1 (by simpa [nums] using hown) ((HB.alloc hbase _).grown hg (by simp; omega) (own_base HO))
end
end Go.Proofs.YtdffbaikdibalaaDoor.T

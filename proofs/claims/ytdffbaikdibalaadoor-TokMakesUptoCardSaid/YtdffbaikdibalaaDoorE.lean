/- (*scan).token, walked: it reads what 'tokenL' says. -/
import Derived.Test.YtdffbaikdibalaaDoorD
import Derived.Deep.RegionWith
import Derived.BigRegion
import Derived.Deep.DeepCutAuto
import Derived.Deep.CutBlock
namespace Go.Proofs.YtdffbaikdibalaaDoor.T
set_option linter.unusedVariables false
set_option linter.unusedSimpArgs false
open Go.RowKit Go.Proofs.YtdffbaikdibalaaDoorW.PrintWords

theorem byte_of {x : Int} {a b : UInt8} (h : x = (a.toNat : Int)) (hb : b.toNat = x.toNat) : a = b := UInt8.toNat_inj.1 (by omega)
theorem take_one {s : ByteArray} {i : Nat} {x : Int} {b : UInt8} (hi : i < s.size) (h : x = (s[i].toNat : Int)) (hb : b.toNat = x.toNat) : ((bs s).drop i).take 1 = [b] := by
  rw [drop_at hi, byte_of h hb]; rfl
theorem extract_take (s : ByteArray) (i p : Nat) : s.extract i p = ⟨(((bs s).drop i).take (p - i)).toArray⟩ := by
  have := Lib.extract_data s i p
  rw [← this]
theorem gdrew {w W : World} {r : Option Nat} (h : w.grownBy W r) : w.grownBy W.drew r := ⟨h.os, h.tape, h.output, h.size, h.block⟩
theorem tok_quote (r : Bs) : tokenL 34 r = (match quoteL r with | .ok t n => TR.ok 2 t 0 n | .bad code .none => .bad code 0 | .bad code (some k) => .bad code (k + 1)) := by
  unfold tokenL
  rfl
theorem quote_ok (g : Nat) (s : ByteArray) (i : Nat) (c f : Int) (w : World) (h : Scan w g s i c f) (hi : i < s.size) (hs : s.size ≤ 4096) (t : Bs) (n : Nat) (hq : quoteL ((bs s).drop (i + 1)) = .ok t n) :
    Calls Tryd.prog 21 #[.pointer (some ⟨g, 0, none⟩)] w fun e w' => e = .returned (.string ⟨t.toArray⟩) ∧ Scan w' g s ((i + 1 + n : Nat) : Int) c f ∧ w.grownBy w' (some g) :=
  (quote_any g s i c f w h hi hs).mono fun e w' ⟨hQ, hG⟩ => by
    rw [hq] at hQ
    exact ⟨hQ.1, hQ.2, hG⟩
theorem quote_no (g : Nat) (s : ByteArray) (i : Nat) (c f : Int) (w : World) (h : Scan w g s i c f) (hi : i < s.size) (hs : s.size ≤ 4096) (code : Nat) (o : Option Nat) (hq : quoteL ((bs s).drop (i + 1)) = .bad code o) :
    Calls Tryd.prog 21 #[.pointer (some ⟨g, 0, none⟩)] w fun e w' => e = .returned (.string ⟨#[]⟩) ∧ (∃ p, Scan w' g s p code ((i + (match o with | none => 0 | some k => k + 1) : Nat) : Int)) ∧ w.grownBy w' (some g) :=
  (quote_any g s i c f w h hi hs).mono fun e w' ⟨hQ, hG⟩ => by
    rw [hq] at hQ
    cases o with
    | none => exact ⟨hQ.1, hQ.2, hG⟩
    | some k =>
      obtain ⟨he, p, hp⟩ := hQ
      exact ⟨he, ⟨p, by rw [show i + (k + 1) = i + 1 + k by omega]; exact hp⟩, hG⟩
theorem while_le (p : Int → Bool) (l : Bs) : whileL p l ≤ l.length := by
  induction l with
  | nil => exact Nat.le_refl _
  | cons c r ih => unfold whileL; split <;> simp; omega
theorem bytes_below' (w : World) (t : ByteArray) : Below w.heap.size w (Lib.bytesWorld w 5 t) := bytes_below (Below.refl _ _) (Nat.le_refl _) 5 t
theorem digit_is (y : Int) (z : Bool) (h : digitB y = z) (w : World) : Calls Tryd.prog 22 #[.int .u8 y] w fun e w' => e = .returned (.bool z) ∧ w = w' := h ▸ digit_any y w
theorem word_is (y : Int) (z : Bool) (h : wordB y = z) (w : World) : Calls Tryd.prog 25 #[.int .u8 y] w fun e w' => e = .returned (.bool z) ∧ w = w' := h ▸ word_any y w
theorem parse_ok (s : ByteArray) (i p : Nat) (v : Int) (w : World) (h : Lib.parseIntB 64 (s.extract i p).data.toList = .ok v) (hn : p ≤ s.size) (hs : s.size ≤ 4096) :
    Calls Tryd.prog 24 #[.string (s.extract i p), .int .i64 10, .int .i64 64] w fun e w' => e = .returned (.tuple #[.int .i64 v, .nilIface]) ∧ Below w.heap.size w w' :=
  (Tryd.strconv_ParseInt_10_at64_ok _ (by simp [ByteArray.size_extract]; omega) v h w).mono fun e w' ⟨he, hw⟩ => ⟨he, by
    rcases hw with rfl | ⟨t, rfl⟩
    · exact Below.refl _ _
    · exact bytes_below' w t⟩
/-- What token leaves and answers. -/
def Tokened (e : Ending) (w' : World) (g : Nat) (s : ByteArray) (i : Nat) (c f : Int) : TR → Prop
  | .ok kind t v m => e = .returned (.agg #[.int .i64 kind, .string ⟨t.toArray⟩, .int .i64 v, .int .i64 i]) ∧ Scan w' g s ((i + 1 + m : Nat) : Int) c f
  | .bad code k => (∃ a b d, e = .returned (.agg #[.int .i64 a, .string b, .int .i64 d, .int .i64 i])) ∧ ∃ p, Scan w' g s p code ((i + k : Nat) : Int)
theorem heap_set {w : World} {b : Nat} {p : Addr} (u : Value) (hb : b ≠ p.block) : (w.setCell p u).heap[b]? = w.heap[b]? := Below.heap_setCell w p u b hb
theorem scan_set {w : World} {g b j : Nat} {s : ByteArray} {i c f : Int} {u : Value} (h : Scan w g s i c f) (hb : g ≠ b) : Scan (w.setCell ⟨b, j, none⟩ u) g s i c f := (heap_set u (by simpa using hb)).trans h
theorem gset2 {w W : World} {g b : Nat} (h : w.grownBy W (some g)) (hb : w.heap.size ≤ b) (j : Nat) (u : Value) : w.grownBy (W.setCell ⟨b, j, none⟩ u) (some g) :=
  ⟨h.os, h.tape, h.output, by simpa using h.size, fun k hk hne => (heap_set u (by simp; omega)).trans (h.block k hk hne)⟩

/-- What the walk needs of a token's block. -/
structure TB (W : World) (b : Nat) (k v i : Int) (tx : ByteArray) : Prop where
  blk : W.heap[b]? = some (.cells #[.int .i64 k, .string tx, .int .i64 v, .int .i64 i] 31 (0, 0))
theorem TB.c0 {W : World} {b : Nat} {k v i : Int} {tx : ByteArray} (h : TB W b k v i tx) : W.cell? ⟨b, 0, none⟩ = some (.int .i64 k) := (blk_cell h.blk 0).trans rfl
theorem TB.c1 {W : World} {b : Nat} {k v i : Int} {tx : ByteArray} (h : TB W b k v i tx) : W.cell? ⟨b, 1, none⟩ = some (.string tx) := (blk_cell h.blk 1).trans rfl
theorem TB.c2 {W : World} {b : Nat} {k v i : Int} {tx : ByteArray} (h : TB W b k v i tx) : W.cell? ⟨b, 2, none⟩ = some (.int .i64 v) := (blk_cell h.blk 2).trans rfl
theorem TB.c3 {W : World} {b : Nat} {k v i : Int} {tx : ByteArray} (h : TB W b k v i tx) : W.cell? ⟨b, 3, none⟩ = some (.int .i64 i) := (blk_cell h.blk 3).trans rfl
theorem TB.fz {W : World} {b : Nat} {k v i : Int} {tx : ByteArray} (h : TB W b k v i tx) (j : Nat) : W.frozen? ⟨b, j, none⟩ = false := blk_frozen h.blk j
theorem TB.kind {W : World} {b : Nat} {k v i : Int} {tx : ByteArray} (h : TB W b k v i tx) (k' : Int) : TB (W.setCell ⟨b, 0, none⟩ (.int .i64 k')) b k' v i tx := ⟨by simpa using blk_set h.blk 0 (.int .i64 k')⟩
theorem TB.int {W : World} {b : Nat} {k v i : Int} {tx : ByteArray} (h : TB W b k v i tx) (v' : Int) : TB (W.setCell ⟨b, 2, none⟩ (.int .i64 v')) b k v' i tx := ⟨by simpa using blk_set h.blk 2 (.int .i64 v')⟩
theorem TB.drewN {W : World} {b : Nat} {k v i : Int} {tx : ByteArray} (h : TB W b k v i tx) (n : Nat) : TB (W.drewN n) b k v i tx := ⟨h.blk⟩
theorem TB.far {W : World} {b g : Nat} {k v i : Int} {tx : ByteArray} (h : TB W b k v i tx) (hb : b ≠ g) (j : Nat) (u : Value) : TB (W.setCell ⟨g, j, none⟩ u) b k v i tx := ⟨(heap_set u (by simpa using hb)).trans h.blk⟩
theorem TB.grown {W W1 : World} {b g : Nat} {k v i : Int} {tx : ByteArray} (h : TB W b k v i tx) (hg : W.grownBy W1 (some g)) (hb : b ≠ g) : TB W1 b k v i tx := ⟨(hg.block b (blk_lt h.blk) (by simpa using hb)).trans h.blk⟩

/-- How things stand behind the switch: all but the token's text. -/
def Mid (tk : TR) (W : World) (g b : Nat) (s : ByteArray) (i p : Nat) (kind v c f : Int) (tx : ByteArray) : Prop :=
  ∃ c' f' : Int, Scan W g s p c' f' ∧ TB W (b + 1) kind v i tx ∧ TB W b 0 0 0 ⟨#[]⟩ ∧
    match tk with
    | .ok k t v' m => kind = k ∧ v = v' ∧ p = i + 1 + m ∧ t = ((bs s).drop i).take (m + 1) ∧ c' = c ∧ f' = f
    | .bad code k => c' = code ∧ f' = ((i + k : Nat) : Int)

theorem parse_range (s : ByteArray) (i p : Nat) (v : Int) (te : TypeId) (pe : Value) (w : World) (h : Lib.parseIntB 64 (s.extract i p).data.toList = .range) (hv : Lib.intSat 64 (s.extract i p).data.toList = v) (hn : p ≤ s.size) (hs : s.size ≤ 4096) (hE : w.cell? ⟨2, 0, none⟩ = some (.iface te pe)) :
    Calls Tryd.prog 24 #[.string (s.extract i p), .int .i64 10, .int .i64 64] w fun e w' => ∃ N : Nat, e = .returned (.tuple #[.int .i64 v, .iface 64 (.pointer (some ⟨N, 0, none⟩))]) ∧ Below w.heap.size w w' :=
  (Tryd.strconv_ParseInt_10_at64_range _ (by simp [ByteArray.size_extract]; omega) h _ w hE (.inr ⟨_, _, rfl⟩)).mono fun e w' ⟨N, he, _, _, hb⟩ => ⟨N, by rw [he, hv], hb⟩
theorem extract_num {s : ByteArray} {i p n : Nat} (hi : i < s.size) (hp : p = i + 1 + n) : (s.extract i p).data.toList = s[i] :: ((bs s).drop (i + 1)).take n := by
  rw [Lib.extract_data, show p - i = n + 1 by omega, drop_at hi, List.take_succ_cons]
theorem take_num {s : ByteArray} {i n : Nat} (hi : i < s.size) : ((bs s).drop i).take (n + 1) = s[i] :: ((bs s).drop (i + 1)).take n := by
  rw [drop_at hi, List.take_succ_cons]
theorem while_cons {p : Int → Bool} {b : UInt8} {r : Bs} (h : p b.toNat = true) : whileL p (b :: r) = whileL p r + 1 := by
  simp [whileL, h]
/-- A byte that begins none of the fixed tokens. -/
def Other (x : Int) : Prop := (x == 10) = false ∧ (x == 59) = false ∧ (x == 123) = false ∧ (x == 125) = false ∧ (x == 61) = false ∧ (x == 34) = false
theorem ne_byte {x : Int} {b c : UInt8} (hx : x = (b.toNat : Int)) (h : (x == (c.toNat : Int)) = false) : ¬ b = c := by
  rintro rfl
  rw [hx] at h
  simp at h
theorem eq_byte {x : Int} {b : UInt8} (hx : x = (b.toNat : Int)) : (x == 45) = (b == 45) := by
  rw [Bool.eq_iff_iff, beq_iff_eq, beq_iff_eq, hx]
  exact ⟨fun h => UInt8.toNat_inj.1 (by simpa using (by omega : b.toNat = 45)), fun h => by rw [h]; rfl⟩
theorem tok_other {x : Int} {b : UInt8} {r : Bs} (hn : Other x) (hx : x = (b.toNat : Int)) : tokenL b r =
    if digitB x || (x == 45 && digitB (headB r)) then
      match Lib.parseIntB 64 (b :: r.take (whileL digitB r)) with
      | .ok v => if wordB (headB (r.drop (whileL digitB r))) then TR.bad 73 0 else .ok 3 (b :: r.take (whileL digitB r)) v (whileL digitB r)
      | _ => .bad 73 0
    else if wordB x then .ok 1 (b :: r.take (whileL wordB r)) 0 (whileL wordB r)
    else .bad 70 0 := by
  obtain ⟨h1, h2, h3, h4, h5, h6⟩ := hn
  have n1 := ne_byte (c := 10) hx h1
  have n2 := ne_byte (c := 59) hx h2
  have n3 := ne_byte (c := 123) hx h3
  have n4 := ne_byte (c := 125) hx h4
  have n5 := ne_byte (c := 61) hx h5
  have n6 := ne_byte (c := 34) hx h6
  unfold tokenL
  rw [if_neg (by simp [n1, n2]), if_neg (by simp [n3, n4, n5]), if_neg n6, eq_byte hx, hx]
  rfl
theorem tok_num_word {x v : Int} {b : UInt8} {r : Bs} (hn : Other x) (hx : x = (b.toNat : Int)) (hd : (digitB x || (x == 45 && digitB (headB r))) = true) (hp : Lib.parseIntB 64 (b :: r.take (whileL digitB r)) = .ok v) (hw : wordB (headB (r.drop (whileL digitB r))) = true) : tokenL b r = .bad 73 0 := by
  rw [tok_other hn hx, if_pos hd, hp]
  simp [hw]
theorem tok_num_ok {x v : Int} {b : UInt8} {r : Bs} (hn : Other x) (hx : x = (b.toNat : Int)) (hd : (digitB x || (x == 45 && digitB (headB r))) = true) (hp : Lib.parseIntB 64 (b :: r.take (whileL digitB r)) = .ok v) (hw : wordB (headB (r.drop (whileL digitB r))) = false) : tokenL b r = .ok 3 (b :: r.take (whileL digitB r)) v (whileL digitB r) := by
  rw [tok_other hn hx, if_pos hd, hp]
  simp [hw]
theorem tok_num_range {x : Int} {b : UInt8} {r : Bs} (hn : Other x) (hx : x = (b.toNat : Int)) (hd : (digitB x || (x == 45 && digitB (headB r))) = true) (hp : Lib.parseIntB 64 (b :: r.take (whileL digitB r)) = .range) : tokenL b r = .bad 73 0 := by
  rw [tok_other hn hx, if_pos hd, hp]
theorem tok_word {x : Int} {b : UInt8} {r : Bs} (hn : Other x) (hx : x = (b.toNat : Int)) (hd : (digitB x || (x == 45 && digitB (headB r))) = false) (hw : wordB x = true) : tokenL b r = .ok 1 (b :: r.take (whileL wordB r)) 0 (whileL wordB r) := by
  rw [tok_other hn hx, if_neg (by rw [hd]; simp), if_pos hw]
theorem tok_none {x : Int} {b : UInt8} {r : Bs} (hn : Other x) (hx : x = (b.toNat : Int)) (hd : (digitB x || (x == 45 && digitB (headB r))) = false) (hw : wordB x = false) : tokenL b r = .bad 70 0 := by
  rw [tok_other hn hx, if_neg (by rw [hd]; simp), if_neg (by rw [hw]; simp)]
theorem uint_ne_syntax (M acc : Nat) (l : Bs) (h : ∀ c ∈ l, digitB c.toNat = true) : Lib.parseUintM M acc l ≠ .«syntax» := by
  induction l generalizing acc with
  | nil => simp [Lib.parseUintM]
  | cons c r ih =>
    have hc := h c (by simp)
    simp only [digitB, Bool.and_eq_true, decide_eq_true_eq] at hc
    unfold Lib.parseUintM
    rw [if_pos (by omega)]
    split
    · simp
    · split
      · simp
      · exact ih _ (fun d hd => h d (by simp [hd]))
theorem take_while (p : Int → Bool) (r : Bs) : ∀ c ∈ r.take (whileL p r), p c.toNat = true := by
  induction r with
  | nil => simp
  | cons c r ih =>
    unfold whileL
    split
    · rename_i h
      rw [List.take_succ_cons]
      intro d hd
      rcases List.mem_cons.1 hd with rfl | hd
      · exact h
      · exact ih d hd
    · simp
theorem parse_ne_syntax {x : Int} {b : UInt8} {r : Bs} (hx : x = (b.toNat : Int)) (hd : (digitB x || (x == 45 && digitB (headB r))) = true) : Lib.parseIntB 64 (b :: r.take (whileL digitB r)) ≠ .«syntax» := by
  have key : ∀ l : Bs, l ≠ [] → (∀ c ∈ l, digitB c.toNat = true) → Lib.parseUintB 64 l ≠ .«syntax» := fun l h1 h2 => by
    unfold Lib.parseUintB
    rw [if_neg h1]
    exact uint_ne_syntax _ _ _ h2
  have h2 : Lib.parseUintB 64 (if b.toNat = 43 ∨ b.toNat = 45 then r.take (whileL digitB r) else b :: r.take (whileL digitB r)) ≠ .«syntax» := by
    by_cases hg : digitB x = true
    · have hg' := hg
      simp only [digitB, Bool.and_eq_true, decide_eq_true_eq] at hg'
      rw [if_neg (by omega)]
      refine key _ (by simp) (fun c hc => ?_)
      rcases List.mem_cons.1 hc with rfl | hc
      · rw [← hx]; exact hg
      · exact take_while _ _ c hc
    · have hg' : digitB x = false := by simpa using hg
      rw [hg', Bool.false_or, Bool.and_eq_true, beq_iff_eq] at hd
      rw [if_pos (by omega)]
      refine key _ ?_ (take_while _ _)
      cases r with
      | nil => simp [headB, digitB] at hd
      | cons c r => simp [whileL, show digitB c.toNat = true from hd.2]
  unfold Lib.parseIntB
  dsimp only
  revert h2
  cases Lib.parseUintB 64 (if b.toNat = 43 ∨ b.toNat = 45 then r.take (whileL digitB r) else b :: r.take (whileL digitB r)) with
  | ok u =>
    intro _
    dsimp only
    split
    · simp
    · split <;> simp
  | «syntax» => intro h; exact absurd rfl h
  | range => simp
theorem TB.below {W W1 w1 : World} {b : Nat} {k v i : Int} {tx : ByteArray} (h : TB W b k v i tx) (hb : Below W1.heap.size W1 w1) (hh : W1.heap = W.heap) : TB w1 b k v i tx :=
  ⟨(hb.block b (by rw [hh]; exact blk_lt h.blk)).trans (by rw [hh]; exact h.blk)⟩
theorem Scan.below {W W1 w1 : World} {g : Nat} {s : ByteArray} {i c f : Int} (h : Scan W g s i c f) (hb : Below W1.heap.size W1 w1) (hh : W1.heap = W.heap) : Scan w1 g s i c f :=
  (hb.block g (by rw [hh]; exact blk_lt h)).trans (by rw [hh]; exact h)
theorem gbelow2 {w W W1 w1 : World} {r : Option Nat} (h : w.grownBy W r) (hb : Below W1.heap.size W1 w1) (hW : W1.os = W.os ∧ W1.tape = W.tape ∧ W1.output = W.output ∧ W1.heap = W.heap) : w.grownBy w1 r :=
  ⟨hb.os.trans (hW.1.trans h.os), hb.tape.trans (hW.2.1.trans h.tape), hb.output.trans (hW.2.2.1.trans h.output), by have := h.size; have := hb.size; rw [hW.2.2.2] at this; omega, fun k hk hne => (hb.block k (by rw [hW.2.2.2]; have := h.size; omega)).trans (by rw [hW.2.2.2]; exact h.block k hk hne)⟩

set_option maxRecDepth 100000 in
set_option maxHeartbeats 4000000 in
theorem token_any (g : Nat) (s : ByteArray) (i : Nat) (c f : Int) (w : World) (h : Scan w g s i c f) (hi : i < s.size) (hs : s.size ≤ 4096) (te : TypeId) (pe : Value) (hE : w.cell? ⟨2, 0, none⟩ = some (.iface te pe)) :
    Calls Tryd.prog 14 #[.pointer (some ⟨g, 0, none⟩)] w fun e w' => Tokened e w' g s i c f (tokenL s[i] ((bs s).drop (i + 1))) ∧ w.grownBy w' (some g) := by
  have g0 := h.c0
  have g1 := h.c1
  have f1 := h.fz 1
  have hgw := blk_lt h
  have hj : i ≤ s.size := by omega
  obtain ⟨x, hx⟩ : ∃ x : Int, x = (s[i].toNat : Int) := ⟨_, rfl⟩
  have HX := Aside0.mk (show headB ((bs s).drop i) = x by rw [drop_at hi, hx]; rfl)
  have HXX := Aside0.mk hx
  have hS := Aside0.mk h
  have hg2 : some 2 ≠ some g := by
    rintro h0
    injection h0 with h0
    subst h0
    rw [h.c0] at hE
    cases hE
  have HE := Aside0.mk hE
  clear h hx hE
  go_enter Tryd.func14, Tryd.ntmps14
  go_upto_block 0 with (first | (go_at_call_of 20 (Value.int IntKind.i64 0); refine (peek0 g s i c f x _ (scan_below hS.out (((Below.refl _ _).alloc (Nat.le_refl _) _).alloc (by simp) _) hgw) hs hj HX.out).mono ?_; rintro e w1 ⟨rfl, q1, rfl⟩))
  go_cut [] (fun W => ∃ (p : Nat) (kind v : Int) (tx : ByteArray), i ≤ p ∧ p ≤ s.size ∧ Aside0 (Mid (tokenL s[i] ((bs s).drop (i + 1))) W g w.heap.size s i p kind v c f tx) ∧ Aside0 (w.grownBy W (some g)))
  case first =>
    have hgw' : g ≠ w.heap.size ∧ g ≠ w.heap.size + 1 := ⟨by omega, by omega⟩
    have hW0 : ∃ W0 : World, W0 = ((w.alloc (.cells #[.int .i64 0, .string ⟨#[]⟩, .int .i64 0, .int .i64 0] 31)).alloc (.cells #[.int .i64 0, .string ⟨#[]⟩, .int .i64 0, .int .i64 i] 31)).drewN q1 := ⟨_, rfl⟩
    obtain ⟨W0, hW0⟩ := hW0
    have S0 : Aside0 (Scan W0 g s i c f) := ⟨by rw [hW0]; exact Scan.drewN (scan_below hS.out (((Below.refl _ _).alloc (Nat.le_refl _) _).alloc (by simp) _) hgw) _⟩
    have B0 : Aside0 (TB W0 w.heap.size 0 0 0 ⟨#[]⟩) := ⟨⟨by rw [hW0]; exact (Lib.alloc_old _ _ _ (by simp)).trans (heap_alloc_new w _)⟩⟩
    have B1 : Aside0 (TB W0 (w.heap.size + 1) 0 0 i ⟨#[]⟩) := ⟨⟨by rw [hW0]; exact (by simpa using heap_alloc_new (w.alloc (.cells #[.int .i64 0, .string ⟨#[]⟩, .int .i64 0, .int .i64 0] 31)) (.cells #[.int .i64 0, .string ⟨#[]⟩, .int .i64 0, .int .i64 i] 31))⟩⟩
    have G0 : Aside0 (w.grownBy W0 (some g)) := ⟨by rw [hW0]; exact gdrewN (galloc (galloc (grefl _ _) _) _) _⟩
    rw [← hW0]
    clear hW0 g0 g1 f1
    have g0 := S0.out.c0
    have g1 := S0.out.c1
    have f1 := S0.out.fz 1
    have b0 := B1.out.c0
    have b1 := B1.out.c1
    have b2 := B1.out.c2
    have b3 := B1.out.c3
    have e0 := B1.out.fz 0
    have e1 := B1.out.fz 1
    have e2 := B1.out.fz 2
    by_cases hA : x = 10
    · obtain rfl : x = 10 := hA
      have HT := Aside0.mk (show tokenL s[i] ((bs s).drop (i + 1)) = .ok 5 [10] 0 0 by rw [byte_of HXX.out (show (10 : UInt8).toNat = ((10 : Int)).toNat from rfl)]; rfl)
      go_wp2
      go_meet
      case rel => exact ⟨i + 1, 5, 0, ⟨#[]⟩, by omega, by omega, ⟨by rw [HT.out]; exact ⟨c, f, ((scan_set S0.out (by omega)).at_ _).eq (by omega), (B1.out.kind _).far (by omega) _ _, (B0.out.far (by omega) _ _).far (by omega) _ _, rfl, rfl, rfl, (take_one hi HXX.out rfl).symm, rfl, rfl⟩⟩, ⟨gset (gset2 G0.out (by omega) _ _) _ _⟩⟩
    · have hn10 : (x == 10) = false := beq_eq_false_iff_ne.2 hA
      clear hA
      by_cases hA : x = 59
      · obtain rfl : x = 59 := hA
        have HT := Aside0.mk (show tokenL s[i] ((bs s).drop (i + 1)) = .ok 5 [59] 0 0 by rw [byte_of HXX.out (show (59 : UInt8).toNat = ((59 : Int)).toNat from rfl)]; rfl)
        go_wp2
        go_meet
        case rel => exact ⟨i + 1, 5, 0, ⟨#[]⟩, by omega, by omega, ⟨by rw [HT.out]; exact ⟨c, f, ((scan_set S0.out (by omega)).at_ _).eq (by omega), (B1.out.kind _).far (by omega) _ _, (B0.out.far (by omega) _ _).far (by omega) _ _, rfl, rfl, rfl, (take_one hi HXX.out rfl).symm, rfl, rfl⟩⟩, ⟨gset (gset2 G0.out (by omega) _ _) _ _⟩⟩
      · have hn59 : (x == 59) = false := beq_eq_false_iff_ne.2 hA
        clear hA
        by_cases hA : x = 123
        · obtain rfl : x = 123 := hA
          have HT := Aside0.mk (show tokenL s[i] ((bs s).drop (i + 1)) = .ok 4 [123] 0 0 by rw [byte_of HXX.out (show (123 : UInt8).toNat = ((123 : Int)).toNat from rfl)]; rfl)
          go_wp2
          go_meet
          case rel => exact ⟨i + 1, 4, 0, ⟨#[]⟩, by omega, by omega, ⟨by rw [HT.out]; exact ⟨c, f, ((scan_set S0.out (by omega)).at_ _).eq (by omega), (B1.out.kind _).far (by omega) _ _, (B0.out.far (by omega) _ _).far (by omega) _ _, rfl, rfl, rfl, (take_one hi HXX.out rfl).symm, rfl, rfl⟩⟩, ⟨gset (gset2 G0.out (by omega) _ _) _ _⟩⟩
        · have hn123 : (x == 123) = false := beq_eq_false_iff_ne.2 hA
          clear hA
          by_cases hA : x = 125
          · obtain rfl : x = 125 := hA
            have HT := Aside0.mk (show tokenL s[i] ((bs s).drop (i + 1)) = .ok 4 [125] 0 0 by rw [byte_of HXX.out (show (125 : UInt8).toNat = ((125 : Int)).toNat from rfl)]; rfl)
            go_wp2
            go_meet
            case rel => exact ⟨i + 1, 4, 0, ⟨#[]⟩, by omega, by omega, ⟨by rw [HT.out]; exact ⟨c, f, ((scan_set S0.out (by omega)).at_ _).eq (by omega), (B1.out.kind _).far (by omega) _ _, (B0.out.far (by omega) _ _).far (by omega) _ _, rfl, rfl, rfl, (take_one hi HXX.out rfl).symm, rfl, rfl⟩⟩, ⟨gset (gset2 G0.out (by omega) _ _) _ _⟩⟩
          · have hn125 : (x == 125) = false := beq_eq_false_iff_ne.2 hA
            clear hA
            by_cases hA : x = 61
            · obtain rfl : x = 61 := hA
              have HT := Aside0.mk (show tokenL s[i] ((bs s).drop (i + 1)) = .ok 4 [61] 0 0 by rw [byte_of HXX.out (show (61 : UInt8).toNat = ((61 : Int)).toNat from rfl)]; rfl)
              go_wp2
              go_meet
              case rel => exact ⟨i + 1, 4, 0, ⟨#[]⟩, by omega, by omega, ⟨by rw [HT.out]; exact ⟨c, f, ((scan_set S0.out (by omega)).at_ _).eq (by omega), (B1.out.kind _).far (by omega) _ _, (B0.out.far (by omega) _ _).far (by omega) _ _, rfl, rfl, rfl, (take_one hi HXX.out rfl).symm, rfl, rfl⟩⟩, ⟨gset (gset2 G0.out (by omega) _ _) _ _⟩⟩
            · have hn61 : (x == 61) = false := beq_eq_false_iff_ne.2 hA
              clear hA
              by_cases hA : x = 34
              · obtain rfl : x = 34 := hA
                have HC := Aside0.mk (byte_of HXX.out (show (34 : UInt8).toNat = ((34 : Int)).toNat from rfl))
                cases hq : quoteL ((bs s).drop (i + 1)) with
                | ok t n =>
                  have HQ := Aside0.mk hq
                  clear hq
                  go_wp2_with (first | (go_at_call 21; refine (quote_ok g s i c f _ (scan_set S0.out hgw'.2) hi hs t n HQ.out).mono ?_; rintro e w2 ⟨rfl, hS2, hG2⟩; have T2 := Aside0.mk ((B1.out.kind 2).grown hG2 (by omega)); have Z2 := Aside0.mk ((B0.out.far (by omega) _ _).grown hG2 (by omega)); have b0 := T2.out.c0; have b1 := T2.out.c1; have b2 := T2.out.c2; have b3 := T2.out.c3; have e1 := T2.out.fz 1; have a0 := Z2.out.c0; have a1 := Z2.out.c1; have a2 := Z2.out.c2; have a3 := Z2.out.c3; have z0 := Z2.out.fz 0; have z1 := Z2.out.fz 1; have z2 := Z2.out.fz 2; have z3 := Z2.out.fz 3))
                  refine bodyPost_ret (v := .agg #[.int .i64 2, .string ⟨t.toArray⟩, .int .i64 0, .int .i64 i]) (by simp [results, Tryd.results14, go_sem, a0, a1, a2, a3]) rfl ⟨?_, ?_⟩
                  · rw [HC.out, tok_quote, HQ.out]
                    exact ⟨rfl, scan_set (scan_set (scan_set (scan_set (scan_set hS2 (by omega)) (by omega)) (by omega)) (by omega)) (by omega)⟩
                  · exact gset2 (gset2 (gset2 (gset2 (gset2 (gtrans (gset2 G0.out (by omega) _ _) hG2) (by omega) _ _) (by omega) _ _) (by omega) _ _) (by omega) _ _) (by omega) _ _
                | bad code o =>
                  have HQ := Aside0.mk hq
                  clear hq
                  go_wp2_with (first | (go_at_call 21; refine (quote_no g s i c f _ (scan_set S0.out hgw'.2) hi hs code o HQ.out).mono ?_; rintro e w2 ⟨rfl, hS2, hG2⟩; have T2 := Aside0.mk ((B1.out.kind 2).grown hG2 (by omega)); have Z2 := Aside0.mk ((B0.out.far (by omega) _ _).grown hG2 (by omega)); have b0 := T2.out.c0; have b1 := T2.out.c1; have b2 := T2.out.c2; have b3 := T2.out.c3; have e1 := T2.out.fz 1; have a0 := Z2.out.c0; have a1 := Z2.out.c1; have a2 := Z2.out.c2; have a3 := Z2.out.c3; have z0 := Z2.out.fz 0; have z1 := Z2.out.fz 1; have z2 := Z2.out.fz 2; have z3 := Z2.out.fz 3))
                  refine bodyPost_ret (v := .agg #[.int .i64 2, .string ⟨#[]⟩, .int .i64 0, .int .i64 i]) (by simp [results, Tryd.results14, go_sem, a0, a1, a2, a3]) rfl ⟨?_, ?_⟩
                  · obtain ⟨p, hS2⟩ := hS2
                    have hsc := scan_set (u := .int .i64 i) (j := 3) (scan_set (u := .int .i64 0) (j := 2) (scan_set (u := .string ⟨#[]⟩) (j := 1) (scan_set (u := .int .i64 2) (j := 0) (scan_set (u := .string ⟨#[]⟩) (j := 1) hS2 hgw'.2) hgw'.1) hgw'.1) hgw'.1) hgw'.1
                    rw [HC.out, tok_quote, HQ.out]
                    cases o with
                    | none => exact ⟨⟨_, _, _, rfl⟩, _, hsc⟩
                    | some k => exact ⟨⟨_, _, _, rfl⟩, _, hsc⟩
                  · exact gset2 (gset2 (gset2 (gset2 (gset2 (gtrans (gset2 G0.out (by omega) _ _) hG2) (by omega) _ _) (by omega) _ _) (by omega) _ _) (by omega) _ _) (by omega) _ _
              · have hn34 : (x == 34) = false := beq_eq_false_iff_ne.2 hA
                clear hA
                have HN := Aside0.mk (And.intro hn10 (And.intro hn59 (And.intro hn123 (And.intro hn125 (And.intro hn61 hn34)))))
                obtain ⟨y, hy⟩ : ∃ y : Int, y = headB ((bs s).drop (i + 1)) := ⟨_, rfl⟩
                have HY := Aside0.mk hy.symm
                clear hy
                obtain ⟨nm, hnm⟩ : ∃ nm, nm = (digitB x || (x == 45 && digitB y)) := ⟨_, rfl⟩
                have HNM := Aside0.mk hnm
                clear hnm
                go_upto_region 14 with (fail)
                go_cut [61] (fun v61 W => ∃ q, v61 = .bool nm ∧ Aside0 (W0.drewN q = W))
                case first =>
                  by_cases hw : digitB x = true
                  · go_wp2_with (go_at_call 22; refine (digit_any _ _).mono ?_; rintro e w1 ⟨rfl, rfl⟩)
                    go_meet
                    case rel => exact ⟨0, by rw [HNM.out, hw]; rfl, ⟨rfl⟩⟩
                  · have hw' : digitB x = false := by simpa using hw
                    by_cases h45 : x = 45
                    · obtain rfl : x = 45 := h45
                      obtain ⟨z, hz⟩ : ∃ z, z = digitB y := ⟨_, rfl⟩
                      have HZ := Aside0.mk hz.symm
                      clear hz
                      go_wp2_with (first | (go_at_call_of 20 (Value.int IntKind.i64 1); refine (peek1 g s i c f y _ (by first | exact S0.out | exact S0.out.drewN _) hs hj HY.out).mono ?_; rintro e w1 ⟨rfl, q2, rfl⟩) | (go_at_call_of 22 (Value.int IntKind.u8 45); refine (digit_any _ _).mono ?_; rintro e w1 ⟨rfl, rfl⟩) | (go_at_call 22; refine (digit_is y z HZ.out _).mono ?_; rintro e w1 ⟨rfl, rfl⟩))
                      go_meet
                      case rel => exact ⟨q2, by rw [HNM.out, hw', HZ.out]; simp, ⟨rfl⟩⟩
                    · have h45' : (x == 45) = false := by simpa using h45
                      go_wp2_with (go_at_call 22; refine (digit_any _ _).mono ?_; rintro e w1 ⟨rfl, rfl⟩)
                      go_meet
                      case rel => exact ⟨0, by rw [HNM.out, hw', h45']; rfl, ⟨rfl⟩⟩
                case rest =>
                  obtain ⟨q3, rfl, hq⟩ := hcut
                  replace S0 : Aside0 (Scan wc g s i c f) := ⟨by rw [← hq.out]; exact S0.out.drewN _⟩
                  replace B0 : Aside0 (TB wc w.heap.size 0 0 0 ⟨#[]⟩) := ⟨by rw [← hq.out]; exact ⟨B0.out.blk⟩⟩
                  replace B1 : Aside0 (TB wc (w.heap.size + 1) 0 0 i ⟨#[]⟩) := ⟨by rw [← hq.out]; exact ⟨B1.out.blk⟩⟩
                  replace G0 : Aside0 (w.grownBy wc (some g)) := ⟨by rw [← hq.out]; exact gdrewN G0.out _⟩
                  clear hq g0 g1 f1 b0 b1 b2 b3 e0 e1 e2
                  have g0 := S0.out.c0
                  have g1 := S0.out.c1
                  have f1 := S0.out.fz 1
                  have b0 := B1.out.c0
                  have b1 := B1.out.c1
                  have b2 := B1.out.c2
                  have b3 := B1.out.c3
                  have e0 := B1.out.fz 0
                  have e1 := B1.out.fz 1
                  have e2 := B1.out.fz 2
                  cases nm with
                  | true =>
                    obtain ⟨p, hp⟩ : ∃ p, p = i + 1 + whileL digitB ((bs s).drop (i + 1)) := ⟨_, rfl⟩
                    have hpl : p ≤ s.size := by have := while_le digitB ((bs s).drop (i + 1)); rw [List.length_drop, bs_len] at this; omega
                    have hip : i ≤ p := by omega
                    have HW := Aside0.mk hp
                    clear hp
                    cases hpar : Lib.parseIntB 64 (s.extract i p).data.toList with
                    | ok v =>
                      have HP := Aside0.mk hpar
                      clear hpar
                      go_upto_region 19 with (go_at_call 23; refine (while_digit g s (i + 1) c f _ (((scan_set S0.out hgw'.2).at_ _).eq (by omega)) (by omega) hs).mono ?_; rintro e w2 ⟨rfl, hS2, hG2⟩; rw [← HW.out] at hS2; have S2 := Aside0.mk hS2; have G2 := Aside0.mk hG2; have T2 := Aside0.mk (((B1.out.kind 3).far (by omega) _ _).grown hG2 (by omega)); have Z2 := Aside0.mk (((B0.out.far (by omega) _ _).far (by omega) _ _).grown hG2 (by omega)); clear hS2 hG2; have g0 := S2.out.c0; have g1 := S2.out.c1; have f1 := S2.out.fz 1; have b0 := T2.out.c0; have b1 := T2.out.c1; have b2 := T2.out.c2; have b3 := T2.out.c3; have e1 := T2.out.fz 1; have e2 := T2.out.fz 2)
                      go_cut [5] (fun v5 W => v5 = .nilIface ∧ Aside0 (Scan W g s p c f) ∧ Aside0 (TB W (w.heap.size + 1) 3 v i ⟨#[]⟩) ∧ Aside0 (TB W w.heap.size 0 0 0 ⟨#[]⟩) ∧ Aside0 (w.grownBy W (some g)))
                      case first =>
                        go_region_with (go_at_call 24; refine (parse_ok s i p v _ HP.out hpl hs).mono ?_; rintro e w3 ⟨rfl, hb3⟩; have T3 := Aside0.mk (T2.out.below hb3 rfl); have S3 := Aside0.mk (Scan.below S2.out hb3 rfl); have Z3 := Aside0.mk (Z2.out.below hb3 rfl); have G3 := Aside0.mk (gbelow2 (gtrans (gset (gset2 G0.out (by omega) _ _) _ _) G2.out) hb3 ⟨rfl, rfl, rfl, rfl⟩); clear hb3; have g0 := S3.out.c0; have g1 := S3.out.c1; have f1 := S3.out.fz 1; have b0 := T3.out.c0; have b1 := T3.out.c1; have b2 := T3.out.c2; have b3 := T3.out.c3; have e1 := T3.out.fz 1; have e2 := T3.out.fz 2)
                        all_goals (go_wp2; go_meet; exact ⟨rfl, ⟨((scan_set S3.out (by omega)))⟩, ⟨T3.out.int v⟩, ⟨Z3.out.far (by omega) _ _⟩, ⟨gset2 G3.out (by omega) _ _⟩⟩)
                      case rest =>
                        obtain ⟨rfl, S3, T3, Z3, G3⟩ := hcut
                        clear S2 G2 T2 Z2 g0 g1 f1 b0 b1 b2 b3 e1 e2 e0
                        have g0 := S3.out.c0
                        have g1 := S3.out.c1
                        have b3 := T3.out.c3
                        obtain ⟨z, hz⟩ : ∃ z, z = headB ((bs s).drop p) := ⟨_, rfl⟩
                        have HZ := Aside0.mk hz.symm
                        clear hz
                        cases hzw : wordB z with
                        | true =>
                          have HT := Aside0.mk (tok_num_word HN.out HXX.out (by rw [← HY.out] at HNM; exact HNM.out.symm) (show Lib.parseIntB 64 (s[i] :: ((bs s).drop (i + 1)).take (whileL digitB ((bs s).drop (i + 1)))) = .ok v by rw [← extract_num hi HW.out]; exact HP.out) (by rw [List.drop_drop, ← HW.out, HZ.out]; exact hzw))
                          go_wp2_with (first | (go_at_call 20; refine (peek0 g s p c f z _ S3.out hs hpl HZ.out).mono ?_; rintro e w1 ⟨rfl, q4, rfl⟩) | (go_at_call 25; refine (word_is z true hzw _).mono ?_; rintro e w1 ⟨rfl, rfl⟩) | (go_at_call 19; refine (wrong_any g s p c f _ _ _ (S3.out.drewN _)).mono ?_; rintro e w4 ⟨rfl, hS4, hG4⟩))
                          go_meet
                          case rel => exact ⟨p, 3, v, ⟨#[]⟩, hip, hpl, ⟨by rw [HT.out]; exact ⟨_, _, hS4, TB.grown (T3.out.drewN _) hG4 (by omega), TB.grown (Z3.out.drewN _) hG4 (by omega), rfl, by simp⟩⟩, ⟨gtrans (gdrewN G3.out _) hG4⟩⟩
                        | false =>
                          have HT := Aside0.mk (tok_num_ok HN.out HXX.out (by rw [← HY.out] at HNM; exact HNM.out.symm) (show Lib.parseIntB 64 (s[i] :: ((bs s).drop (i + 1)).take (whileL digitB ((bs s).drop (i + 1)))) = .ok v by rw [← extract_num hi HW.out]; exact HP.out) (by rw [List.drop_drop, ← HW.out, HZ.out]; exact hzw))
                          go_wp2_with (first | (go_at_call 20; refine (peek0 g s p c f z _ S3.out hs hpl HZ.out).mono ?_; rintro e w1 ⟨rfl, q4, rfl⟩) | (go_at_call 25; refine (word_is z false hzw _).mono ?_; rintro e w1 ⟨rfl, rfl⟩))
                          go_meet
                          case rel => exact ⟨p, 3, v, ⟨#[]⟩, hip, hpl, ⟨by rw [HT.out]; exact ⟨c, f, S3.out.drewN _, T3.out.drewN _, Z3.out.drewN _, rfl, rfl, HW.out, (take_num hi).symm, rfl, rfl⟩⟩, ⟨gdrewN G3.out _⟩⟩
                    | «syntax» =>
                      exact absurd hpar (by rw [extract_num hi HW.out]; exact parse_ne_syntax HXX.out (by rw [← HY.out] at HNM; exact HNM.out.symm))
                    | range =>
                      have HP := Aside0.mk hpar
                      clear hpar
                      obtain ⟨v, hv⟩ : ∃ v, v = Lib.intSat 64 (s.extract i p).data.toList := ⟨_, rfl⟩
                      have HV := Aside0.mk hv.symm
                      clear hv
                      go_upto_region 19 with (go_at_call 23; refine (while_digit g s (i + 1) c f _ (((scan_set S0.out hgw'.2).at_ _).eq (by omega)) (by omega) hs).mono ?_; rintro e w2 ⟨rfl, hS2, hG2⟩; rw [← HW.out] at hS2; have S2 := Aside0.mk hS2; have G2 := Aside0.mk hG2; have T2 := Aside0.mk (((B1.out.kind 3).far (by omega) _ _).grown hG2 (by omega)); have Z2 := Aside0.mk (((B0.out.far (by omega) _ _).far (by omega) _ _).grown hG2 (by omega)); clear hS2 hG2; have g0 := S2.out.c0; have g1 := S2.out.c1; have f1 := S2.out.fz 1; have b0 := T2.out.c0; have b1 := T2.out.c1; have b2 := T2.out.c2; have b3 := T2.out.c3; have e1 := T2.out.fz 1; have e2 := T2.out.fz 2)
                      go_cut [5] (fun v5 W => ∃ N : Nat, v5 = .iface 64 (.pointer (some ⟨N, 0, none⟩)) ∧ Aside0 (Scan W g s p c f) ∧ Aside0 (TB W (w.heap.size + 1) 3 v i ⟨#[]⟩) ∧ Aside0 (TB W w.heap.size 0 0 0 ⟨#[]⟩) ∧ Aside0 (w.grownBy W (some g)))
                      case first =>
                        have HE2 := Aside0.mk ((gtrans (gset (gset2 G0.out (by omega) _ _) _ _) G2.out).cell HE.out hg2)
                        go_region_with (go_at_call 24; refine (parse_range s i p v te pe _ HP.out HV.out hpl hs (by exact HE2.out)).mono ?_; rintro e w3 ⟨N, rfl, hb3⟩; have T3 := Aside0.mk (T2.out.below hb3 rfl); have S3 := Aside0.mk (Scan.below S2.out hb3 rfl); have Z3 := Aside0.mk (Z2.out.below hb3 rfl); have G3 := Aside0.mk (gbelow2 (gtrans (gset (gset2 G0.out (by omega) _ _) _ _) G2.out) hb3 ⟨rfl, rfl, rfl, rfl⟩); clear hb3; have g0 := S3.out.c0; have g1 := S3.out.c1; have f1 := S3.out.fz 1; have b0 := T3.out.c0; have b1 := T3.out.c1; have b2 := T3.out.c2; have b3 := T3.out.c3; have e1 := T3.out.fz 1; have e2 := T3.out.fz 2)
                        all_goals (go_wp2; go_meet; exact ⟨_, rfl, ⟨((scan_set S3.out (by omega)))⟩, ⟨T3.out.int v⟩, ⟨Z3.out.far (by omega) _ _⟩, ⟨gset2 G3.out (by omega) _ _⟩⟩)
                      case rest =>
                        obtain ⟨N, rfl, S3, T3, Z3, G3⟩ := hcut
                        clear S2 G2 T2 Z2 g0 g1 f1 b0 b1 b2 b3 e1 e2 e0
                        have g0 := S3.out.c0
                        have g1 := S3.out.c1
                        have b3 := T3.out.c3
                        have HT := Aside0.mk (tok_num_range HN.out HXX.out (by rw [← HY.out] at HNM; exact HNM.out.symm) (show Lib.parseIntB 64 (s[i] :: ((bs s).drop (i + 1)).take (whileL digitB ((bs s).drop (i + 1)))) = .range by rw [← extract_num hi HW.out]; exact HP.out))
                        go_wp2_with (first | (go_at_call 19; refine (wrong_any g s p c f _ _ _ S3.out).mono ?_; rintro e w4 ⟨rfl, hS4, hG4⟩))
                        go_meet
                        case rel => exact ⟨p, 3, v, ⟨#[]⟩, hip, hpl, ⟨by rw [HT.out]; exact ⟨_, _, hS4, T3.out.grown hG4 (by omega), Z3.out.grown hG4 (by omega), rfl, by simp⟩⟩, ⟨gtrans G3.out hG4⟩⟩
                  | false =>
                    cases hzw : wordB x with
                    | true =>
                      obtain ⟨p, hp⟩ : ∃ p, p = i + whileL wordB ((bs s).drop i) := ⟨_, rfl⟩
                      have hpl : p ≤ s.size := by have := while_le wordB ((bs s).drop i); rw [List.length_drop, bs_len] at this; omega
                      have hip : i ≤ p := by omega
                      have HW := Aside0.mk hp
                      clear hp
                      have HT := Aside0.mk (tok_word HN.out HXX.out (by rw [← HY.out] at HNM; exact HNM.out.symm) hzw)
                      go_wp2_with (first | (go_at_call 25; refine (word_is x true hzw _).mono ?_; rintro e w1 ⟨rfl, rfl⟩) | (go_at_call 23; refine (while_word g s i c f _ (scan_set S0.out hgw'.2) hj hs).mono ?_; rintro e w2 ⟨rfl, hS2, hG2⟩))
                      go_meet
                      case rel => exact ⟨p, 1, 0, ⟨#[]⟩, hip, hpl, ⟨by rw [HT.out]; exact ⟨c, f, by rw [HW.out]; exact hS2, (B1.out.kind _).grown hG2 (by omega), (B0.out.far (by omega) _ _).grown hG2 (by omega), rfl, rfl, by rw [HW.out, drop_at hi, while_cons (by rw [← HXX.out]; exact hzw)]; omega, (take_num hi).symm, rfl, rfl⟩⟩, ⟨gtrans (gset2 G0.out (by omega) _ _) hG2⟩⟩
                    | false =>
                      have HT := Aside0.mk (tok_none HN.out HXX.out (by rw [← HY.out] at HNM; exact HNM.out.symm) hzw)
                      go_wp2_with (first | (go_at_call 25; refine (word_is x false hzw _).mono ?_; rintro e w1 ⟨rfl, rfl⟩) | (go_at_call 19; refine (wrong_any g s i c f _ _ _ S0.out).mono ?_; rintro e w2 ⟨rfl, hS2, hG2⟩))
                      go_meet
                      case rel => exact ⟨i, 0, 0, ⟨#[]⟩, Nat.le_refl _, hj, ⟨by rw [HT.out]; exact ⟨_, _, hS2, B1.out.grown hG2 (by omega), B0.out.grown hG2 (by omega), rfl, by simp⟩⟩, ⟨gtrans G0.out hG2⟩⟩
  case rest =>
    obtain ⟨p, kind, v, tx, hip, hps, HM, HG⟩ := hcut
    obtain ⟨c', f', hS2, hB1, hB0, hM⟩ := HM.out
    have S2 := Aside0.mk hS2
    have B1 := Aside0.mk hB1
    have B0 := Aside0.mk hB0
    have M2 := Aside0.mk hM
    clear hS2 hB1 hB0 hM HM g0 g1 f1
    have g0 := S2.out.c0
    have g1 := S2.out.c1
    have b0 := B1.out.c0
    have b1 := B1.out.c1
    have b2 := B1.out.c2
    have b3 := B1.out.c3
    have e1 := B1.out.fz 1
    have a0 := B0.out.c0
    have a1 := B0.out.c1
    have a2 := B0.out.c2
    have a3 := B0.out.c3
    have z0 := B0.out.fz 0
    have z1 := B0.out.fz 1
    have z2 := B0.out.fz 2
    have z3 := B0.out.fz 3
    go_wp2
    go_region
    go_wp2
    refine bodyPost_ret (v := .agg #[.int .i64 kind, .string (s.extract i p), .int .i64 v, .int .i64 i]) (by simp [results, Tryd.results14, go_sem, a0, a1, a2, a3]) rfl ⟨?_, ?_⟩
    · have hsc : Scan (((((wc.setCell ⟨w.heap.size + 1, 1, none⟩ (.string (s.extract i p))).setCell ⟨w.heap.size, 0, none⟩ (.int .i64 kind)).setCell ⟨w.heap.size, 1, none⟩ (.string (s.extract i p))).setCell ⟨w.heap.size, 2, none⟩ (.int .i64 v)).setCell ⟨w.heap.size, 3, none⟩ (.int .i64 i)).drew g s p c' f' :=
        (scan_set (scan_set (scan_set (scan_set (scan_set S2.out (by omega)) (by omega)) (by omega)) (by omega)) (by omega)).drew
      have hm := M2.out
      revert hm
      cases tokenL s[i] ((bs s).drop (i + 1)) with
      | ok k t v' m =>
        rintro ⟨rfl, rfl, rfl, rfl, rfl, rfl⟩
        refine ⟨?_, hsc⟩
        rw [extract_take, show i + 1 + m - i = m + 1 by omega]
      | bad code k =>
        rintro ⟨rfl, rfl⟩
        exact ⟨⟨_, _, _, rfl⟩, _, hsc⟩
    · exact gdrew (gset2 (gset2 (gset2 (gset2 (gset2 HG.out (by omega) _ _) (by omega) _ _) (by omega) _ _) (by omega) _ _) (by omega) _ _)
end Go.Proofs.YtdffbaikdibalaaDoor.T

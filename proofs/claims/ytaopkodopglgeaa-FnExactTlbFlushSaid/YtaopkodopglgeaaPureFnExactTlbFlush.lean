/- The plain statement of the law FnExactTlbFlush. -/
import Derived.Test.YtaopkodopglgeaaAbStFnExactTlbFlush
import Derived.Laws.BitsLemmas
namespace Go.Ab.FnExactTlbFlush.Pure
open Go.RowKit Go.Ab
set_option linter.unusedVariables false
set_option linter.unusedSimpArgs false
theorem wrap_id {x : Int} (h0 : -9223372036854775808 ≤ x) (h1 : x ≤ 9223372036854775807) : wrap64 x = x := by unfold wrap64; omega
theorem K0_ge {n : Nat} (h : n ≤ 18446744073709551616) : ∃ k, K0 = k + n := ⟨K0 - n, by rw [K0_eq]; omega⟩
theorem roomy_ok {n b : Int} (h : n * b ≤ 140737488355328) : roomy n b = true := by unfold roomy; rw [M0_eq]; simpa using h
theorem rd_nat (t : Ty) (l : List t.val) (i : Nat) : rd t l (i : Int) = l.getD i t.dflt := by unfold rd; rw [Int.toNat_natCast]
theorem rd_at (t : Ty) (l : List t.val) (i : Nat) (h : i < List.length l) : rd t l (i : Int) = l[i]'h := by rw [rd_nat]; simp [h]
theorem decp {p : Prop} [Decidable p] (h : p) : decide p = true := decide_eq_true h
theorem decn {p : Prop} [Decidable p] (h : ¬ p) : decide p = false := decide_eq_false h
theorem bt_range (m : ByteArray) (a : Int) : 0 ≤ bt m a ∧ bt m a ≤ 255 := by
  unfold bt
  have := (m.data.getD a.toNat 0).toNat_lt
  omega
theorem shl_eq {x s : Int} (n : Nat) (hs : s = (n : Int)) (h : n ≤ 64) (h0 : 0 ≤ x * 2 ^ n) (h1 : x * 2 ^ n ≤ 9223372036854775807) : shl .i64 x s = x * 2 ^ n := by
  subst hs
  unfold shl
  rw [Int.toNat_natCast, show min n IntKind.i64.bits = n from Nat.min_eq_left h, IntKind.wrap_i64]
  omega
theorem wrap_succ (i n : Nat) (h : i < n) (hn : n ≤ 140737488351232) : wrap64 ((i : Int) + 1) = ((i + 1 : Nat) : Int) := by
  unfold wrap64; omega
theorem yin_eq (a b c : Int) : impl_yin a b c = some (decide (b ≤ a ∧ a ≤ c), ()) := by
  unfold impl_yin
  dsimp only
  congr 2
  rw [Bool.eq_iff_iff]
  simp
/-- What is told of sizes once they are counted. -/
def small : (t : Ty) → t.val → Prop
  | .str, x => x.size ≤ 1048576
  | .slice t, l => List.length l ≤ 1048576 ∧ ∀ y ∈ (show List t.val from l), small t y
  | .pair a b, x => small a x.1 ∧ small b x.2
  | _, _ => True
/-- The same of rows alone. -/
def lens : (t : Ty) → t.val → Prop
  | .slice t, l => List.length l ≤ 1048576 ∧ ∀ y ∈ (show List t.val from l), lens t y
  | .pair a b, x => lens a x.1 ∧ lens b x.2
  | _, _ => True
theorem lens_of : ∀ {t : Ty} {x : t.val}, small t x → lens t x
  | .slice t, l, h => ⟨h.1, fun y hy => lens_of (h.2 y hy)⟩
  | .pair a b, x, h => ⟨lens_of h.1, lens_of h.2⟩
  | .str, _, _ => trivial
  | .int _, _, _ => trivial
  | .bool, _, _ => trivial
  | .unit, _, _ => trivial
  | .sum _ _, _, _ => trivial
  | .opq, _, _ => trivial
theorem lens_flat {t : Ty} (h : flat t = true) (x : t.val) : lens t x := by
  induction t with
  | slice t _ => simp [flat] at h
  | pair a b iha ihb => simp only [flat, Bool.and_eq_true] at h; exact ⟨iha h.1 x.1, ihb h.2 x.2⟩
  | _ => trivial
theorem lens_row {t : Ty} (h : flat t = true) {l : List t.val} (hl : l.length ≤ 1048576) : lens (.slice t) l := ⟨hl, fun y _ => lens_flat h y⟩
theorem lens_at {t : Ty} {l : List t.val} (h : lens (.slice t) l) (i : Nat) (hi : i < List.length l) : lens t (l[i]'hi) := h.2 _ (List.getElem_mem hi)
theorem good_at {t : Ty} {l : List t.val} (h : good (.slice t) l) (i : Nat) (hi : i < List.length l) : good t (l[i]'hi) := h.2 _ (List.getElem_mem hi)
theorem small_row {t : Ty} {l : List t.val} (hl : List.length l ≤ 1048576) (h : ∀ i, (hi : i < List.length l) → small t (l[i]'hi)) : small (.slice t) l := ⟨hl, fun y hy => by
  obtain ⟨i, hi, rfl⟩ := List.getElem_of_mem hy
  exact h i hi⟩
theorem maxLen_lt {n : Nat} (h : n ≤ maxLen) : n ≤ 9223372036854775807 := by unfold maxLen at h; omega
theorem wrap_inc (m j : Int) (h0 : 0 ≤ m) (h1 : m ≤ 4000000000000000000) (h2 : 0 ≤ j) (h3 : j ≤ 1000000) : wrap64 (m + j + 1) = m + (j + 1) := by
  unfold wrap64; omega
theorem wrap_i (i n : Nat) (h : i < n) (hn : n ≤ 9223372036854775807) : wrap64 ((i : Int) + 1) = ((i + 1 : Nat) : Int) := by
  unfold wrap64; omega
theorem rd_set (t : Ty) (l : List t.val) (i : Nat) (v : t.val) (h : i < List.length l) : rd t (List.set l i v) (i : Int) = v := by
  rw [rd_at t _ i (by simpa using h)]; simp
theorem b2s_one (n : Int) : (b2s [n]).size = 1 := rfl
theorem bsize_app (a b : ByteArray) : (a ++ b).size = a.size + b.size := ByteArray.size_append
theorem seq_self (s : ByteArray) : seq s s = true := by unfold seq; simp
theorem seq_ne_self (s : ByteArray) : (!seq s s) = false := by rw [seq_self]; rfl
/-- A loop that lays each element as it is. -/
theorem to_loop {α : Type} (F : Nat → List α → Nat → List α → Option (List α × Unit)) (l : List α) (hl : l.length ≤ 9223372036854775807)
    (hF : ∀ (k i : Nat) (ys : List α) (hi : i < l.length), ys.length = l.length → F (k + 1) l i ys = F k l (i + 1) (ys.set i l[i]))
    (hE : ∀ (k : Nat) (ys : List α), F (k + 1) l l.length ys = some (ys, ())) (ys : List α) (hy : ys.length = l.length) : F K0 l 0 ys = some (l, ()) := by
  have key : ∀ (d k i : Nat) (ys : List α), i + d = l.length → d < k → ys.length = l.length → (∀ j, j < i → ys[j]? = l[j]?) → F k l i ys = some (l, ()) := by
    intro d
    induction d with
    | zero =>
      intro k i ys hi hk hy hj
      obtain ⟨k, rfl⟩ : ∃ q, k = q + 1 := ⟨k - 1, by omega⟩
      have : i = l.length := by omega
      subst this
      rw [hE]
      congr 2
      apply List.ext_getElem? 
      intro j
      by_cases h : j < l.length
      · exact hj j h
      · rw [List.getElem?_eq_none (by omega), List.getElem?_eq_none (by omega)]
    | succ d ih =>
      intro k i ys hi hk hy hj
      obtain ⟨k, rfl⟩ : ∃ q, k = q + 1 := ⟨k - 1, by omega⟩
      rw [hF k i ys (by omega) hy]
      refine ih k (i + 1) _ (by omega) (by omega) (by simpa using hy) fun j hjj => ?_
      by_cases h : j = i
      · subst h
        rw [List.getElem?_set_self (by omega), List.getElem?_eq_getElem (by omega)]
      · rw [List.getElem?_set_ne (by omega)]
        exact hj j (by omega)
  exact key l.length K0 0 ys (by omega) (by rw [K0_eq]; omega) hy (fun j hj => by omega)
/-- A loop that takes from what is left, or is at its end. -/
theorem sz_loop {α : Type} (F : Nat → List α → Int → Nat → Option ((Int × Unit) ⊕ (Int × Unit))) (P : α → Prop) (l : List α) (hl : l.length ≤ 9223372036854775807)
    (hF : ∀ (k i : Nat) (left : Int) (hi : i < l.length), 0 ≤ left → left ≤ 1048576 → ∃ n, n ≤ left ∧ -1 ≤ n ∧ (0 ≤ n → P l[i]) ∧ F (k + 1) l left i = bif decide (n < 0) then some (Sum.inl (-1, ())) else F k l n (i + 1))
    (hE : ∀ (k : Nat) (left : Int), F (k + 1) l left l.length = some (Sum.inr (left, ()))) (left : Int) (h0 : 0 ≤ left) (h1 : left ≤ 1048576) :
    F K0 l left 0 = some (Sum.inl (-1, ())) ∨ ∃ n, n ≤ left ∧ 0 ≤ n ∧ (∀ i, (hi : i < l.length) → P l[i]) ∧ F K0 l left 0 = some (Sum.inr (n, ())) := by
  have key : ∀ (d k i : Nat) (left : Int), i + d = l.length → d < k → 0 ≤ left → left ≤ 1048576 → F k l left i = some (Sum.inl (-1, ())) ∨ ∃ n, n ≤ left ∧ 0 ≤ n ∧ (∀ j, i ≤ j → (hj : j < l.length) → P l[j]) ∧ F k l left i = some (Sum.inr (n, ())) := by
    intro d
    induction d with
    | zero =>
      intro k i left hi hk h0 h1
      obtain ⟨k, rfl⟩ : ∃ q, k = q + 1 := ⟨k - 1, by omega⟩
      have : i = l.length := by omega
      subst this
      exact .inr ⟨left, by omega, h0, fun j h1 h2 => by omega, hE k left⟩
    | succ d ih =>
      intro k i left hi hk h0 h1
      obtain ⟨k, rfl⟩ : ∃ q, k = q + 1 := ⟨k - 1, by omega⟩
      obtain ⟨n, n1, n2, hP, e⟩ := hF k i left (by omega) h0 h1
      rw [e]
      by_cases c : n < 0
      · rw [decp c]; exact .inl rfl
      · rw [decn c, cond_false]
        rcases ih k (i + 1) n (by omega) (by omega) (by omega) (by omega) with q | ⟨m, q1, q2, q3, q4⟩
        · exact .inl q
        · refine .inr ⟨m, by omega, q2, fun j h1 h2 => ?_, q4⟩
          by_cases h : j = i
          · subst h; exact hP (by omega)
          · exact q3 j (by omega) h2
  rcases key l.length K0 0 left (by omega) (by rw [K0_eq]; omega) h0 h1 with q | ⟨m, q1, q2, q3, q4⟩
  · exact .inl q
  · exact .inr ⟨m, q1, q2, fun i hi => q3 i (by omega) hi, q4⟩
/-- A loop that holds each element against itself. -/
theorem eq_loop {α : Type} (F : Nat → List α → List α → Nat → Option ((Bool × Unit) ⊕ Unit)) (l : List α) (hl : l.length ≤ 9223372036854775807)
    (hF : ∀ (k i : Nat) (hi : i < l.length), F (k + 1) l l i = F k l l (i + 1))
    (hE : ∀ (k : Nat), F (k + 1) l l l.length = some (Sum.inr ())) : F K0 l l 0 = some (Sum.inr ()) := by
  have key : ∀ (d k i : Nat), i + d = l.length → d < k → F k l l i = some (Sum.inr ()) := by
    intro d
    induction d with
    | zero =>
      intro k i hi hk
      obtain ⟨k, rfl⟩ : ∃ q, k = q + 1 := ⟨k - 1, by omega⟩
      have : i = l.length := by omega
      subst this
      exact hE k
    | succ d ih =>
      intro k i hi hk
      obtain ⟨k, rfl⟩ : ∃ q, k = q + 1 := ⟨k - 1, by omega⟩
      rw [hF k i (by omega)]
      exact ih k (i + 1) (by omega) (by omega)
  exact key l.length K0 0 (by omega) (by rw [K0_eq]; omega)
/-- A loop F that marks each element with running numbers, and a loop G that tells whether the marks stand. -/
theorem mark_loop {α : Type} (F : Nat → List α → Int → Nat → Option (Int × List α × Unit)) (c : Int) (E : Int → α → α) (hc : 0 ≤ c)
    (hF : ∀ (k : Nat) (xs : List α) (m : Int) (i : Nat) (hi : i < xs.length), 0 ≤ m → m ≤ 4000000000000000000 → xs.length ≤ 9223372036854775807 → F (k + 1) xs m i = F k (xs.set i (E m xs[i])) (m + c) (i + 1))
    (hFe : ∀ (k : Nat) (xs : List α) (m : Int), F (k + 1) xs m xs.length = some (m, xs, ())) (xs : List α) (m : Int) (hl : xs.length ≤ 9223372036854775807) (hm : 0 ≤ m) (hb : m + c * (xs.length : Int) ≤ 4000000000000000000) :
      ∃ ys, F K0 xs m 0 = some (m + c * (xs.length : Int), ys, ()) ∧ ys.length = xs.length ∧ ∀ i, (h : i < ys.length) → ∃ a, ys[i] = E (m + c * (i : Int)) a := by
  have key : ∀ (d k i : Nat) (xs : List α) (m : Int), i + d = xs.length → d < k → 0 ≤ m → m + c * d ≤ 4000000000000000000 → xs.length ≤ 9223372036854775807 →
      ∃ ys, F k xs m i = some (m + c * d, ys, ()) ∧ ys.length = xs.length ∧ (∀ j, j < i → ys[j]? = xs[j]?) ∧ ∀ j, i ≤ j → (h : j < ys.length) → ∃ a, ys[j] = E (m + c * ((j : Int) - i)) a := by
    intro d
    induction d with
    | zero =>
      intro k i xs m hi hk hm hb hl
      obtain ⟨k, rfl⟩ : ∃ q, k = q + 1 := ⟨k - 1, by omega⟩
      have : i = xs.length := by omega
      subst this
      exact ⟨xs, by rw [hFe]; simp, rfl, fun _ _ => rfl, fun j h1 h2 => by omega⟩
    | succ d ih =>
      intro k i xs m hi hk hm hb hl
      obtain ⟨k, rfl⟩ : ∃ q, k = q + 1 := ⟨k - 1, by omega⟩
      have hlt : i < xs.length := by omega
      have hcd : 0 ≤ c * (d : Int) := Int.mul_nonneg hc (by omega)
      have hs : c * ((d + 1 : Nat) : Int) = c * (d : Int) + c := by rw [Int.natCast_succ, Int.mul_add, Int.mul_one]
      rw [hs] at hb ⊢
      obtain ⟨ys, e1, e2, e3, e4⟩ := ih k (i + 1) (xs.set i (E m xs[i])) (m + c) (by simp; omega) (by omega) (by omega) (by omega) (by simpa using hl)
      have hy : i < ys.length := by rw [e2]; simpa using hlt
      have hyi : ys[i] = E m xs[i] := by
        have h := e3 i (by omega)
        rw [List.getElem?_eq_getElem hy, List.getElem?_set_self hlt] at h
        exact Option.some.inj h
      refine ⟨ys, ?_, by rw [e2]; simp, ?_, ?_⟩
      · rw [hF k xs m i hlt hm (by omega) hl, e1]
        congr 2
        omega
      · intro j hj
        rw [e3 j (by omega), List.getElem?_set_ne (by omega)]
      · intro j hj h
        by_cases h' : j = i
        · subst h'
          exact ⟨xs[j], by rw [hyi]; congr 1; rw [Int.sub_self, Int.mul_zero, Int.add_zero]⟩
        · obtain ⟨a, ha⟩ := e4 j (by omega) h
          refine ⟨a, by rw [ha]; congr 1; rw [Int.add_assoc]; congr 1; rw [show (j : Int) - (i : Int) = 1 + ((j : Int) - ((i + 1 : Nat) : Int)) by omega, Int.mul_add, Int.mul_one]⟩
  obtain ⟨ys, e1, e2, _, e4⟩ := key xs.length K0 0 xs m (by omega) (by rw [K0_eq]; omega) hm hb hl
  exact ⟨ys, e1, e2, fun i h => by obtain ⟨a, ha⟩ := e4 i (by omega) h; exact ⟨a, by simpa using ha⟩⟩
/-- A loop that tells whether the marks stand. -/
theorem held_loop {α : Type} (G : Nat → List α → Int → Nat → Option ((Int × Unit) ⊕ (Int × Unit))) (c : Int) (E : Int → α → α) (hc : 0 ≤ c)
    (hG : ∀ (k : Nat) (xs : List α) (m : Int) (i : Nat) (hi : i < xs.length) (a : α), 0 ≤ m → m ≤ 4000000000000000000 → xs.length ≤ 9223372036854775807 → xs[i] = E m a → G (k + 1) xs m i = G k xs (m + c) (i + 1))
    (hGe : ∀ (k : Nat) (xs : List α) (m : Int), G (k + 1) xs m xs.length = some (Sum.inr (m, ()))) (ys : List α) (m : Int) (hl : ys.length ≤ 9223372036854775807) (hm : 0 ≤ m) (hb : m + c * (ys.length : Int) ≤ 4000000000000000000)
    (hE : ∀ i, (h : i < ys.length) → ∃ a, ys[i] = E (m + c * (i : Int)) a) : G K0 ys m 0 = some (Sum.inr (m + c * (ys.length : Int), ())) := by
  have key : ∀ (d k i : Nat), i + d = ys.length → d < k → G k ys (m + c * (i : Int)) i = some (Sum.inr (m + c * (ys.length : Int), ())) := by
    intro d
    induction d with
    | zero =>
      intro k i hi hk
      obtain ⟨k, rfl⟩ : ∃ q, k = q + 1 := ⟨k - 1, by omega⟩
      have : i = ys.length := by omega
      subst this
      exact hGe k ys _
    | succ d ih =>
      intro k i hi hk
      obtain ⟨k, rfl⟩ : ∃ q, k = q + 1 := ⟨k - 1, by omega⟩
      obtain ⟨a, ha⟩ := hE i (by omega)
      have hcd : 0 ≤ c * (i : Int) := Int.mul_nonneg hc (by omega)
      have hle : c * (i : Int) ≤ c * (ys.length : Int) := Int.mul_le_mul_of_nonneg_left (by omega) hc
      rw [hG k ys _ i (by omega) a (by omega) (by omega) hl ha]
      have e : m + c * (i : Int) + c = m + c * ((i + 1 : Nat) : Int) := by
        rw [show ((i + 1 : Nat) : Int) = (i : Int) + 1 by omega, Int.mul_add, Int.mul_one]; omega
      rw [e]
      exact ih k (i + 1) (by omega) (by omega)
  have := key ys.length K0 0 (by omega) (by rw [K0_eq]; omega)
  simpa using this
theorem laws_szTlbEntryS_ok (l : List (Int × Int × Int × Int × Bool)) (left : Int) (h0 : 0 ≤ left) (h1 : left ≤ 1048576) (g : good (.slice R1) l) : ∃ n, laws_szTlbEntryS l left = some (n, ()) ∧ n ≤ left ∧ -1 ≤ n ∧ (0 ≤ n → small (.slice R1) l) := by
  unfold laws_szTlbEntryS
  have hm := maxLen_lt g.1
  have w : wrap64 (left - (l.length : Int)) = left - (l.length : Int) := wrap_id (by omega) (by omega)
  simp only [w]
  clear w
  by_cases c : left - (l.length : Int) < 0
  · refine ⟨-1, ?_, by omega, by omega, fun h => by omega⟩; simp only [decp c, cond_true]
  simp only [decn c, cond_false]
  exact ⟨_, rfl, by omega, by omega, fun _ => small_row (by omega) fun i hi => by simp [small]⟩
theorem laws_szTlb_ok (p0 : List (Int × Int × Int × Int × Bool)) (p1 : Int) (left : Int) (h0 : 0 ≤ left) (h1 : left ≤ 1048576) (g0 : good (.slice (.pair (.int .i64) (.pair (.int .i64) (.pair (.int .i64) (.pair (.int .i64) (.bool)))))) p0) : ∃ n, laws_szTlb p0 p1 left = some (n, ()) ∧ n ≤ left ∧ -1 ≤ n ∧ (0 ≤ n → small (.pair (.slice (.pair (.int .i64) (.pair (.int .i64) (.pair (.int .i64) (.pair (.int .i64) (.bool)))))) (.int .i64)) (p0, p1)) := by
  unfold laws_szTlb
  obtain ⟨n1, e1, l1, m1, s1⟩ := laws_szTlbEntryS_ok p0 left (by omega) (by omega) g0
  simp only [e1, Option.bind_some]
  by_cases c1 : n1 < 0
  · refine ⟨-1, ?_, by omega, by omega, fun h => by omega⟩; simp only [decp c1, cond_true]
  simp only [decn c1, cond_false]
  exact ⟨n1, rfl, by omega, by omega, fun _ => ⟨(s1 (by omega)), trivial⟩⟩
theorem laws_toTlbEntry_ok (p0 : Int) (p1 : Int) (p2 : Int) (p3 : Int) (p4 : Bool) : laws_toTlbEntry p0 p1 p2 p3 p4 = some (p0, p1, p2, p3, p4, ()) := by
  unfold laws_toTlbEntry
  first | rfl | simp only [Option.bind_some]
theorem laws_toTlbEntryS_ok (l : List (Int × Int × Int × Int × Bool)) (h : lens (.slice R1) l) : laws_toTlbEntryS l = some (l, ()) := by
  unfold laws_toTlbEntryS
  have hl0 := h.1
  rw [decp (show 0 ≤ (l.length : Int) by omega), decp (show (l.length : Int) ≤ (l.length : Int) by omega), roomy_ok (by omega)]
  have q := to_loop (fun k l i ys => laws_toTlbEntryS_l3 k l (i : Int) ys) l (by omega) (by
    intro k i ys hi hy
    show laws_toTlbEntryS_l3_step (laws_toTlbEntryS_l3 k) l (i : Int) ys = _
    unfold laws_toTlbEntryS_l3_step
    have hl := lens_at h i hi
    have d1 : decide ((i : Int) < (l.length : Int)) = true := decp (by omega)
    have d2 : decide ((0 : Int) ≤ (i : Int)) = true := decp (by omega)
    have d3 : decide ((i : Int) < (ys.length : Int)) = true := decp (by omega)
    have e := laws_toTlbEntry_ok l[i].1 l[i].2.1 l[i].2.2.1 l[i].2.2.2.1 l[i].2.2.2.2
    simp only [d1, d2, d3, rd_at R1 l i hi, e, Option.bind_some, wrap_i i l.length hi (by omega), Int.toNat_natCast, Bool.and_true, cond_true]
    try rfl) (by
    intro k ys
    show laws_toTlbEntryS_l3_step (laws_toTlbEntryS_l3 k) l (l.length : Int) ys = _
    unfold laws_toTlbEntryS_l3_step
    have d1 : decide ((l.length : Int) < (l.length : Int)) = false := decn (by omega)
    simp only [d1, cond_false]
    try rfl) (List.replicate ((l.length : Int).toNat) (Ty.dflt R1)) (by simp)
  have q' : laws_toTlbEntryS_l3 K0 l 0 (List.replicate ((l.length : Int).toNat) (Ty.dflt R1)) = some (l, ()) := q
  simp only [q', Option.bind_some, Bool.and_true, cond_true]
theorem laws_toTlb_ok (p0 : List (Int × Int × Int × Int × Bool)) (p1 : Int) (h0 : lens (.slice (.pair (.int .i64) (.pair (.int .i64) (.pair (.int .i64) (.pair (.int .i64) (.bool)))))) p0) : laws_toTlb p0 p1 = some (p0, p1, ()) := by
  unfold laws_toTlb
  first | rfl | simp only [laws_toTlbEntryS_ok, h0, Option.bind_some]
theorem laws_eqTlbEntry_ok (p0 : Int) (p1 : Int) (p2 : Int) (p3 : Int) (p4 : Bool) : laws_eqTlbEntry p0 p1 p2 p3 p4 p0 p1 p2 p3 p4 = some (true, ()) := by
  unfold laws_eqTlbEntry
  simp [seq_self]
theorem laws_eqTlbEntryS_ok (l : List (Int × Int × Int × Int × Bool)) (h : lens (.slice R1) l) : laws_eqTlbEntryS l l = some (true, ()) := by
  unfold laws_eqTlbEntryS
  have hl0 := h.1
  have q := eq_loop (fun k l l2 i => laws_eqTlbEntryS_l4 k l l2 (i : Int)) l (by omega) (by
    intro k i hi
    show laws_eqTlbEntryS_l4_step (laws_eqTlbEntryS_l4 k) l l (i : Int) = _
    unfold laws_eqTlbEntryS_l4_step
    have hl := lens_at h i hi
    have d1 : decide ((i : Int) < (l.length : Int)) = true := decp (by omega)
    have d2 : decide ((0 : Int) ≤ (i : Int)) = true := decp (by omega)
    have e := laws_eqTlbEntry_ok l[i].1 l[i].2.1 l[i].2.2.1 l[i].2.2.2.1 l[i].2.2.2.2
    simp only [d1, d2, rd_at R1 l i hi, e, Option.bind_some, wrap_i i l.length hi (by omega), Bool.and_true, cond_true, Bool.not_true, cond_false, bne_self_eq_false, seq_ne_self, beq_self_eq_true]
    try rfl) (by
    intro k
    show laws_eqTlbEntryS_l4_step (laws_eqTlbEntryS_l4 k) l l (l.length : Int) = _
    unfold laws_eqTlbEntryS_l4_step
    have d1 : decide ((l.length : Int) < (l.length : Int)) = false := decn (by omega)
    simp only [d1, cond_false]
    try rfl)
  have q' : laws_eqTlbEntryS_l4 K0 l l 0 = some (Sum.inr ()) := q
  simp only [bne_self_eq_false, cond_false, q', Option.bind_some]
theorem laws_eqTlb_ok (p0 : List (Int × Int × Int × Int × Bool)) (p1 : Int) (h0 : lens (.slice (.pair (.int .i64) (.pair (.int .i64) (.pair (.int .i64) (.pair (.int .i64) (.bool)))))) p0) : laws_eqTlb p0 p1 p0 p1 = some (true, ()) := by
  unfold laws_eqTlb
  simp [laws_eqTlbEntryS_ok, h0, seq_self]
def markR1 (m : Int) (_ : Int × Int × Int × Int × Bool) : Int × Int × Int × Int × Bool := (m, m + 1, m + 2, m + 3, (Int.tmod (m + 4) 3 == 0))
theorem laws_markTlbEntryS_v2_ok (xs : List (Int × Int × Int × Int × Bool)) (m : Int) (h : lens (.slice R1) xs) (h0 : 0 ≤ m) (h1 : m ≤ 1000000000000000) : ∃ ys, laws_markTlbEntryS_v2 xs m = some (m + 5 * (xs.length : Int), ys, ()) ∧ ys.length = xs.length ∧ ∀ i, (h : i < ys.length) → ∃ a, ys[i] = markR1 (m + 5 * (i : Int)) a := by
  have hl0 := h.1
  have hl1 : (5 : Int) * (xs.length : Int) ≤ 1000000000000 := by omega
  obtain ⟨ys, e1, e2, e3⟩ := mark_loop (fun k xs m i => laws_markTlbEntryS_v2_l2 k m (i : Int) xs) 5 markR1 (by decide) (by
    intro k xs m i hi h0 hm hl
    show laws_markTlbEntryS_v2_l2_step (laws_markTlbEntryS_v2_l2 k) m (i : Int) xs = _
    unfold laws_markTlbEntryS_v2_l2_step
    have w0 : wrap64 (m + 1) = m + 1 := by have := wrap_inc m 0 h0 hm (by decide) (by decide); simpa using this
    have w1 : wrap64 (m + 1 + 1) = m + 2 := wrap_inc m 1 h0 hm (by decide) (by decide)
    have w2 : wrap64 (m + 2 + 1) = m + 3 := wrap_inc m 2 h0 hm (by decide) (by decide)
    have w3 : wrap64 (m + 3 + 1) = m + 4 := wrap_inc m 3 h0 hm (by decide) (by decide)
    have w4 : wrap64 (m + 4 + 1) = m + 5 := wrap_inc m 4 h0 hm (by decide) (by decide)
    have d1 : decide ((i : Int) < (xs.length : Int)) = true := decp (by omega)
    have d2 : decide ((0 : Int) ≤ (i : Int)) = true := decp (by omega)
    have r0 := fun (l : List (Int × Int × Int × Int × Bool)) (hl : l.length = xs.length) (v : (Int × Int × Int × Int × Bool)) => rd_set R1 l i v (by rw [hl]; exact hi)
    simp only [d1, d2, w0, w1, w2, w3, w4, rd_at R1 xs i hi, Int.toNat_natCast, List.length_set, Option.bind_some, wrap_i i xs.length hi hl, Bool.and_true, cond_true, r0, List.set_set, show ((3 : Int) == 0) = false from rfl, Bool.not_false]
    try rfl) (by
    intro k xs m
    show laws_markTlbEntryS_v2_l2_step (laws_markTlbEntryS_v2_l2 k) m (xs.length : Int) xs = _
    unfold laws_markTlbEntryS_v2_l2_step
    have d1 : decide ((xs.length : Int) < (xs.length : Int)) = false := decn (by omega)
    simp only [d1, cond_false]
    try rfl) xs m (by omega) h0 (by omega)
  have e1' : laws_markTlbEntryS_v2_l2 K0 m 0 xs = some (m + 5 * (xs.length : Int), ys, ()) := e1
  refine ⟨ys, ?_, e2, e3⟩
  unfold laws_markTlbEntryS_v2
  rw [e1']
  rfl
theorem laws_heldTlbEntryS_ok (xs : List (Int × Int × Int × Int × Bool)) (m : Int) (hl0 : xs.length ≤ 1048576) (h0 : 0 ≤ m) (h1 : m ≤ 1000000000000000) (hE : ∀ i, (h : i < xs.length) → ∃ a, xs[i] = markR1 (m + 5 * (i : Int)) a) : laws_heldTlbEntryS xs m = some (m + 5 * (xs.length : Int), ()) := by
  have hl1 : (5 : Int) * (xs.length : Int) ≤ 1000000000000 := by omega
  have e1 := held_loop (fun k xs m i => laws_heldTlbEntryS_l2 k xs m (i : Int)) 5 markR1 (by decide) (by
    intro k xs m i hi a h0 hm hl hx
    show laws_heldTlbEntryS_l2_step (laws_heldTlbEntryS_l2 k) xs m (i : Int) = _
    unfold laws_heldTlbEntryS_l2_step
    have w0 : wrap64 (m + 1) = m + 1 := by have := wrap_inc m 0 h0 hm (by decide) (by decide); simpa using this
    have w1 : wrap64 (m + 1 + 1) = m + 2 := wrap_inc m 1 h0 hm (by decide) (by decide)
    have w2 : wrap64 (m + 2 + 1) = m + 3 := wrap_inc m 2 h0 hm (by decide) (by decide)
    have w3 : wrap64 (m + 3 + 1) = m + 4 := wrap_inc m 3 h0 hm (by decide) (by decide)
    have w4 : wrap64 (m + 4 + 1) = m + 5 := wrap_inc m 4 h0 hm (by decide) (by decide)
    have d1 : decide ((i : Int) < (xs.length : Int)) = true := decp (by omega)
    have d2 : decide ((0 : Int) ≤ (i : Int)) = true := decp (by omega)
    simp only [d1, d2, w0, w1, w2, w3, w4, rd_at R1 xs i hi, hx, markR1, Option.bind_some, wrap_i i xs.length hi hl, Bool.and_true, cond_true, cond_false, bne_self_eq_false, seq_ne_self, beq_self_eq_true, Bool.not_true, show ((3 : Int) == 0) = false from rfl, Bool.not_false]
    try rfl) (by
    intro k xs m
    show laws_heldTlbEntryS_l2_step (laws_heldTlbEntryS_l2 k) xs m (xs.length : Int) = _
    unfold laws_heldTlbEntryS_l2_step
    have d1 : decide ((xs.length : Int) < (xs.length : Int)) = false := decn (by omega)
    simp only [d1, cond_false]
    try rfl) xs m (by omega) h0 (by omega) hE
  have e1' : laws_heldTlbEntryS_l2 K0 xs m 0 = some (Sum.inr (m + 5 * (xs.length : Int), ())) := e1
  unfold laws_heldTlbEntryS
  rw [e1']
  rfl
/-- The first place where p holds. -/
theorem index_loop {α : Type} (F : Nat → Nat → Option ((Int × Unit) ⊕ Unit)) (l : List α) (p : α → Bool) (hl : l.length ≤ 9223372036854775807)
    (hF : ∀ (k i : Nat) (hi : i < l.length), F (k + 1) i = bif p l[i] then some (Sum.inl ((i : Int), ())) else F k (i + 1))
    (hE : ∀ (k : Nat), F (k + 1) l.length = some (Sum.inr ())) : (l.any p = false ∧ F K0 0 = some (Sum.inr ())) ∨ ∃ i, ∃ h : i < l.length, p l[i] = true ∧ (l.take i).any p = false ∧ F K0 0 = some (Sum.inl ((i : Int), ())) := by
  have key : ∀ (d k i : Nat), i + d = l.length → d < k → (l.take i).any p = false → (l.any p = false ∧ F k i = some (Sum.inr ())) ∨ ∃ j, ∃ h : j < l.length, p l[j] = true ∧ (l.take j).any p = false ∧ F k i = some (Sum.inl ((j : Int), ())) := by
    intro d
    induction d with
    | zero =>
      intro k i hi hk ha
      obtain ⟨k, rfl⟩ : ∃ q, k = q + 1 := ⟨k - 1, by omega⟩
      have : i = l.length := by omega
      subst this
      rw [List.take_length] at ha
      exact .inl ⟨ha, hE k⟩
    | succ d ih =>
      intro k i hi hk ha
      obtain ⟨k, rfl⟩ : ∃ q, k = q + 1 := ⟨k - 1, by omega⟩
      have hlt : i < l.length := by omega
      rw [hF k i hlt]
      cases h : p l[i] with
      | true => exact .inr ⟨i, hlt, h, ha, rfl⟩
      | false =>
        rw [cond_false]
        refine ih k (i + 1) (by omega) (by omega) ?_
        rw [List.take_succ_eq_append_getElem hlt, List.any_append, ha]
        simp [h]
  exact key l.length K0 0 (by omega) (by rw [K0_eq]; omega) (by simp)
/-- What stays is moved to the front. -/
theorem delete_loop {α : Type} (G : Nat → Int → Nat → List α → Option (Int × List α × Unit)) (l : List α) (p : α → Bool) (hl : l.length ≤ 4611686018427387904)
    (hG : ∀ (k i j : Nat) (ys : List α) (hi : i ≤ j) (hj : j < ys.length), ys.length = l.length → G (k + 1) (i : Int) j ys = bif p ys[j] then G k (i : Int) (j + 1) ys else G k ((i + 1 : Nat) : Int) (j + 1) (ys.set i ys[j]))
    (hE : ∀ (k : Nat) (i : Int) (ys : List α), ys.length = l.length → G (k + 1) i l.length ys = some (i, ys, ())) :
    ∀ (d k i j : Nat) (ys : List α), j + d = l.length → d < k → i ≤ j → ys.length = l.length → ys.take i = (l.take j).filter (fun x => !p x) → ys.drop j = l.drop j →
      ∃ (i' : Nat) (ys' : List α), G k (i : Int) j ys = some ((i' : Int), ys', ()) ∧ i' ≤ l.length ∧ ys'.length = l.length ∧ ys'.take i' = l.filter (fun x => !p x) := by
  intro d
  induction d with
  | zero =>
    intro k i j ys hj hk hij hy ht hd
    obtain ⟨k, rfl⟩ : ∃ q, k = q + 1 := ⟨k - 1, by omega⟩
    have : j = l.length := by omega
    subst this
    rw [List.take_length] at ht
    exact ⟨i, ys, hE k _ ys hy, hij, hy, ht⟩
  | succ d ih =>
    intro k i j ys hj hk hij hy ht hd
    obtain ⟨k, rfl⟩ : ∃ q, k = q + 1 := ⟨k - 1, by omega⟩
    have hlt : j < l.length := by omega
    have hlt' : j < ys.length := by omega
    rw [hG k i j ys hij hlt' hy]
    rw [List.drop_eq_getElem_cons hlt', List.drop_eq_getElem_cons hlt] at hd
    obtain ⟨e1, e2⟩ := List.cons.inj hd
    rw [e1]
    have ht1 : (l.take (j + 1)).filter (fun x => !p x) = (l.take j).filter (fun x => !p x) ++ [l[j]].filter (fun x => !p x) := by
      rw [List.take_succ_eq_append_getElem hlt, List.filter_append]
    cases h : p l[j] with
    | true =>
      rw [cond_true]
      exact ih k i (j + 1) ys (by omega) (by omega) (by omega) hy (by rw [ht, ht1]; simp [h]) e2
    | false =>
      rw [cond_false]
      refine ih k (i + 1) (j + 1) (ys.set i l[j]) (by omega) (by omega) (by omega) (by simpa using hy) ?_ ?_
      · rw [ht1, ← ht, List.take_succ_eq_append_getElem (by simp; omega)]
        simp [h, List.take_set_of_le]
      · rw [List.drop_set_of_lt (by omega)]; exact e2
abbrev Ent := Int × Int × Int × Int × Bool
theorem entry_same (a0 a1 a2 a3 : Int) (a4 : Bool) : ∃ b : Bool, spec_l03TlbEntry a0 a1 a2 a3 a4 = some (b, ()) ∧ impl_ytlbEntryOk a0 a1 a2 a3 a4 = some (b, ()) := by
  unfold spec_l03TlbEntry impl_ytlbEntryOk
  simp only [yin_eq, Option.bind_some, Option.getD_some, Option.isSome_some, show ((32 : Int) == 0) = false from rfl, Bool.not_false, Bool.or_true, Bool.and_true, cond_true]
  have h0 : (decide (a0 < 0) || decide (a0 > 255)) = !decide (0 ≤ a0 ∧ a0 ≤ 255) := by rw [Bool.eq_iff_iff]; simp
  have h1 : (decide (a1 < 0) || decide (a1 > 1023)) = !decide (0 ≤ a1 ∧ a1 ≤ 1023) := by rw [Bool.eq_iff_iff]; simp
  have h2 : (decide (a2 < 0) || decide (a2 > 1023)) = !decide (0 ≤ a2 ∧ a2 ≤ 1023) := by rw [Bool.eq_iff_iff]; simp
  have h3 : (decide (a3 < 0) || decide (a3 > 255)) = !decide (0 ≤ a3 ∧ a3 ≤ 255) := by rw [Bool.eq_iff_iff]; simp
  have e : ((((((decide (a0 < 0) || decide (a0 > 255)) || decide (a1 < 0)) || decide (a1 > 1023)) || decide (a2 < 0)) || decide (a2 > 1023)) || decide (a3 < 0) || decide (a3 > 255)) = !(((decide (0 ≤ a0 ∧ a0 ≤ 255) && decide (0 ≤ a1 ∧ a1 ≤ 1023)) && decide (0 ≤ a2 ∧ a2 ≤ 1023)) && decide (0 ≤ a3 ∧ a3 ≤ 255)) := by
    rw [Bool.or_assoc _ (decide (a3 < 0)), h3, Bool.or_assoc _ (decide (a2 < 0)), h2, Bool.or_assoc _ (decide (a1 < 0)), h1, h0]
    generalize decide (0 ≤ a0 ∧ a0 ≤ 255) = x0
    generalize decide (0 ≤ a1 ∧ a1 ≤ 1023) = x1
    generalize decide (0 ≤ a2 ∧ a2 ≤ 1023) = x2
    generalize decide (0 ≤ a3 ∧ a3 ≤ 255) = x3
    cases x0 <;> cases x1 <;> cases x2 <;> cases x3 <;> rfl
  rw [e]
  generalize (((decide (0 ≤ a0 ∧ a0 ≤ 255) && decide (0 ≤ a1 ∧ a1 ≤ 1023)) && decide (0 ≤ a2 ∧ a2 ≤ 1023)) && decide (0 ≤ a3 ∧ a3 ≤ 255)) = X
  generalize ((Int.tmod a1 32 == 0) && (Int.tmod a2 32 == 0)) = Y
  cases X <;> exact ⟨_, rfl, rfl⟩
def sameB (a b : Ent) : Bool := ((a.1 == b.1) && (a.2.1 == b.2.1)) && (a.2.2.2.2 == b.2.2.2.2)
theorem impl_contains (l : List Ent) (e : Ent) (hl : l.length ≤ 1048576) : slices_ContainsFunc_TlbEntry l e.1 e.2.1 e.2.2.1 e.2.2.2.1 e.2.2.2.2 = some (l.any (fun x => sameB x e), ()) := by
  unfold slices_ContainsFunc_TlbEntry slices_IndexFunc_TlbEntry
  have h := index_loop (fun k i => slices_IndexFunc_TlbEntry_l2 k l e.1 e.2.1 e.2.2.1 e.2.2.2.1 e.2.2.2.2 (l.length : Int) (i : Int)) l (fun x => sameB x e) (by omega) (by
    intro k i hi
    show slices_IndexFunc_TlbEntry_l2_step (slices_IndexFunc_TlbEntry_l2 k) l e.1 e.2.1 e.2.2.1 e.2.2.2.1 e.2.2.2.2 (l.length : Int) (i : Int) = _
    unfold slices_IndexFunc_TlbEntry_l2_step impl_TlbFault_1 impl_ysameTlb
    simp only [decp (show (i : Int) < (l.length : Int) by omega), decp (show (0 : Int) ≤ (i : Int) by omega), rd_at R1 l i hi, Option.bind_some, Bool.and_true, cond_true, wrap_i i l.length hi (by omega)]
    rfl) (by
    intro k
    show slices_IndexFunc_TlbEntry_l2_step (slices_IndexFunc_TlbEntry_l2 k) l e.1 e.2.1 e.2.2.1 e.2.2.2.1 e.2.2.2.2 (l.length : Int) (l.length : Int) = _
    unfold slices_IndexFunc_TlbEntry_l2_step
    rw [decn (show ¬ (l.length : Int) < (l.length : Int) by omega)]
    rfl)
  rcases h with ⟨h1, h2⟩ | ⟨i, hi, h1, _, h2⟩
  · have h2' : slices_IndexFunc_TlbEntry_l2 K0 l e.1 e.2.1 e.2.2.1 e.2.2.2.1 e.2.2.2.2 (l.length : Int) 0 = _ := h2
    rw [h2', h1]; rfl
  · have h2' : slices_IndexFunc_TlbEntry_l2 K0 l e.1 e.2.1 e.2.2.1 e.2.2.2.1 e.2.2.2.2 (l.length : Int) 0 = _ := h2
    have ha : l.any (fun x => sameB x e) = true := List.any_eq_true.2 ⟨l[i], List.getElem_mem hi, h1⟩
    rw [h2', ha]
    simp only [Option.bind_some]
    rw [decp (show (i : Int) ≥ 0 by omega)]
theorem spec_inner (l : List Ent) (nx : Int) (e : Ent) (n : Nat) (hn : n ≤ l.length) (hl : l.length ≤ 1048576) : spec_TlbFault_l10 K0 (n : Int) 0 l nx e.1 e.2.1 e.2.2.1 e.2.2.2.1 e.2.2.2.2 = if (l.take n).any (fun x => sameB x e) = true then some (Sum.inl (1, ())) else some (Sum.inr ((n : Int), l, nx, ())) := by
  have key : ∀ (d k i : Nat), i + d = n → d < k → (l.take i).any (fun x => sameB x e) = false → spec_TlbFault_l10 k (n : Int) (i : Int) l nx e.1 e.2.1 e.2.2.1 e.2.2.2.1 e.2.2.2.2 = if (l.take n).any (fun x => sameB x e) = true then some (Sum.inl (1, ())) else some (Sum.inr ((n : Int), l, nx, ())) := by
    intro d
    induction d with
    | zero =>
      intro k i hi hk ha
      obtain ⟨k, rfl⟩ : ∃ q, k = q + 1 := ⟨k - 1, by omega⟩
      have : i = n := by omega
      subst this
      show spec_TlbFault_l10_step (spec_TlbFault_l10 k) (i : Int) (i : Int) l nx e.1 e.2.1 e.2.2.1 e.2.2.2.1 e.2.2.2.2 = _
      unfold spec_TlbFault_l10_step
      rw [decn (show ¬ (i : Int) < (i : Int) by omega), ha]
      rfl
    | succ d ih =>
      intro k i hi hk ha
      obtain ⟨k, rfl⟩ : ∃ q, k = q + 1 := ⟨k - 1, by omega⟩
      have hlt : i < l.length := by omega
      show spec_TlbFault_l10_step (spec_TlbFault_l10 k) (n : Int) (i : Int) l nx e.1 e.2.1 e.2.2.1 e.2.2.2.1 e.2.2.2.2 = _
      unfold spec_TlbFault_l10_step
      simp only [decp (show (i : Int) < (n : Int) by omega), decp (show (i : Int) < (l.length : Int) by omega), decp (show (0 : Int) ≤ (i : Int) by omega), rd_at R1 l i hlt, Bool.and_true, Bool.or_true, cond_true, wrap_i i l.length hlt (by omega)]
      rw [show (((l[i].1 == e.1) && (l[i].2.1 == e.2.1)) && (l[i].2.2.2.2 == e.2.2.2.2)) = sameB l[i] e from rfl]
      cases h : sameB l[i] e with
      | true =>
        have : (l.take n).any (fun x => sameB x e) = true := List.any_eq_true.2 ⟨l[i], by
          rw [List.mem_take_iff_getElem]; exact ⟨i, by omega, rfl⟩, h⟩
        rw [this]; rfl
      | false =>
        rw [cond_false]
        refine ih k (i + 1) (by omega) (by omega) ?_
        rw [List.take_succ_eq_append_getElem hlt, List.any_append, ha]
        simp [h]
  exact key n K0 0 (by omega) (by rw [K0_eq]; omega) (by simp)
theorem fault_loop (l : List Ent) (nx : Int) (hl : l.length ≤ 16) : ∀ (d k1 k2 i : Nat), i + d = l.length → d < k1 → d < k2 → ∃ R, (R = Sum.inl (1, ()) ∨ R = Sum.inr ()) ∧ spec_TlbFault_l4 k1 (i : Int) l nx = some R ∧ impl_TlbFault_l4 k2 l (l.length : Int) (i : Int) l nx = some R := by
  intro d
  induction d with
  | zero =>
    intro k1 k2 i hi h1 h2
    obtain ⟨k1, rfl⟩ : ∃ q, k1 = q + 1 := ⟨k1 - 1, by omega⟩
    obtain ⟨k2, rfl⟩ : ∃ q, k2 = q + 1 := ⟨k2 - 1, by omega⟩
    have : i = l.length := by omega
    subst this
    refine ⟨Sum.inr (), .inr rfl, ?_, ?_⟩
    · show spec_TlbFault_l4_step (spec_TlbFault_l4 k1) (l.length : Int) l nx = _
      unfold spec_TlbFault_l4_step
      rw [decn (show ¬ (l.length : Int) < (l.length : Int) by omega)]; rfl
    · show impl_TlbFault_l4_step (impl_TlbFault_l4 k2) l (l.length : Int) (l.length : Int) l nx = _
      unfold impl_TlbFault_l4_step
      rw [decn (show ¬ (l.length : Int) < (l.length : Int) by omega)]; rfl
  | succ d ih =>
    intro k1 k2 i hi h1 h2
    obtain ⟨k1, rfl⟩ : ∃ q, k1 = q + 1 := ⟨k1 - 1, by omega⟩
    obtain ⟨k2, rfl⟩ : ∃ q, k2 = q + 1 := ⟨k2 - 1, by omega⟩
    have hlt : i < l.length := by omega
    show ∃ R, _ ∧ spec_TlbFault_l4_step (spec_TlbFault_l4 k1) (i : Int) l nx = some R ∧ impl_TlbFault_l4_step (impl_TlbFault_l4 k2) l (l.length : Int) (i : Int) l nx = some R
    unfold spec_TlbFault_l4_step impl_TlbFault_l4_step
    obtain ⟨b, b1, b2⟩ := entry_same l[i].1 l[i].2.1 l[i].2.2.1 l[i].2.2.2.1 l[i].2.2.2.2
    have c := impl_contains (l.take i) l[i] (by rw [List.length_take]; omega)
    have s := spec_inner l nx l[i] i (by omega) (by omega)
    have w := wrap_i i l.length hlt (by omega)
    obtain ⟨R, hR, r1, r2⟩ := ih k1 k2 (i + 1) (by omega) (by omega) (by omega)
    simp only [decp (show (i : Int) < (l.length : Int) by omega), decp (show (0 : Int) ≤ (i : Int) by omega), decp (show (i : Int) ≤ (l.length : Int) by omega), rd_at R1 l i hlt, b1, b2, c, s, w, Option.bind_some, Option.getD_some, Option.isSome_some, Int.toNat_natCast, Bool.and_true, Bool.or_true, cond_true]
    cases b with
    | false => exact ⟨_, .inl rfl, rfl, rfl⟩
    | true =>
      cases (l.take i).any (fun x => sameB x l[i]) with
      | true => exact ⟨_, .inl rfl, rfl, rfl⟩
      | false =>
        refine ⟨R, hR, ?_, ?_⟩
        · simp only [Bool.not_true, cond_false, Bool.false_eq_true, if_false, Option.bind_some, w]
          exact r1
        · simp only [Bool.not_true, cond_false, Bool.or_false]
          exact r2
theorem fault_same (l : List Ent) (nx : Int) : ∃ c : Int, (c = 0 → l.length ≤ 16) ∧ spec_TlbFault l nx = some (c, ()) ∧ impl_TlbFault l nx = some (c, ()) := by
  unfold spec_TlbFault impl_TlbFault
  simp only [yin_eq, Option.getD_some, Option.isSome_some, Bool.or_true, cond_true]
  by_cases h1 : (l.length : Int) > 16
  · rw [decp h1]; exact ⟨1, fun h => absurd h (by decide), rfl, rfl⟩
  rw [decn h1]
  by_cases h2 : 0 ≤ nx ∧ nx ≤ 15
  · rw [decp h2, decn (show ¬ nx < 0 by omega), decn (show ¬ nx ≥ 16 by omega)]
    obtain ⟨R, hR, r1, r2⟩ := fault_loop l nx (by omega) l.length K0 K0 0 (by omega) (by rw [K0_eq]; omega) (by rw [K0_eq]; omega)
    have r1' : spec_TlbFault_l4 K0 0 l nx = some R := r1
    have r2' : impl_TlbFault_l4 K0 l (l.length : Int) 0 l nx = some R := r2
    rw [r1', r2']
    rcases hR with rfl | rfl
    · exact ⟨1, fun h => absurd h (by decide), rfl, rfl⟩
    · exact ⟨0, fun _ => (by omega), rfl, rfl⟩
  · rw [decn h2]
    refine ⟨1, fun h => absurd h (by decide), ?_, rfl⟩
    by_cases h3 : nx < 0
    · rw [decp h3]; rfl
    · rw [decn h3, decp (show nx ≥ 16 by omega)]; rfl
def holdsB (e : Ent) (va : Int) : Bool := bif e.2.2.2.2 then (shr .i64 e.2.1 5 == shr .i64 va 13) else (e.2.1 == shr .i64 va 8)
theorem spec_holds (e : Ent) (va : Int) : spec_l03Holds e.1 e.2.1 e.2.2.1 e.2.2.2.1 e.2.2.2.2 va = some (holdsB e va, ()) := by
  unfold spec_l03Holds holdsB
  cases e.2.2.2.2 <;> rfl
theorem impl_holds (e : Ent) (va : Int) : impl_TlbEntry_yholds e.1 e.2.1 e.2.2.1 e.2.2.2.1 e.2.2.2.2 va = some (holdsB e va, ()) := by
  unfold impl_TlbEntry_yholds holdsB
  cases e.2.2.2.2 <;> rfl
def goneB (asid va : Int) (e : Ent) : Bool := (decide (asid < 0) || ((e.1 == asid) && (bits .and .i64 e.2.2.2.1 128 == 0))) && (decide (va < 0) || holdsB e va)
theorem impl_gone (e : Ent) (asid va : Int) : impl_TlbFlush_1 e.1 e.2.1 e.2.2.1 e.2.2.2.1 e.2.2.2.2 asid va = some (goneB asid va e, ()) := by
  unfold impl_TlbFlush_1 goneB
  simp only [impl_holds, Option.getD_some, Option.isSome_some, Bool.or_true, cond_true]
theorem spec_flush_loop (l : List Ent) (nx asid va : Int) (hl : l.length ≤ 16) (z z' : Int) : ∀ (d k i : Nat) (out : List Ent), i + d = l.length → d < k → out.length ≤ i → spec_TlbFlush_l5 k asid va (i : Int) l nx z out z' = some (z, out ++ (l.drop i).filter (fun x => !goneB asid va x), z', ()) := by
  intro d
  induction d with
  | zero =>
    intro k i out hi hk ho
    obtain ⟨k, rfl⟩ : ∃ q, k = q + 1 := ⟨k - 1, by omega⟩
    have : i = l.length := by omega
    subst this
    show spec_TlbFlush_l5_step (spec_TlbFlush_l5 k) asid va (l.length : Int) l nx z out z' = _
    unfold spec_TlbFlush_l5_step
    rw [decn (show ¬ (l.length : Int) < (l.length : Int) by omega), List.drop_length]
    simp
  | succ d ih =>
    intro k i out hi hk ho
    obtain ⟨k, rfl⟩ : ∃ q, k = q + 1 := ⟨k - 1, by omega⟩
    have hlt : i < l.length := by omega
    show spec_TlbFlush_l5_step (spec_TlbFlush_l5 k) asid va (i : Int) l nx z out z' = _
    unfold spec_TlbFlush_l5_step
    have rm : roomy ((out.length : Int) + ([l[i]].length : Int)) 40 = true := roomy_ok (by simp; omega)
    simp only [decp (show (i : Int) < (l.length : Int) by omega), decp (show (0 : Int) ≤ (i : Int) by omega), rd_at R1 l i hlt, spec_holds, rm, Option.getD_some, Option.isSome_some, Bool.and_true, Bool.or_true, cond_true, wrap_i i l.length hlt (by omega)]
    rw [show ((decide (asid < 0) || ((l[i].1 == asid) && (bits .and .i64 l[i].2.2.2.1 128 == 0))) && (decide (va < 0) || holdsB l[i] va)) = goneB asid va l[i] from rfl, List.drop_eq_getElem_cons hlt, List.filter_cons]
    cases h : goneB asid va l[i] with
    | true =>
      rw [cond_true, ih k (i + 1) out (by omega) (by omega) (by omega)]
      rfl
    | false =>
      rw [cond_false, ih k (i + 1) (out ++ [l[i]]) (by omega) (by omega) (by simp; omega)]
      simp
theorem impl_delete (l : List Ent) (asid va : Int) (hl : l.length ≤ 16) : slices_DeleteFunc_TlbEntry_v4 l asid va = some (l.filter (fun x => !goneB asid va x), ()) := by
  unfold slices_DeleteFunc_TlbEntry_v4 slices_IndexFunc_TlbEntry_v2
  have h := index_loop (fun k i => slices_IndexFunc_TlbEntry_v2_l2 k l asid va (l.length : Int) (i : Int)) l (goneB asid va) (by omega) (by
    intro k i hi
    show slices_IndexFunc_TlbEntry_v2_l2_step (slices_IndexFunc_TlbEntry_v2_l2 k) l asid va (l.length : Int) (i : Int) = _
    unfold slices_IndexFunc_TlbEntry_v2_l2_step
    simp only [decp (show (i : Int) < (l.length : Int) by omega), decp (show (0 : Int) ≤ (i : Int) by omega), rd_at R1 l i hi, impl_gone, Option.bind_some, Bool.and_true, cond_true, wrap_i i l.length hi (by omega)]
    try rfl) (by
    intro k
    show slices_IndexFunc_TlbEntry_v2_l2_step (slices_IndexFunc_TlbEntry_v2_l2 k) l asid va (l.length : Int) (l.length : Int) = _
    unfold slices_IndexFunc_TlbEntry_v2_l2_step
    rw [decn (show ¬ (l.length : Int) < (l.length : Int) by omega)]
    rfl)
  rcases h with ⟨h1, h2⟩ | ⟨i, hi, h1, h3, h2⟩
  · have h2' : slices_IndexFunc_TlbEntry_v2_l2 K0 l asid va (l.length : Int) 0 = _ := h2
    rw [h2']
    simp only [Option.bind_some]
    have hf : l.filter (fun x => !goneB asid va x) = l := List.filter_eq_self.2 fun x hx => by
      have := List.any_eq_false.1 h1 x hx
      simpa using this
    rw [hf]
    rfl
  · have h2' : slices_IndexFunc_TlbEntry_v2_l2 K0 l asid va (l.length : Int) 0 = _ := h2
    rw [h2']
    simp only [Option.bind_some]
    rw [show ((i : Int) == -1) = false from beq_false_of_ne (by omega), cond_false, wrap_i i l.length hi (by omega)]
    have hft : (l.take (i + 1)).filter (fun x => !goneB asid va x) = l.take i := by
      rw [List.take_succ_eq_append_getElem hi, List.filter_append, List.filter_eq_self.2 fun x hx => by
        have := List.any_eq_false.1 h3 x hx
        simpa using this]
      simp [h1]
    obtain ⟨i', ys', g1, g2, g3, g4⟩ := delete_loop (fun k i j ys => slices_DeleteFunc_TlbEntry_v4_l5 k asid va i (j : Int) ys) l (goneB asid va) (by omega) (by
      intro k i j ys hij hj hy
      show slices_DeleteFunc_TlbEntry_v4_l5_step (slices_DeleteFunc_TlbEntry_v4_l5 k) asid va (i : Int) (j : Int) ys = _
      unfold slices_DeleteFunc_TlbEntry_v4_l5_step
      simp only [decp (show (j : Int) < (ys.length : Int) by omega), decp (show (0 : Int) ≤ (j : Int) by omega), decp (show (0 : Int) ≤ (i : Int) by omega), decp (show (i : Int) < (ys.length : Int) by omega), rd_at R1 ys j hj, impl_gone, Option.bind_some, Bool.and_true, Bool.or_true, cond_true, Bool.cond_self, wrap_i j ys.length hj (by omega), wrap_i i ys.length (by omega) (by omega), Int.toNat_natCast]
      cases goneB asid va ys[j] <;> rfl) (by
      intro k i ys hy
      show slices_DeleteFunc_TlbEntry_v4_l5_step (slices_DeleteFunc_TlbEntry_v4_l5 k) asid va i (l.length : Int) ys = _
      unfold slices_DeleteFunc_TlbEntry_v4_l5_step
      rw [hy, decn (show ¬ (l.length : Int) < (l.length : Int) by omega)]
      rfl) (l.length - (i + 1)) K0 i (i + 1) l (by omega) (by rw [K0_eq]; omega) (by omega) rfl hft.symm rfl
    have g1' : slices_DeleteFunc_TlbEntry_v4_l5 K0 asid va (i : Int) ((i + 1 : Nat) : Int) l = _ := g1
    rw [g1']
    simp only [Option.bind_some, Int.toNat_natCast]
    have hp : (i' : Int) ≤ ((ys'.take i' ++ List.replicate ((ys'.length : Int) - (i' : Int)).toNat (Ty.dflt R1) ++ ys'.drop (i' + ((ys'.length : Int) - (i' : Int)).toNat)).length : Int) := by
      simp; omega
    have hq : (i' : Int) ≤ (ys'.length : Int) := by omega
    have h0 : (0 : Int) ≤ (i' : Int) := by omega
    simp only [hp, hq, h0, decide_true, Bool.and_true, cond_true]
    rw [List.append_assoc, List.take_append_of_le_length (by simp; omega), List.take_take, Nat.min_self, g4]
abbrev TlbR := List Ent × Int × Unit
theorem flush_same (l : List Ent) (nx asid va : Int) : ∃ R : TlbR, R.1.length ≤ 16 ∧ spec_TlbFlush l nx asid va = some R ∧ impl_TlbFlush l nx asid va = some R := by
  unfold spec_TlbFlush impl_TlbFlush
  obtain ⟨c, hc, c1, c2⟩ := fault_same l nx
  rw [c1, c2]
  simp only [Option.bind_some]
  by_cases h : c = 0
  · subst h
    have hl := hc rfl
    have hs := spec_flush_loop l nx asid va hl 0 0 l.length K0 0 [] (by omega) (by rw [K0_eq]; omega) (by simp)
    have hs' : spec_TlbFlush_l5 K0 asid va 0 l nx 0 [] 0 = _ := hs
    have hcl : slices_Clone_TlbEntry l = some (l, ()) := by
      unfold slices_Clone_TlbEntry both
      rw [roomy_ok (by omega)]
      cases l with
      | nil => simp
      | cons x l => simp
    rw [hs', hcl]
    simp only [Option.bind_some, impl_delete l asid va hl]
    refine ⟨(l.filter (fun x => !goneB asid va x), 0, ()), ?_, by simp, by simp⟩
    exact Nat.le_trans (List.length_filter_le _ _) hl
  · rw [show (c != 0) = true from bne_iff_ne.2 h]
    exact ⟨([], 0, ()), by simp, rfl, rfl⟩
theorem FnExactTlbFlush : laws_FnExactTlbFlush.Pure := by
  intro x0 asid va g0 _ _
  unfold laws_FnExactTlbFlush
  obtain ⟨n1, e1, l1, m1, s1⟩ := laws_szTlb_ok x0.1 x0.2 1048576 (by decide) (by decide) g0.1
  rw [e1]
  simp only [Option.bind_some]
  by_cases c1 : n1 < 0
  · rw [decp c1]; rfl
  rw [decn c1]
  simp only [cond_false]
  have t1 := lens_of (s1 (by omega)).1
  obtain ⟨R, hR, r1, r2⟩ := flush_same x0.1 x0.2 asid va
  have a1 := laws_toTlb_ok x0.1 x0.2 t1
  have lR : lens (.slice R1) R.1 := lens_row rfl (by omega)
  have q1 := laws_eqTlb_ok R.1 R.2.1 lR
  have q2 := laws_eqTlb_ok x0.1 x0.2 t1
  obtain ⟨ys, b1, b2, b3⟩ := laws_markTlbEntryS_v2_ok x0.1 1 t1 (by decide) (by decide)
  obtain ⟨zs, d1, d2, d3⟩ := laws_markTlbEntryS_v2_ok R.1 1 lR (by decide) (by decide)
  have f := laws_heldTlbEntryS_ok zs 1 (by omega) (by decide) (by decide) d3
  rw [d2] at f
  have u1 : decide (1 + 5 * ((x0.1 : List Ent).length : Int) < 0) = false := decn (by omega)
  have u2 : decide (1 + 5 * (R.1.length : Int) < 0) = false := decn (by omega)
  simp only [a1, r1, r2, q1, q2, b1, laws_markTlb_v2, d1, laws_heldTlb, f, Option.bind_some, Option.getD_some, Option.isSome_some, u1, u2, Bool.not_true, Bool.not_false, Bool.or_true, Bool.or_false, Bool.true_or, Bool.false_or, cond_true, cond_false, bne_self_eq_false]
end Go.Ab.FnExactTlbFlush.Pure

/- The plain statement of the law FnClockParts. -/
import Derived.Test.YtcdgonemmbhkkaaAbStFnClockParts
import Derived.Laws.BitsLemmas
namespace Go.Ab.FnClockParts.Pure
open Go.RowKit Go.Ab
set_option linter.unusedVariables false
set_option linter.unusedSimpArgs false
theorem wrap_id {x : Int} (h0 : -9223372036854775808 ≤ x) (h1 : x ≤ 9223372036854775807) : wrap64 x = x := by rw [w64_eq]; unfold RowKit.wrap64; omega
theorem K0_ge {n : Nat} (h : n ≤ 18446744073709551616) : ∃ k, K0 = k + n := ⟨K0 - n, by rw [K0_eq]; omega⟩
theorem roomy_ok {n b : Int} (h : n * b ≤ 140737488355328) : roomy n b = true := by unfold roomy; rw [M0_eq]; simpa using h
theorem rd_nat (t : Ty) (l : List t.val) (i : Nat) : rd t l (i : Int) = l.getD i t.dflt := by unfold rd; rw [Int.toNat_natCast]
theorem rd_at (t : Ty) (l : List t.val) (i : Nat) (h : i < List.length l) : rd t l (i : Int) = l[i]'h := by rw [rd_nat]; simp [h]
theorem decp {p : Prop} [Decidable p] (h : p) : decide p = true := decide_eq_true h
theorem decn {p : Prop} [Decidable p] (h : ¬ p) : decide p = false := decide_eq_false h
theorem bt_range (m : ByteArray) (a : Int) : 0 ≤ bt m a ∧ bt m a ≤ 255 := by
  unfold bt
  have := (m.data.getD a.toNat 0).toNat_lt
  omega
theorem shl_eq {x s : Int} (n : Nat) (hs : s = (n : Int)) (h : n ≤ 64) (h0 : 0 ≤ x * 2 ^ n) (h1 : x * 2 ^ n ≤ 9223372036854775807) : shl .i64 x s = x * 2 ^ n := by
  subst hs
  unfold shl
  rw [Int.toNat_natCast, show min n IntKind.i64.bits = n from Nat.min_eq_left h, IntKind.wrap_i64]
  omega
theorem wrap_succ (i n : Nat) (h : i < n) (hn : n ≤ 140737488351232) : wrap64 ((i : Int) + 1) = ((i + 1 : Nat) : Int) := by
  rw [w64_eq]; unfold RowKit.wrap64; omega
theorem yin_eq (a b c : Int) : impl_yin a b c = some (decide (b ≤ a ∧ a ≤ c), ()) := by
  unfold impl_yin
  dsimp only
  congr 2
  rw [Bool.eq_iff_iff]
  simp
theorem u64_range (x : Int) : 0 ≤ IntKind.u64.wrap x ∧ IntKind.u64.wrap x < 18446744073709551616 := by
  have e : IntKind.u64.wrap x = x % 18446744073709551616 := rfl
  rw [e]
  omega
theorem u64_id {x : Int} (h0 : 0 ≤ x) (h1 : x < 18446744073709551616) : IntKind.u64.wrap x = x := by
  have e : IntKind.u64.wrap x = x % 18446744073709551616 := rfl
  rw [e]
  omega
/-- A number below k out of a source. -/
theorem src_n (c : List Int) (at_ st size k : Int) (ha : 0 ≤ at_) (hk : k ≤ 4611686018427387904) (hc : c.length ≤ 1048576) : ∃ r at' st', spec_l01Src_n_v2 c at_ st size k = some (r, c, at', st', size, ()) ∧ 0 ≤ r ∧ (1 < k → r < k) ∧ (k ≤ 1 → r = 0) ∧ 0 ≤ at' := by
  unfold spec_l01Src_n_v2
  by_cases h : k ≤ 1
  · rw [decp h]
    exact ⟨0, at_, st, rfl, by omega, by omega, fun _ => rfl, ha⟩
  rw [decn h]
  simp only [cond_false, Bool.cond_self, decp (show (0 : Int) ≤ 13 by decide), decp (show (0 : Int) ≤ 7 by decide), decp (show (0 : Int) ≤ 17 by decide), decp (show (0 : Int) ≤ 20 by decide), cond_true, Bool.true_and]
  have hu : IntKind.u64.wrap k = k := u64_id (by omega) (by omega)
  rw [hu, show (k == 0) = false from beq_false_of_ne (by omega)]
  generalize hx : IntKind.u64.wrap ((bif decide (at_ < (c.length : Int)) then IntKind.u64.wrap (rd (.int .u8) c at_) else 0) + shr .u64 (bits .xor .u64 (bits .xor .u64 (bits .xor .u64 st (shl .u64 st 13)) (shr .u64 (bits .xor .u64 st (shl .u64 st 13)) 7)) (shl .u64 (bits .xor .u64 (bits .xor .u64 st (shl .u64 st 13)) (shr .u64 (bits .xor .u64 st (shl .u64 st 13)) 7)) 17)) 20) = X
  have hX : 0 ≤ X := by rw [← hx]; exact (u64_range _).1
  have h1 : 0 ≤ Int.tmod X k := by rw [Int.tmod_eq_emod_of_nonneg hX]; exact Int.emod_nonneg _ (by omega)
  have h2 : Int.tmod X k < k := by rw [Int.tmod_eq_emod_of_nonneg hX]; exact Int.emod_lt_of_pos _ (by omega)
  have hw : wrap64 (Int.tmod X k) = Int.tmod X k := wrap_id (by omega) (by omega)
  rw [hw]
  clear hx hw
  by_cases hb : at_ < (c.length : Int)
  · rw [decp hb, decp ha]
    refine ⟨_, _, _, rfl, h1, fun _ => h2, fun h' => absurd h' h, ?_⟩
    show 0 ≤ wrap64 (at_ + 1)
    rw [wrap_id (by omega) (by omega)]
    omega
  · rw [decn hb]
    exact ⟨_, _, _, rfl, h1, fun _ => h2, fun h' => absurd h' h, ha⟩
theorem src_one (c : List Int) (at_ st size k : Int) (ha : 0 ≤ at_) (hk : k ≤ 4611686018427387904) (hc : c.length ≤ 1048576) : ∃ b at' st', spec_l01Src_one_v2 c at_ st size k = some (b, c, at', st', size, ()) ∧ 0 ≤ at' := by
  unfold spec_l01Src_one_v2
  obtain ⟨r, at', st', e, _, _, _, h⟩ := src_n c at_ st size k ha hk hc
  rw [e]
  exact ⟨_, _, _, rfl, h⟩
theorem wrap_i (i n : Nat) (h : i < n) (hn : n ≤ 9223372036854775807) : wrap64 ((i : Int) + 1) = ((i + 1 : Nat) : Int) := by
  rw [w64_eq]; unfold RowKit.wrap64; omega
theorem src_source (c : List Int) (hc : c.length ≤ 1048576) : ∃ st size, spec_l01Source_v3 c = some (c, 0, st, size, ()) ∧ 0 ≤ size ∧ size ≤ 12 := by
  have key : ∀ (d f i : Nat) (st : Int), i + d = c.length → d < f → ∃ st', spec_l01Source_v3_l3 f c (i : Int) c 0 st 0 = some (c, c, 0, st', 0, ()) := by
    intro d
    induction d with
    | zero =>
      intro f i st hi hf
      obtain ⟨f, rfl⟩ : ∃ q, f = q + 1 := ⟨f - 1, by omega⟩
      show ∃ st', spec_l01Source_v3_l3_step (spec_l01Source_v3_l3 f) c (i : Int) c 0 st 0 = _
      unfold spec_l01Source_v3_l3_step
      rw [decn (show ¬ (i : Int) < (c.length : Int) by omega)]
      exact ⟨st, rfl⟩
    | succ d ih =>
      intro f i st hi hf
      obtain ⟨f, rfl⟩ : ∃ q, f = q + 1 := ⟨f - 1, by omega⟩
      show ∃ st', spec_l01Source_v3_l3_step (spec_l01Source_v3_l3 f) c (i : Int) c 0 st 0 = _
      unfold spec_l01Source_v3_l3_step
      rw [decp (show (i : Int) < (c.length : Int) by omega), decp (show (0 : Int) ≤ (i : Int) by omega), wrap_i i c.length (by omega) (by omega)]
      by_cases h : (i : Int) < 64
      · rw [decp h]
        exact ih f (i + 1) _ (by omega) (by omega)
      · rw [decn h]
        exact ⟨st, rfl⟩
  unfold spec_l01Source_v3
  obtain ⟨st', e⟩ := key c.length K0 0 88172645463325252 (by omega) (by rw [K0_eq]; omega)
  have e' : spec_l01Source_v3_l3 K0 c 0 c 0 88172645463325252 0 = _ := e
  rw [e']
  simp only [Option.bind_some, Bool.cond_self]
  refine ⟨st', _, rfl, ?_, ?_⟩
  · cases h : decide ((c.length : Int) > 12)
    · show 0 ≤ (c.length : Int); omega
    · show (0 : Int) ≤ 12; decide
  · cases h : decide ((c.length : Int) > 12)
    · have := of_decide_eq_false h
      show (c.length : Int) ≤ 12; omega
    · show (12 : Int) ≤ 12; decide
theorem ck_timer (c : List Int) (hc : c.length ≤ 1048576) (at_ st size : Int) (ha : 0 ≤ at_) : ∃ x y z at' st', spec_l01Src_timer_v2 c at_ st size = some (x, y, z, c, at', st', size, ()) ∧ 0 ≤ at' := by
  unfold spec_l01Src_timer_v2
  obtain ⟨n1, a1, s1, e1, _, _, _, h1⟩ := src_n c at_ st size 100 ha (by decide) hc
  obtain ⟨n2, a2, s2, e2, n2a, n2b, _, h2⟩ := src_n c a1 s1 size 4 h1 (by decide) hc
  have n2c := n2b (by decide)
  obtain ⟨n3, a3, s3, e3, _, _, _, h3⟩ := src_n c a2 s2 size 3 h2 (by decide) hc
  simp only [e1, e2, e3, Option.bind_some]
  rw [decp n2a, decp (show n2 < (([0, 1, 7, 30] : List Int).length : Int) from n2c)]
  exact ⟨_, _, _, _, _, rfl, h3⟩
theorem ck_loop (c : List Int) (hc : c.length ≤ 1048576) (size z5 z6 z7 z8 z9 : Int) (z10 : Bool) (z11 z12 z13 z14 z15 : Int) (z16 : Bool) : ∀ (d f : Nat) (y0 : Int) (ts : List V1) (at_ st : Int), y0 = (d : Int) → d < f → ts.length + d ≤ 100 → 0 ≤ at_ →
    ∃ ts' at' st', spec_l01Src_clock_v2_l4 f y0 c at_ st size z5 z6 z7 z8 z9 z10 z11 z12 z13 z14 z15 z16 ts = some (c, at', st', size, z5, z6, z7, z8, z9, z10, z11, z12, z13, z14, z15, z16, ts', ()) ∧ ts'.length ≤ 100 ∧ 0 ≤ at' := by
  intro d
  induction d with
  | zero =>
    intro f y0 ts at_ st hy hf hl ha
    obtain ⟨f, rfl⟩ : ∃ q, f = q + 1 := ⟨f - 1, by omega⟩
    show ∃ ts' at' st', spec_l01Src_clock_v2_l4_step (spec_l01Src_clock_v2_l4 f) y0 c at_ st size z5 z6 z7 z8 z9 z10 z11 z12 z13 z14 z15 z16 ts = _ ∧ _
    unfold spec_l01Src_clock_v2_l4_step
    rw [decn (show ¬ y0 > 0 by omega)]
    exact ⟨ts, at_, st, rfl, by omega, ha⟩
  | succ d ih =>
    intro f y0 ts at_ st hy hf hl ha
    obtain ⟨f, rfl⟩ : ∃ q, f = q + 1 := ⟨f - 1, by omega⟩
    show ∃ ts' at' st', spec_l01Src_clock_v2_l4_step (spec_l01Src_clock_v2_l4 f) y0 c at_ st size z5 z6 z7 z8 z9 z10 z11 z12 z13 z14 z15 z16 ts = _ ∧ _
    unfold spec_l01Src_clock_v2_l4_step
    rw [decp (show y0 > 0 by omega)]
    obtain ⟨x, y, z, a1, s1, e1, h1⟩ := ck_timer c hc at_ st size ha
    simp only [e1, Option.bind_some, cond_true]
    rw [roomy_ok (by simp; omega), wrap_id (x := y0 - 1) (by omega) (by omega)]
    simp only [cond_true]
    exact ih f (y0 - 1) _ _ _ (by omega) (by omega) (by simp; omega) h1
theorem ck_loop2 (c : List Int) (hc : c.length ≤ 1048576) (size z5 z6 z7 z8 z9 : Int) (z10 : Bool) (z11 z12 z13 z14 z15 : Int) (z16 : Bool) : ∀ (d f : Nat) (y0 : Int) (ts : List V1) (at_ st : Int), y0 = (d : Int) → d < f → ts.length + d ≤ 100 → 0 ≤ at_ →
    ∃ ts' at' st', spec_l01Src_anyClock_v2_l22 f y0 c at_ st size z5 z6 z7 z8 z9 z10 z11 z12 z13 z14 z15 z16 ts = some (c, at', st', size, z5, z6, z7, z8, z9, z10, z11, z12, z13, z14, z15, z16, ts', ()) ∧ ts'.length ≤ 100 ∧ 0 ≤ at' := by
  intro d
  induction d with
  | zero =>
    intro f y0 ts at_ st hy hf hl ha
    obtain ⟨f, rfl⟩ : ∃ q, f = q + 1 := ⟨f - 1, by omega⟩
    show ∃ ts' at' st', spec_l01Src_anyClock_v2_l22_step (spec_l01Src_anyClock_v2_l22 f) y0 c at_ st size z5 z6 z7 z8 z9 z10 z11 z12 z13 z14 z15 z16 ts = _ ∧ _
    unfold spec_l01Src_anyClock_v2_l22_step
    rw [decn (show ¬ y0 > 0 by omega)]
    exact ⟨ts, at_, st, rfl, by omega, ha⟩
  | succ d ih =>
    intro f y0 ts at_ st hy hf hl ha
    obtain ⟨f, rfl⟩ : ∃ q, f = q + 1 := ⟨f - 1, by omega⟩
    show ∃ ts' at' st', spec_l01Src_anyClock_v2_l22_step (spec_l01Src_anyClock_v2_l22 f) y0 c at_ st size z5 z6 z7 z8 z9 z10 z11 z12 z13 z14 z15 z16 ts = _ ∧ _
    unfold spec_l01Src_anyClock_v2_l22_step
    rw [decp (show y0 > 0 by omega)]
    obtain ⟨x, y, z, a1, s1, e1, h1⟩ := ck_timer c hc at_ st size ha
    simp only [e1, Option.bind_some, cond_true]
    rw [roomy_ok (by simp; omega), wrap_id (x := y0 - 1) (by omega) (by omega)]
    simp only [cond_true]
    exact ih f (y0 - 1) _ _ _ (by omega) (by omega) (by simp; omega) h1
theorem ck_rd4 (n : Int) : rd (.int .i64) ([1, 1, 2, 7] : List Int) n ≤ 4611686018427387904 := by
  have key : ∀ k : Nat, ([1, 1, 2, 7] : List Int).getD k 0 ≤ 4611686018427387904 := by
    intro k
    match k with
    | 0 => decide
    | 1 => decide
    | 2 => decide
    | 3 => decide
    | k + 4 => simp
  exact key n.toNat
theorem ck_clock (c : List Int) (hc : c.length ≤ 1048576) (at_ st size : Int) (ha : 0 ≤ at_) : ∃ h g n d p f l at' st', spec_l01Src_clock_v2 c at_ st size = some (h, g, n, d, p, f, l, c, at', st', size, ()) ∧ List.length l ≤ 100 ∧ 0 ≤ at' := by
  unfold spec_l01Src_clock_v2
  obtain ⟨n1, a1, s1, e1, _, _, _, h1⟩ := src_n c at_ st size 50 ha (by decide) hc
  obtain ⟨n2, a2, s2, e2, _, _, _, h2⟩ := src_n c a1 s1 size 50 h1 (by decide) hc
  obtain ⟨n3, a3, s3, e3, n3a, n3b, _, h3⟩ := src_n c a2 s2 size 5 h2 (by decide) hc
  obtain ⟨n4, a4, s4, e4, n4a, n4b, _, h4⟩ := src_n c a3 s3 size 4 h3 (by decide) hc
  obtain ⟨b5, a5, s5, e5, h5⟩ := src_one c a4 s4 size 6 h4 (by decide) hc
  obtain ⟨n6, a6, s6, e6, _, _, _, h6⟩ := src_n c a5 s5 size (rd (.int .i64) ([1, 1, 2, 7] : List Int) n4) h5 (ck_rd4 n4) hc
  obtain ⟨n7, a7, s7, e7, n7a, n7b, _, h7⟩ := src_n c a6 s6 size 4 h6 (by decide) hc
  have n3c := n3b (by decide)
  have n4c := n4b (by decide)
  have n7c := n7b (by decide)
  obtain ⟨ts, a8, s8, e8, l8, h8⟩ := ck_loop c hc size 0 0 0 0 0 false n1 n2 (rd (.int .i64) ([1, 1, 2, 3, 0] : List Int) n3) (rd (.int .i64) ([1, 1, 2, 7] : List Int) n4) n6 b5 n7.toNat K0 n7 [] a7 s7 (by omega) (by rw [K0_eq]; omega) (by simp; omega) h7
  simp only [e1, e2, e3, e4, e5, Option.bind_some]
  rw [decp n3a, decp (show n3 < (([1, 1, 2, 3, 0] : List Int).length : Int) from n3c), decp n4a, decp (show n4 < (([1, 1, 2, 7] : List Int).length : Int) from n4c)]
  simp only [Bool.and_true, cond_true, e6, e7, e8, Option.bind_some]
  exact ⟨_, _, _, _, _, _, ts, _, _, rfl, l8, h8⟩
theorem ck_any (c : List Int) (hc : c.length ≤ 1048576) (at_ st size : Int) (ha : 0 ≤ at_) : ∃ h g n d p f l at' st', spec_l01Src_anyClock_v2 c at_ st size = some (h, g, n, d, p, f, l, c, at', st', size, ()) := by
  unfold spec_l01Src_anyClock_v2
  obtain ⟨h, g, n, d, p, f, l, a1, s1, e1, hl, h1⟩ := ck_clock c hc at_ st size ha
  obtain ⟨b2, a2, s2, e2, h2⟩ := src_one c a1 s1 size 5 h1 (by decide) hc
  obtain ⟨n3, a3, s3, e3, n3a, n3b, _, h3⟩ := src_n c a2 s2 size 8 h2 (by decide) hc
  obtain ⟨n4, a4, s4, e4, n4a, n4b, _, h4⟩ := src_n c a3 s3 size 3 h3 (by decide) hc
  have n4c := n4b (by decide)
  obtain ⟨n5, a5, s5, e5, _, _, _, h5⟩ := src_n c a4 s4 size 4 h4 (by decide) hc
  have w : wrap64 (19 + n4) = 19 + n4 := wrap_id (by omega) (by omega)
  obtain ⟨ts, a8, s8, e8, _, _⟩ := ck_loop2 c hc size 0 0 0 0 0 false h g n d p f (19 + n4).toNat K0 (19 + n4) [] a4 s4 (by clear w; omega) (by rw [K0_eq]; clear w; omega) (by simp; clear w; omega) h4
  have l3 : ∀ x y z : Int, decide (n4 < (([x, y, z] : List Int).length : Int)) = true := fun x y z => decp (show n4 < (3 : Int) from n4c)
  simp only [e1, e2, e3, e4, e5, w, e8, Option.bind_some, decp n4a, l3, Bool.and_true, cond_true, Bool.true_and]
  have r1 : ∀ t : V1, roomy ((List.length l : Int) + (([t] : List V1).length : Int)) 24 = true := fun t => roomy_ok (by simp; clear w; omega)
  simp only [r1, cond_true]
  clear w
  cases b2
  · exact ⟨_, _, _, _, _, _, _, _, _, rfl⟩
  simp only [Bool.not_true, cond_false]
  cases (n3 == 0)
  case true => exact ⟨_, _, _, _, _, _, _, _, _, rfl⟩
  cases (n3 == 1)
  case true => exact ⟨_, _, _, _, _, _, _, _, _, rfl⟩
  cases (n3 == 2)
  case true => exact ⟨_, _, _, _, _, _, _, _, _, rfl⟩
  cases (n3 == 3)
  case true => exact ⟨_, _, _, _, _, _, _, _, _, rfl⟩
  cases (n3 == 4)
  case true => exact ⟨_, _, _, _, _, _, _, _, _, rfl⟩
  cases (n3 == 5)
  case true => exact ⟨_, _, _, _, _, _, _, _, _, rfl⟩
  cases (n3 == 6)
  case true => exact ⟨_, _, _, _, _, _, _, _, _, rfl⟩
  cases (n3 == 7)
  case true => exact ⟨_, _, _, _, _, _, _, _, _, rfl⟩
  exact ⟨_, _, _, _, _, _, _, _, _, rfl⟩
theorem ck_draw (c : List Int) (hc : c.length ≤ 1048576) : ∃ h g n d p f l, spec_DrawClockFault_v3 c = some (h, g, n, d, p, f, l, ()) := by
  unfold spec_DrawClockFault_v3
  obtain ⟨st, size, e0, _, _⟩ := src_source c hc
  obtain ⟨h, g, n, d, p, f, l, a1, s1, e1⟩ := ck_any c hc 0 st size (by decide)
  simp only [e0, e1, Option.bind_some]
  exact ⟨_, _, _, _, _, _, _, rfl⟩
noncomputable def CkOk (h g n d p : Int) : Prop := 0 ≤ h ∧ h ≤ 1099511627776 ∧ 0 ≤ g ∧ g ≤ 1099511627776 ∧ 0 ≤ n ∧ n ≤ 1000 ∧ 1 ≤ d ∧ d ≤ 1000 ∧ 0 ≤ p ∧ p < d
theorem ck_fault (h g n d p : Int) (f : Bool) : ∃ r, spec_ClockFault h g n d p f [] = some (r, ()) ∧ (r = 0 → CkOk h g n d p) := by
  unfold spec_ClockFault spec_l09Rate
  simp only [Option.getD_some, Option.isSome_some, Bool.or_true, cond_true]
  obtain ⟨k, hk⟩ := K0_ge (n := 1) (by decide)
  rw [hk]
  have hl : spec_ClockFault_l4 (k + 1) 0 h g n d p f [] = some (Sum.inr ()) := rfl
  rw [hl]
  simp only [Option.bind_some]
  generalize hB : (((((((decide (h < 0) || decide (h > 1099511627776)) || decide (g < 0)) || decide (g > 1099511627776)) || !(((decide (n ≥ 0) && decide (n ≤ 1000)) && decide (d ≥ 1)) && decide (d ≤ 1000))) || decide (p < 0)) || decide (p ≥ d)) || decide (((([] : List V1).length : Nat) : Int) > 20)) = B
  cases B
  · refine ⟨0, rfl, fun _ => ?_⟩
    simp at hB
    unfold CkOk
    omega
  · exact ⟨1, rfl, fun h => absurd h (by decide)⟩
theorem ck_fault0 {h g n d p : Int} (f : Bool) (o : CkOk h g n d p) : impl_ClockFault h g n d p f [] = some (0, ()) := by
  obtain ⟨o1, o2, o3, o4, o5, o6, o7, o8, o9, o10⟩ := o
  unfold impl_ClockFault impl_yrateOk
  obtain ⟨k, hk⟩ := K0_ge (n := 1) (by decide)
  have hc : slices_ContainsFunc_Timer [] = some (false, ()) := by
    unfold slices_ContainsFunc_Timer slices_IndexFunc_Timer
    rw [hk]
    have hl : slices_IndexFunc_Timer_l2 (k + 1) [] ((([] : List V1).length : Nat) : Int) 0 = some (Sum.inr ()) := rfl
    rw [hl]
    rfl
  have w : wrap64 (d - 1) = d - 1 := wrap_id (by omega) (by omega)
  simp only [hc, yin_eq, w, Option.bind_some, Option.getD_some, Option.isSome_some]
  clear w
  rw [decp (show 0 ≤ h ∧ h ≤ 1099511627776 from ⟨o1, o2⟩), decp (show 0 ≤ g ∧ g ≤ 1099511627776 from ⟨o3, o4⟩), decp (show 0 ≤ n ∧ n ≤ 1000 from ⟨o5, o6⟩), decp (show 1 ≤ d ∧ d ≤ 1000 from ⟨o7, o8⟩), decp (show 0 ≤ p ∧ p ≤ d - 1 from ⟨o9, by omega⟩)]
  rfl
noncomputable def ckG (g n d p : Int) (f : Bool) (e : Int) : Int := bif f then g else g + (p + n * e) / d
noncomputable def ckP (n d p : Int) (f : Bool) (e : Int) : Int := bif f then p else (p + n * e) % d
theorem ck_mul {n e : Int} (h1 : 0 ≤ n) (h2 : n ≤ 1000) (h3 : 0 ≤ e) (h4 : e ≤ 600) : 0 ≤ n * e ∧ n * e ≤ 600000 :=
  ⟨Int.mul_nonneg h1 h3, Int.le_trans (Int.mul_le_mul h2 h4 h3 (by decide)) (by decide)⟩
theorem ck_div {x d : Int} (h1 : 0 ≤ x) (h2 : 1 ≤ d) : 0 ≤ x / d ∧ x / d ≤ x ∧ 0 ≤ x % d ∧ x % d < d :=
  ⟨Int.ediv_nonneg h1 (by omega), Int.ediv_le_self _ h1, Int.emod_nonneg _ (by omega), Int.emod_lt_of_pos _ (by omega)⟩
/-- What is told about a clock that goes on: the numbers wrap nowhere. -/
theorem ck_nums {h g n d p t : Int} (o : CkOk h g n d p) (ht : h ≤ t) (ht2 : t ≤ h + 600) (hh : h ≤ 1073745000) (hg : g ≤ 1073741824 + 1000000) :
    wrap64 (n * wrap64 (t - h)) = n * (t - h) ∧ wrap64 (p + n * (t - h)) = p + n * (t - h) ∧ Int.tdiv (p + n * (t - h)) d = (p + n * (t - h)) / d ∧ Int.tmod (p + n * (t - h)) d = (p + n * (t - h)) % d ∧ wrap64 ((p + n * (t - h)) / d) = (p + n * (t - h)) / d ∧ wrap64 (g + (p + n * (t - h)) / d) = g + (p + n * (t - h)) / d ∧ g + (p + n * (t - h)) / d ≤ 1099511627776 := by
  obtain ⟨o1, o2, o3, o4, o5, o6, o7, o8, o9, o10⟩ := o
  obtain ⟨m1, m2⟩ := ck_mul (e := t - h) o5 o6 (by omega) (by omega)
  have w1 : wrap64 (t - h) = t - h := wrap_id (by omega) (by omega)
  rw [w1]
  clear w1
  generalize n * (t - h) = q at *
  obtain ⟨d1, d2, d3, d4⟩ := ck_div (x := p + q) (d := d) (by omega) o7
  refine ⟨wrap_id (by omega) (by omega), wrap_id (by omega) (by omega), Int.tdiv_eq_ediv_of_nonneg (by omega), Int.tmod_eq_emod_of_nonneg (by omega), wrap_id (by omega) (by omega), wrap_id (by omega) (by omega), by omega⟩
theorem ck_ticks (h g n d p : Int) (f : Bool) : impl_Clock_yticks_v2 h g n d p f [] = some ([], h, g, n, d, p, f, [], ()) := by
  unfold impl_Clock_yticks_v2
  obtain ⟨k, hk⟩ := K0_ge (n := 1) (by decide)
  rw [hk]
  rfl
theorem ck_do {h g n d p t : Int} (f : Bool) (o : CkOk h g n d p) (ht : h ≤ t) (ht2 : t ≤ h + 600) (hh : h ≤ 1073745000) (hg : g ≤ 1073741824 + 1000000) :
    impl_Clock_ydo_v2 h g n d p f [] 1 t 0 0 0 0 0 = some (0, [], t, ckG g n d p f (t - h), n, d, ckP n d p f (t - h), f, [], ()) := by
  obtain ⟨w1, w2, w3, w4, w5, w6, w7⟩ := ck_nums o ht ht2 hh hg
  obtain ⟨o1, o2, o3, o4, o5, o6, o7, o8, o9, o10⟩ := o
  unfold impl_Clock_ydo_v2 ckG ckP
  have d0 : (d == 0) = false := beq_false_of_ne (by omega)
  have y : decide (h ≤ t ∧ t ≤ 1099511627776) = true := decp ⟨ht, by omega⟩
  simp only [yin_eq, y, w1, w2, w3, w4, w5, w6, d0, ck_ticks, beq_self_eq_true, cond_true, Option.bind_some, Bool.not_true, Bool.not_false, Bool.or_true, Bool.and_true, cond_false, Bool.cond_self]
  clear w1 w2 w3 w4 w5 w6
  cases f
  · simp only [Bool.not_false, cond_true, cond_false]
    rw [decn (show ¬ (g + (p + n * (t - h)) / d > 1099511627776) by omega)]
    rfl
  · simp only [Bool.not_true, cond_true, cond_false]
    rw [decn (show ¬ (g > 1099511627776) by omega)]
    rfl
theorem ck_spec {h g n d p t : Int} (f : Bool) (o : CkOk h g n d p) (ht : h ≤ t) (ht2 : t ≤ h + 600) (hh : h ≤ 1073745000) (hg : g ≤ 1073741824 + 1000000) :
    ∃ o', spec_l09Do_v3 h g n d p f [] 1 t 0 0 0 0 0 = some (t, ckG g n d p f (t - h), n, d, ckP n d p f (t - h), f, [], o') := by
  obtain ⟨w1, w2, w3, w4, w5, w6, w7⟩ := ck_nums o ht ht2 hh hg
  obtain ⟨o1, o2, o3, o4, o5, o6, o7, o8, o9, o10⟩ := o
  unfold spec_l09Do_v3 spec_l09Advance_v3 ckG ckP
  have d0 : (d == 0) = false := beq_false_of_ne (by omega)
  obtain ⟨k, hk⟩ := K0_ge (n := 1) (by decide)
  have hl : ∀ (z1 z2 z3 z4 z5 : Int) (z6 : Bool) (z17 : Int), spec_l09Advance_v3_l13 (k + 1) 0 z1 z2 z3 z4 z5 z6 [] 0 0 0 0 0 false 0 0 0 z17 [] [] = some (z1, z2, z3, z4, z5, z6, [], 0, 0, 0, 0, 0, false, 0, 0, 0, z17, [], [], ()) := fun _ _ _ _ _ _ _ => rfl
  rw [hk]
  simp only [w1, w2, w3, w4, w5, w6, d0, hl, beq_self_eq_true, cond_true, Option.bind_some, Bool.not_false, cond_false]
  clear w1 w2 w3 w4 w5 w6
  rw [decn (show ¬ t < h by omega), decn (show ¬ t > 1099511627776 by omega)]
  cases f
  · rw [decn (show ¬ (g + (p + n * (t - h)) / d > 1099511627776) by omega)]
    exact ⟨_, rfl⟩
  · exact ⟨_, rfl⟩
theorem ck_next {h g n d p t : Int} (f : Bool) (o : CkOk h g n d p) (ht : h ≤ t) (ht2 : t ≤ h + 600) (hh : h ≤ 1073742424) (hg : g ≤ 1073741824) :
    CkOk t (ckG g n d p f (t - h)) n d (ckP n d p f (t - h)) ∧ ckG g n d p f (t - h) ≤ 1073741824 + 1000000 := by
  obtain ⟨o1, o2, o3, o4, o5, o6, o7, o8, o9, o10⟩ := o
  obtain ⟨m1, m2⟩ := ck_mul (e := t - h) o5 o6 (by omega) (by omega)
  unfold CkOk ckG ckP
  generalize n * (t - h) = q at *
  obtain ⟨d1, d2, d3, d4⟩ := ck_div (x := p + q) (d := d) (by omega) o7
  cases f
  · simp only [cond_false]; omega
  · simp only [cond_true]; omega
theorem ck_two (g n d p : Int) (f : Bool) (x y : Int) (hd : d ≠ 0) : ckG (ckG g n d p f x) n d (ckP n d p f x) f y = ckG g n d p f (x + y) ∧ ckP n d (ckP n d p f x) f y = ckP n d p f (x + y) := by
  unfold ckG ckP
  cases f
  · simp only [cond_false]
    have e : p + n * (x + y) = ((p + n * x) % d + n * y) + d * ((p + n * x) / d) := by
      have := Int.emod_add_mul_ediv (p + n * x) d
      rw [Int.mul_add]
      omega
    rw [e, Int.add_mul_ediv_left _ _ hd, Int.add_mul_emod_self_left]
    exact ⟨by omega, rfl⟩
  · exact ⟨rfl, rfl⟩
theorem ck_clone : slices_Clone_Timer [] = some ([], ()) := by
  unfold slices_Clone_Timer both
  have r : roomy (0 + (((([] : List V1)).length : Nat) : Int)) 24 = true := roomy_ok (by decide)
  rw [r]
  simp
theorem ck_run1 {h g n d p t : Int} (f : Bool) (o : CkOk h g n d p) (ht : h ≤ t) (ht2 : t ≤ h + 600) (hh : h ≤ 1073745000) (hg : g ≤ 1073741824 + 1000000) :
    ∃ o', impl_RunClock h g n d p f [] [(1, t, 0, 0, 0, 0, 0)] = some (0, t, ckG g n d p f (t - h), n, d, ckP n d p f (t - h), f, [], o') := by
  unfold impl_RunClock
  obtain ⟨k, hk⟩ := K0_ge (n := 2) (by decide)
  rw [decn (show ¬ ((([(1, t, 0, 0, 0, 0, 0)] : List V2).length : Int) > 1000) by simp), ck_fault0 f o, ck_clone, hk]
  simp only [cond_false, Option.bind_some, bne_self_eq_false]
  have hl : impl_RunClock_l8 (k + 2) [(1, t, 0, 0, 0, 0, 0)] ((([(1, t, 0, 0, 0, 0, 0)] : List V2).length : Nat) : Int) 0 h g n d p f [] 0 0 0 0 0 0 false [] = some (t, ckG g n d p f (t - h), n, d, ckP n d p f (t - h), f, [], 0, 0, 0, 0, 0, 0, false, [(0, ckG g n d p f (t - h), [])], ()) := by
    show impl_RunClock_l8_step (impl_RunClock_l8 (k + 1)) [(1, t, 0, 0, 0, 0, 0)] 1 0 h g n d p f [] 0 0 0 0 0 0 false [] = _
    unfold impl_RunClock_l8_step
    have e : rd R2 [(1, t, 0, 0, 0, 0, 0)] 0 = (1, t, 0, 0, 0, 0, 0) := rfl
    simp only [e, ck_do f o ht ht2 hh hg, Option.bind_some, show decide ((0 : Int) < 1) = true from rfl, show decide ((0 : Int) ≤ 0) = true from rfl, show decide ((0 : Int) < ((([(1, t, 0, 0, 0, 0, 0)] : List V2).length : Nat) : Int)) = true from rfl, Bool.and_true, cond_true]
    rw [roomy_ok (by simp), wrap_id (x := 0 + 1) (by decide) (by decide)]
    rfl
  rw [hl]
  exact ⟨_, rfl⟩
theorem ck_run2 {h g n d p t t2 : Int} (f : Bool) (o : CkOk h g n d p) (ht : h ≤ t) (ht2 : t ≤ h + 600) (hh : h ≤ 1073741824) (hg : g ≤ 1073741824) (hu : t ≤ t2) (hu2 : t2 ≤ t + 600) :
    ∃ o', impl_RunClock h g n d p f [] [(1, t, 0, 0, 0, 0, 0), (1, t2, 0, 0, 0, 0, 0)] = some (0, t2, ckG g n d p f (t2 - h), n, d, ckP n d p f (t2 - h), f, [], o') := by
  obtain ⟨q1, q2⟩ := ck_next f o ht ht2 (by omega) hg
  have s1 := ck_do f o ht ht2 (by omega) (by omega)
  have s2 := ck_do f q1 hu hu2 (by omega) q2
  obtain ⟨x1, x2⟩ := ck_two g n d p f (t - h) (t2 - t) (by obtain ⟨o1, o2, o3, o4, o5, o6, o7, o8, o9, o10⟩ := o; omega)
  rw [x1, x2, show t - h + (t2 - t) = t2 - h by omega] at s2
  unfold impl_RunClock
  obtain ⟨k, hk⟩ := K0_ge (n := 3) (by decide)
  rw [decn (show ¬ ((([(1, t, 0, 0, 0, 0, 0), (1, t2, 0, 0, 0, 0, 0)] : List V2).length : Int) > 1000) by simp), ck_fault0 f o, ck_clone, hk]
  simp only [cond_false, Option.bind_some, bne_self_eq_false]
  have hl : ∃ o', impl_RunClock_l8 (k + 3) [(1, t, 0, 0, 0, 0, 0), (1, t2, 0, 0, 0, 0, 0)] ((([(1, t, 0, 0, 0, 0, 0), (1, t2, 0, 0, 0, 0, 0)] : List V2).length : Nat) : Int) 0 h g n d p f [] 0 0 0 0 0 0 false [] = some (t2, ckG g n d p f (t2 - h), n, d, ckP n d p f (t2 - h), f, [], 0, 0, 0, 0, 0, 0, false, o', ()) := by
    show ∃ o', impl_RunClock_l8_step (impl_RunClock_l8 (k + 2)) [(1, t, 0, 0, 0, 0, 0), (1, t2, 0, 0, 0, 0, 0)] 2 0 h g n d p f [] 0 0 0 0 0 0 false [] = _
    unfold impl_RunClock_l8_step
    have e : rd R2 [(1, t, 0, 0, 0, 0, 0), (1, t2, 0, 0, 0, 0, 0)] 0 = (1, t, 0, 0, 0, 0, 0) := rfl
    simp only [e, s1, Option.bind_some, show decide ((0 : Int) < 2) = true from rfl, show decide ((0 : Int) ≤ 0) = true from rfl, show decide ((0 : Int) < ((([(1, t, 0, 0, 0, 0, 0), (1, t2, 0, 0, 0, 0, 0)] : List V2).length : Nat) : Int)) = true from rfl, Bool.and_true, cond_true]
    rw [roomy_ok (by simp), wrap_id (x := 0 + 1) (by decide) (by decide)]
    simp only [cond_true]
    show ∃ o', impl_RunClock_l8_step (impl_RunClock_l8 (k + 1)) [(1, t, 0, 0, 0, 0, 0), (1, t2, 0, 0, 0, 0, 0)] 2 1 t (ckG g n d p f (t - h)) n d (ckP n d p f (t - h)) f [] 0 0 0 0 0 0 false [(0, ckG g n d p f (t - h), [])] = _
    unfold impl_RunClock_l8_step
    have e : rd R2 [(1, t, 0, 0, 0, 0, 0), (1, t2, 0, 0, 0, 0, 0)] 1 = (1, t2, 0, 0, 0, 0, 0) := rfl
    simp only [e, s2, Option.bind_some, show decide ((1 : Int) < 2) = true from rfl, show decide ((0 : Int) ≤ 1) = true from rfl, show decide ((1 : Int) < ((([(1, t, 0, 0, 0, 0, 0), (1, t2, 0, 0, 0, 0, 0)] : List V2).length : Nat) : Int)) = true from rfl, Bool.and_true, cond_true]
    rw [roomy_ok (by simp), wrap_id (x := 1 + 1) (by decide) (by decide)]
    exact ⟨_, rfl⟩
  obtain ⟨o', hl⟩ := hl
  rw [hl]
  exact ⟨_, rfl⟩
theorem ck_srun {h g n d p t : Int} (f : Bool) (o : CkOk h g n d p) (ht : h ≤ t) (ht2 : t ≤ h + 600) (hh : h ≤ 1073745000) (hg : g ≤ 1073741824 + 1000000) (e0 : spec_ClockFault h g n d p f [] = some (0, ())) :
    ∃ o', spec_RunClock h g n d p f [] [(1, t, 0, 0, 0, 0, 0)] = some (0, t, ckG g n d p f (t - h), n, d, ckP n d p f (t - h), f, [], o') := by
  unfold spec_RunClock
  obtain ⟨k, hk⟩ := K0_ge (n := 2) (by decide)
  rw [decn (show ¬ ((([(1, t, 0, 0, 0, 0, 0)] : List V2).length : Int) > 1000) by simp), e0, hk, roomy_ok (by decide)]
  simp only [cond_false, cond_true, Option.bind_some, bne_self_eq_false, List.append_nil]
  have hl : ∃ o', spec_RunClock_l8 (k + 2) [(1, t, 0, 0, 0, 0, 0)] 0 h g n d p f [] 0 0 0 0 0 0 false [] = some (t, ckG g n d p f (t - h), n, d, ckP n d p f (t - h), f, [], 0, 0, 0, 0, 0, 0, false, o', ()) := by
    show ∃ o', spec_RunClock_l8_step (spec_RunClock_l8 (k + 1)) [(1, t, 0, 0, 0, 0, 0)] 0 h g n d p f [] 0 0 0 0 0 0 false [] = _
    unfold spec_RunClock_l8_step
    have e : rd R2 [(1, t, 0, 0, 0, 0, 0)] 0 = (1, t, 0, 0, 0, 0, 0) := rfl
    obtain ⟨q, s⟩ := ck_spec f o ht ht2 hh hg
    simp only [e, s, Option.bind_some, show decide ((0 : Int) < 1) = true from rfl, show decide ((0 : Int) ≤ 0) = true from rfl, show decide ((0 : Int) < ((([(1, t, 0, 0, 0, 0, 0)] : List V2).length : Nat) : Int)) = true from rfl, Bool.and_true, cond_true]
    rw [roomy_ok (by simp), wrap_id (x := 0 + 1) (by decide) (by decide)]
    exact ⟨_, rfl⟩
  obtain ⟨o', hl⟩ := hl
  rw [hl]
  exact ⟨_, rfl⟩
theorem ck_lwAt (c : List Int) (gc : good (.slice (.int .u8)) c) (k : Int) (hk : 0 ≤ k) : ∃ r, laws_lwAt c k 256 = some (r, ()) ∧ 0 ≤ r ∧ r ≤ 255 := by
  unfold laws_lwAt
  by_cases h0 : c.length = 0
  · rw [h0]; exact ⟨0, rfl, by decide, by decide⟩
  rw [show ((c.length : Int) == 0) = false from beq_false_of_ne (by omega)]
  have m1 : Int.tmod k (c.length : Int) = k % (c.length : Int) := Int.tmod_eq_emod_of_nonneg hk
  have m2 : 0 ≤ k % (c.length : Int) := Int.emod_nonneg _ (by omega)
  have m3 : k % (c.length : Int) < (c.length : Int) := Int.emod_lt_of_pos _ (by omega)
  rw [m1]
  obtain ⟨i, hi⟩ : ∃ i : Nat, k % (c.length : Int) = (i : Int) := ⟨(k % (c.length : Int)).toNat, by omega⟩
  rw [hi] at m2 m3 ⊢
  have hil : i < c.length := by omega
  have hr : rd (.int .u8) c (i : Int) = c[i]'hil := rd_at (.int .u8) c i hil
  have hb : good (.int .u8) (c[i]'hil) := gc.2 _ (List.getElem_mem hil)
  have hb2 : 0 ≤ c[i]'hil ∧ c[i]'hil ≤ 255 := by
    have : (Lit.int IntKind.u8 (c[i]'hil)).wf = true := hb
    simp [Lit.wf, IntKind.min, IntKind.max, IntKind.bits, IntKind.signed] at this
    omega
  simp only [hr, wrap_id (x := c[i]'hil) (by omega) (by omega), decp m2, decp (show (i : Int) < (c.length : Int) by omega)]
  refine ⟨Int.tmod (c[i]'hil) 256, rfl, ?_, ?_⟩
  · rw [Int.tmod_eq_emod_of_nonneg hb2.1]; omega
  · rw [Int.tmod_eq_emod_of_nonneg hb2.1]; omega
theorem FnClockParts : laws_FnClockParts.Pure := by
  intro a0 a1 g0 g1
  unfold laws_FnClockParts
  by_cases hx : a0.length ≤ 1048576 ∧ a1.length ≤ 1048576
  case neg =>
    by_cases h1 : (a0.length : Int) > 1048576
    · rw [decp h1]; rfl
    · simp only [decp (show (a1.length : Int) > 1048576 by omega), Bool.or_true, cond_true]
  obtain ⟨hx1, hx2⟩ := hx
  rw [decn (show ¬ (a0.length : Int) > 1048576 by omega), decn (show ¬ (a1.length : Int) > 1048576 by omega)]
  obtain ⟨h, g, n, d, p, f, l, e3⟩ := ck_draw a0 hx1
  obtain ⟨r, e4, hr⟩ := ck_fault h g n d p f
  simp only [e3, e4, Bool.or_false, cond_false, Option.bind_some]
  by_cases hr0 : r = 0 ∧ h ≤ 1073741824 ∧ g ≤ 1073741824
  case neg =>
    have : ((r != 0) || decide (h > 1073741824) || decide (g > 1073741824)) = true := by
      simp only [Bool.or_eq_true, bne_iff_ne, decide_eq_true_eq]
      omega
    rw [this]
    rfl
  obtain ⟨rfl, hh, hg⟩ := hr0
  have o := hr rfl
  rw [decn (show ¬ h > 1073741824 by omega), decn (show ¬ g > 1073741824 by omega)]
  obtain ⟨x, e8, x1, x2⟩ := ck_lwAt a1 g1 0 (by decide)
  obtain ⟨y, e9, y1, y2⟩ := ck_lwAt a1 g1 1 (by decide)
  have o1 := o.1
  have w1 : wrap64 (h + x) = h + x := wrap_id (by omega) (by omega)
  have w2 : wrap64 (h + x + y) = h + x + y := wrap_id (by clear w1; omega) (by clear w1; omega)
  simp only [e8, e9, w1, w2, bne_self_eq_false, Bool.or_false, cond_false, Option.bind_some]
  clear w1 w2
  obtain ⟨q1, r1⟩ := ck_run1 (t := h + x + y) f o (by omega) (by omega) (by omega) (by omega)
  obtain ⟨q2, r2⟩ := ck_run2 (t := h + x) (t2 := h + x + y) f o (by omega) (by omega) (by omega) (by omega) (by omega) (by omega)
  obtain ⟨q3, r3⟩ := ck_srun (t := h + x + y) f o (by omega) (by omega) (by omega) (by omega) e4
  simp only [r1, r2, r3, Option.bind_some, beq_self_eq_true, Bool.and_true, Bool.true_and]
  cases f
  · rfl
  · unfold ckG
    simp
end Go.Ab.FnClockParts.Pure

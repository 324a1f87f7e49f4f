/- The plain statement of the law FnExactHelloText. -/
import Derived.Test.YtbhbcpglepgbbaaDoorAbStFnExactHelloText
import Derived.Laws.BitsLemmas
namespace Go.Ab.FnExactHelloText.Pure
open Go.RowKit Go.Ab
set_option linter.unusedVariables false
set_option linter.unusedSimpArgs false
theorem wrap_id {x : Int} (h0 : -9223372036854775808 ≤ x) (h1 : x ≤ 9223372036854775807) : wrap64 x = x := by rw [w64_eq]; unfold RowKit.wrap64; omega
theorem K0_ge {n : Nat} (h : n ≤ 18446744073709551616) : ∃ k, K0 = k + n := ⟨K0 - n, by rw [K0_eq]; omega⟩
theorem roomy_ok {n b : Int} (h : n * b ≤ 140737488355328) : roomy n b = true := by unfold roomy; rw [M0_eq]; simpa using h
theorem rd_nat (t : Ty) (l : List t.val) (i : Nat) : rd t l (i : Int) = l.getD i t.dflt := by unfold rd; rw [Int.toNat_natCast]
theorem rd_at (t : Ty) (l : List t.val) (i : Nat) (h : i < List.length l) : rd t l (i : Int) = l[i]'h := by rw [rd_nat]; simp [h]
theorem decp {p : Prop} [Decidable p] (h : p) : decide p = true := decide_eq_true h
theorem decn {p : Prop} [Decidable p] (h : ¬ p) : decide p = false := decide_eq_false h
theorem bt_range (m : ByteArray) (a : Int) : 0 ≤ bt m a ∧ bt m a ≤ 255 := by
  unfold bt
  have := (m.data.getD a.toNat 0).toNat_lt
  omega
theorem shl_eq {x s : Int} (n : Nat) (hs : s = (n : Int)) (h : n ≤ 64) (h0 : 0 ≤ x * 2 ^ n) (h1 : x * 2 ^ n ≤ 9223372036854775807) : shl .i64 x s = x * 2 ^ n := by
  subst hs
  unfold shl
  rw [Int.toNat_natCast, show min n IntKind.i64.bits = n from Nat.min_eq_left h, IntKind.wrap_i64]
  omega
theorem wrap_succ (i n : Nat) (h : i < n) (hn : n ≤ 140737488351232) : wrap64 ((i : Int) + 1) = ((i + 1 : Nat) : Int) := by
  rw [w64_eq]; unfold RowKit.wrap64; omega
theorem digs_len (m : Nat) : (Go.Lib.decDigits m).length ≤ m + 1 := by
  induction m using Nat.strongRecOn with
  | _ m ih =>
    rw [Go.Lib.decDigits]
    by_cases h : m < 10
    · rw [dif_pos h]; simp
    · rw [dif_neg h]
      have := ih (m / 10) (by omega)
      rw [List.length_append]
      simp only [List.length_singleton]
      omega
theorem itoaB_nat (m : Nat) : itoaB (m : Int) = ⟨(Go.Lib.decDigits m).toArray⟩ := by
  unfold itoaB Go.Lib.itoa
  rw [if_neg (by omega), Int.toNat_natCast]
theorem itoaB_size (m : Nat) : (itoaB (m : Int)).size ≤ m + 1 := by
  rw [itoaB_nat]
  have := digs_len m
  simpa [ByteArray.size] using this
theorem digit_byte (d : Nat) (h : d < 10) : b2s [IntKind.u8.wrap (48 + (d : Int))] = ⟨#[UInt8.ofNat (48 + d)]⟩ := by
  have key : ∀ d : Fin 10, IntKind.u8.wrap (48 + ((d.val : Nat) : Int)) = ((48 + d.val : Nat) : Int) := by decide +kernel
  have := key ⟨d, h⟩
  unfold b2s
  simp only at this
  rw [this]
  show (⟨#[UInt8.ofNat (((48 + d : Nat) : Int)).toNat]⟩ : ByteArray) = _
  rw [Int.toNat_natCast]
theorem itoaB_step (m : Nat) (h : ¬ m < 10) : itoaB (m : Int) = itoaB ((m / 10 : Nat) : Int) ++ ⟨#[UInt8.ofNat (48 + m % 10)]⟩ := by
  rw [itoaB_nat, itoaB_nat, Go.Lib.decDigits, dif_neg h]
  apply ByteArray.ext
  simp
theorem dec_rec : ∀ (k m : Nat), m < 10 ^ (k + 1) → m ≤ 9223372036854775807 → spec_l01Dec_rec (k + 1) (m : Int) = some (itoaB (m : Int), ())
  | k, m, h, hb => by
    have hstep : ∀ k, spec_l01Dec_rec (k + 1) (m : Int) = spec_l01Dec_step (spec_l01Dec_rec k) (m : Int) := fun k => rfl
    rw [hstep]
    unfold spec_l01Dec_step
    rw [decn (show ¬ (m : Int) < 0 by omega), cond_false]
    by_cases hm : m < 10
    · rw [decp (show (m : Int) < 10 by omega), cond_true]
      dsimp only
      rw [wrap_id (by omega) (by omega), digit_byte m hm, itoaB_nat, Go.Lib.decDigits, dif_pos hm]
    · rw [decn (show ¬ (m : Int) < 10 by omega), cond_false]
      dsimp only
      have e1 : Int.tdiv (m : Int) 10 = ((m / 10 : Nat) : Int) := by
        rw [Int.tdiv_eq_ediv_of_nonneg (by omega)]; omega
      have e2 : Int.tmod (m : Int) 10 = ((m % 10 : Nat) : Int) := by
        rw [Int.tmod_eq_emod_of_nonneg (by omega)]; omega
      rw [e1, e2, wrap_id (x := ((m / 10 : Nat) : Int)) (by omega) (by omega), wrap_id (x := (48 : Int) + ((m % 10 : Nat) : Int)) (by omega) (by omega)]
      cases k with
      | zero => exfalso; omega
      | succ k =>
        rw [dec_rec k (m / 10) (by rw [Nat.pow_succ] at h; omega) (by omega)]
        simp only [Option.bind_some]
        rw [digit_byte (m % 10) (by omega)]
        have hj : joins (itoaB ((m / 10 : Nat) : Int)) ⟨#[UInt8.ofNat (48 + m % 10)]⟩ = true := by
          unfold joins
          rw [S0_eq]
          refine decp ?_
          have := itoaB_size (m / 10)
          have e : (⟨#[UInt8.ofNat (48 + m % 10)]⟩ : ByteArray).size = 1 := rfl
          omega
        rw [hj, ← itoaB_step m hm]
        rfl
/-- Numbers that are not below 0, as texts. -/
theorem spec_dec (n : Int) (h0 : 0 ≤ n) (h1 : n ≤ 9223372036854775807) : spec_l01Dec n = some (itoaB n, ()) := by
  obtain ⟨m, rfl⟩ : ∃ m : Nat, n = m := ⟨n.toNat, by omega⟩
  unfold spec_l01Dec
  obtain ⟨k, hk⟩ := K0_ge (n := 20) (by omega)
  rw [hk]
  refine dec_rec (k + 19) m ?_ (by omega)
  have : 10 ^ 20 ≤ 10 ^ (k + 19 + 1) := Nat.pow_le_pow_right (by omega) (by omega)
  have e : (10 : Nat) ^ 20 = 100000000000000000000 := by decide
  omega
theorem app_size (a b : ByteArray) : (a ++ b).size = a.size + b.size := ByteArray.size_append
theorem joins_ok {a b : ByteArray} (h : a.size + b.size ≤ 9223372036854775807) : joins a b = true := by
  unfold joins; rw [S0_eq]; exact decp (by omega)
theorem mk_app (a b : List UInt8) : (⟨(a ++ b).toArray⟩ : ByteArray) = ⟨a.toArray⟩ ++ ⟨b.toArray⟩ := by
  apply ByteArray.ext
  simp
theorem helloB_loop (s : ByteArray) (hs : s.size ≤ 100) : ∀ (n k i : Nat) (acc : ByteArray), i + n = s.size → acc.size ≤ 40 * i →
    spec_HelloText_l5 (k + n + 1) s acc (i : Int) = some (acc ++ ⟨(Go.Proofs.Tryd.helloOf (s.data.toList.drop i)).toArray⟩, ())
  | 0, k, i, acc, h, ha => by
    have hi : i = s.size := by omega
    subst hi
    have hstep : spec_HelloText_l5 (k + 0 + 1) s acc (s.size : Int) = spec_HelloText_l5_step (spec_HelloText_l5 (k + 0)) s acc (s.size : Int) := rfl
    rw [hstep]
    unfold spec_HelloText_l5_step
    dsimp only
    rw [decn (show ¬ (s.size : Int) < (s.size : Int) by omega), cond_false]
    have hd : s.data.toList.drop s.size = [] := List.drop_of_length_le (Nat.le_of_eq (by rw [Array.length_toList]; rfl))
    rw [hd]
    show some (acc, ()) = some (acc ++ ByteArray.empty, ())
    rw [ByteArray.append_empty]
  | n + 1, k, i, acc, h, ha => by
    have hlt : i < s.size := by omega
    have hstep : spec_HelloText_l5 (k + (n + 1) + 1) s acc (i : Int) = spec_HelloText_l5_step (spec_HelloText_l5 (k + (n + 1))) s acc (i : Int) := rfl
    rw [hstep]
    unfold spec_HelloText_l5_step
    dsimp only
    obtain ⟨b0, b1⟩ := bt_range s (i : Int)
    rw [decp (show (i : Int) < (s.size : Int) by omega), cond_true, wrap_id (x := bt s (i : Int)) (by omega) (by omega), spec_dec _ b0 (by omega)]
    simp only [Option.bind_some]
    have hb : bt s (i : Int) = ((s[i]'hlt).toNat : Int) := by
      unfold bt
      rw [Int.toNat_natCast, Array.getD_eq_getD_getElem?, Array.getElem?_eq_getElem hlt]
      rfl
    have hc := Go.Proofs.Tryd.itoa_byte (s[i]'hlt)
    have hsz : (itoaB (bt s (i : Int))).size ≤ 3 := by
      rw [hb]
      unfold itoaB
      show (Go.Lib.itoa ((s[i]'hlt).toNat : Int)).toArray.size ≤ 3
      rw [List.size_toArray]
      exact hc
    have e0 : (⟨#[97, 100, 100, 105, 32, 114, 49, 44, 32, 114, 48, 44, 32]⟩ : ByteArray).size = 13 := rfl
    have e1 : (⟨#[10, 111, 117, 116, 32, 114, 49, 44, 32, 49, 10]⟩ : ByteArray).size = 11 := rfl
    have hdrop : (⟨(Go.Proofs.Tryd.helloOf (s.data.toList.drop i)).toArray⟩ : ByteArray) = ⟨#[97, 100, 100, 105, 32, 114, 49, 44, 32, 114, 48, 44, 32]⟩ ++ (itoaB (bt s (i : Int)) ++ (⟨#[10, 111, 117, 116, 32, 114, 49, 44, 32, 49, 10]⟩ ++ ⟨(Go.Proofs.Tryd.helloOf (s.data.toList.drop (i + 1))).toArray⟩)) := by
      have hd : s.data.toList.drop i = s[i]'hlt :: s.data.toList.drop (i + 1) := by
        rw [List.drop_eq_getElem_cons (by rw [Array.length_toList]; exact hlt)]
        rfl
      rw [hd, hb]
      unfold itoaB
      have e : Go.Proofs.Tryd.helloOf (s[i]'hlt :: s.data.toList.drop (i + 1)) = ([97, 100, 100, 105, 32, 114, 49, 44, 32, 114, 48, 44, 32] ++ (Go.Lib.itoa ((s[i]'hlt).toNat : Int) ++ [10, 111, 117, 116, 32, 114, 49, 44, 32, 49, 10])) ++ Go.Proofs.Tryd.helloOf (s.data.toList.drop (i + 1)) := rfl
      rw [e, mk_app, mk_app, mk_app, ByteArray.append_assoc, ByteArray.append_assoc]
    rw [hdrop]
    generalize (⟨#[97, 100, 100, 105, 32, 114, 49, 44, 32, 114, 48, 44, 32]⟩ : ByteArray) = c0 at e0 ⊢
    generalize (⟨#[10, 111, 117, 116, 32, 114, 49, 44, 32, 49, 10]⟩ : ByteArray) = c1 at e1 ⊢
    generalize itoaB (bt s (i : Int)) = d at hsz ⊢
    rw [joins_ok (by omega), joins_ok (by simp only [app_size]; omega), joins_ok (by simp only [app_size]; omega), decp (show (0 : Int) ≤ (i : Int) by omega), wrap_succ i s.size hlt (by omega)]
    simp only [Bool.and_true, cond_true]
    have := helloB_loop s hs n k (i + 1) (acc ++ c0 ++ d ++ c1) (by omega) (by simp only [app_size]; omega)
    rw [show k + (n + 1) = k + n + 1 by omega, this]
    simp only [ByteArray.append_assoc]
theorem spec_hello (s : ByteArray) (hs : s.size ≤ 1048576) : spec_HelloText s = impl_HelloText s := by
  unfold spec_HelloText impl_HelloText
  dsimp only
  by_cases h : s.size ≤ 100
  · rw [decn (show ¬ (s.size : Int) > 100 by omega), cond_false, cond_false]
    obtain ⟨k, hk⟩ := K0_ge (n := s.size + 1) (by omega)
    have e := helloB_loop s h s.size k 0 ⟨#[]⟩ (by omega) (Nat.zero_le _)
    rw [show k + s.size + 1 = K0 by omega] at e
    rw [show ((0 : Nat) : Int) = 0 from rfl] at e
    rw [e]
    simp only [Option.bind_some, List.drop_zero]
    have hl : (Go.Proofs.Tryd.helloOf s.data.toList).length ≤ 40 * s.size := by
      have key : ∀ l : List UInt8, (Go.Proofs.Tryd.helloOf l).length ≤ 40 * l.length := fun l => by
        induction l with
        | nil => simp [Go.Proofs.Tryd.helloOf]
        | cons c l ih =>
          have e : Go.Proofs.Tryd.helloOf (c :: l) = ([97, 100, 100, 105, 32, 114, 49, 44, 32, 114, 48, 44, 32] ++ (Go.Lib.itoa (c.toNat : Int) ++ [10, 111, 117, 116, 32, 114, 49, 44, 32, 49, 10])) ++ Go.Proofs.Tryd.helloOf l := rfl
          have := Go.Proofs.Tryd.itoa_byte c
          rw [e, List.length_append, List.length_append, List.length_append]
          simp only [List.length_cons, List.length_nil]
          omega
      have := key s.data.toList
      rw [Array.length_toList] at this
      exact this
    have e5 : (⟨#[104, 97, 108, 116, 10]⟩ : ByteArray).size = 5 := rfl
    have ee : ((⟨#[]⟩ : ByteArray) ++ ⟨(Go.Proofs.Tryd.helloOf s.data.toList).toArray⟩) = ⟨(Go.Proofs.Tryd.helloOf s.data.toList).toArray⟩ := ByteArray.empty_append
    rw [ee, joins_ok (by rw [e5]; simp only [ByteArray.size, List.size_toArray]; omega), cond_true]
    unfold helloB
    rw [mk_app]
  · rw [decp (show (s.size : Int) > 100 by omega), cond_true, cond_true]
theorem FnExactHelloText : laws_FnExactHelloText.Pure := by
  intro s hs
  unfold laws_FnExactHelloText
  dsimp only
  by_cases h : (s.size : Int) > 1048576
  · rw [decp h]; rfl
  · rw [decn h, cond_false, spec_hello s (by omega)]
    have : ∃ r, impl_HelloText s = some (r, ()) := by
      unfold impl_HelloText
      cases decide ((s.size : Int) > 100) <;> exact ⟨_, rfl⟩
    obtain ⟨r, hr⟩ := this
    rw [hr]
    simp only [Option.bind_some]
    have e : seq r r = true := by unfold seq; exact beq_self_eq_true _
    rw [e]
    rfl
end Go.Ab.FnExactHelloText.Pure

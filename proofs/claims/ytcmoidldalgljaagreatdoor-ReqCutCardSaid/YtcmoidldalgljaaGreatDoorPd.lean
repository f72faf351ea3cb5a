/-
  Contracts of package day: Leap, days, May, number, digits, Show, Parse.
-/
import Derived.Test.YtcmoidldalgljaaGreatDoorPc
import Derived.Sort.Grow
import Derived.Deep.RegionHeld3
set_option linter.unusedVariables false
set_option linter.unusedSimpArgs false
namespace Go.Proofs.YtcmoidldalgljaaGreatDoor
open Go.RowKit

namespace Hen
def leapB (y : Int) : Bool := decide (1 ≤ y ∧ y ≤ 9999 ∧ y % 4 = 0 ∧ (¬ y % 100 = 0 ∨ y % 400 = 0))
def daysS (y m : Int) : Int := if m = 4 ∨ m = 6 ∨ m = 9 ∨ m = 11 then 30 else if m = 2 then (if y = 0 ∨ leapB y = true then 29 else 28) else 31
def mayB (y m d : Int) : Bool := decide (0 ≤ y ∧ y ≤ 9999 ∧ 1 ≤ m ∧ m ≤ 12 ∧ 1 ≤ d ∧ d ≤ daysS y m)
def numTo (l : List UInt8) : Int := l.foldl (fun n c => n * 10 + ((c.toNat : Int) - 48)) 0
def numS (l : List UInt8) : Int := if l.all digB then numTo l else -1
end Hen

set_option maxHeartbeats 1000000 in
theorem leap_calls (y : Int) (w : World) : Calls Tryz.prog 186 #[.int .i64 y] w fun e w' => e = .returned (.bool (Hen.leapB y)) ∧ w = w' := by
  rcases Int.lt_or_le y 1 with h1 | h1
  · have e : Hen.leapB y = false := by unfold Hen.leapB; rw [decide_eq_false]; omega
    rw [e]
    go_enter Tryz.func186, Tryz.ntmps186
    go_wp2
    go_ret
    exact ⟨rfl, rfl⟩
  rcases Int.lt_or_le 9999 y with h2 | h2
  · have e : Hen.leapB y = false := by unfold Hen.leapB; rw [decide_eq_false]; omega
    rw [e]
    go_enter Tryz.func186, Tryz.ntmps186
    go_wp2
    go_ret
    exact ⟨rfl, rfl⟩
  by_cases h4 : y % 4 = 0
  · have b4 : (y % 4 == 0) = true := by rw [beq_iff_eq]; exact h4
    by_cases h100 : y % 100 = 0
    · have b100 : (y % 100 != 0) = false := by rw [bne_eq_false_iff_eq]; exact h100
      by_cases h400 : y % 400 = 0
      · have b400 : (y % 400 == 0) = true := by rw [beq_iff_eq]; exact h400
        have e : Hen.leapB y = true := by unfold Hen.leapB; rw [decide_eq_true]; omega
        rw [e]
        clear h4 h100 h400
        go_enter Tryz.func186, Tryz.ntmps186
        go_wp2
        go_ret
        exact ⟨rfl, rfl⟩
      · have b400 : (y % 400 == 0) = false := by rw [beq_eq_false_iff_ne]; exact h400
        have e : Hen.leapB y = false := by unfold Hen.leapB; rw [decide_eq_false]; omega
        rw [e]
        clear h4 h100 h400
        go_enter Tryz.func186, Tryz.ntmps186
        go_wp2
        go_ret
        exact ⟨rfl, rfl⟩
    · have b100 : (y % 100 != 0) = true := by rw [bne_iff_ne]; exact h100
      have e : Hen.leapB y = true := by unfold Hen.leapB; rw [decide_eq_true]; omega
      rw [e]
      clear h4 h100
      go_enter Tryz.func186, Tryz.ntmps186
      go_wp2
      go_ret
      exact ⟨rfl, rfl⟩
  · have b4 : (y % 4 == 0) = false := by rw [beq_eq_false_iff_ne]; exact h4
    have e : Hen.leapB y = false := by unfold Hen.leapB; rw [decide_eq_false]; omega
    rw [e]
    clear h4
    go_enter Tryz.func186, Tryz.ntmps186
    go_wp2
    go_ret
    exact ⟨rfl, rfl⟩

set_option maxHeartbeats 2000000 in
theorem days_calls (y m : Int) (w : World) : Calls Tryz.prog 170 #[.int .i64 y, .int .i64 m] w fun e w' => e = .returned (.int .i64 (Hen.daysS y m)) ∧ w = w' := by
  have cL := leap_calls y w
  have hd : Hen.daysS y m = (if m = 4 ∨ m = 6 ∨ m = 9 ∨ m = 11 then 30 else if m = 2 then (if y = 0 ∨ Hen.leapB y = true then 29 else 28) else 31) := rfl
  generalize Hen.daysS y m = R at hd ⊢
  generalize Hen.leapB y = L at cL hd
  have CL := Lib.hid cL
  have HR := Lib.hid hd
  clear cL hd
  have hi : m ≤ 1 ∨ (2 ≤ m ∧ m ≤ 2) ∨ (3 ≤ m ∧ m ≤ 3) ∨ (4 ≤ m ∧ m ≤ 4) ∨ (5 ≤ m ∧ m ≤ 5) ∨ (6 ≤ m ∧ m ≤ 6) ∨ (7 ≤ m ∧ m ≤ 8) ∨ (9 ≤ m ∧ m ≤ 9) ∨ (10 ≤ m ∧ m ≤ 10) ∨ (11 ≤ m ∧ m ≤ 11) ∨ 12 ≤ m := by omega
  rcases hi with h | h | h | h | h | h | h | h | h | h | h
  all_goals
    first | have e4 : (m == 4) = true := by (rw [beq_iff_eq]; omega) | have e4 : (m == 4) = false := by (rw [beq_eq_false_iff_ne]; omega)
    first | have e6 : (m == 6) = true := by (rw [beq_iff_eq]; omega) | have e6 : (m == 6) = false := by (rw [beq_eq_false_iff_ne]; omega)
    first | have e9 : (m == 9) = true := by (rw [beq_iff_eq]; omega) | have e9 : (m == 9) = false := by (rw [beq_eq_false_iff_ne]; omega)
    first | have e11 : (m == 11) = true := by (rw [beq_iff_eq]; omega) | have e11 : (m == 11) = false := by (rw [beq_eq_false_iff_ne]; omega)
    first | have e2 : (m == 2) = true := by (rw [beq_iff_eq]; omega) | have e2 : (m == 2) = false := by (rw [beq_eq_false_iff_ne]; omega)
  all_goals first
    | (have hR : R = 30 := by rw [HR.out, if_pos (by omega)]
       subst hR
       clear HR h
       go_enter Tryz.func170, Tryz.ntmps170
       go_wp2
       go_ret
       exact ⟨rfl, rfl⟩)
    | (have hR : R = 31 := by rw [HR.out, if_neg (by omega), if_neg (by omega)]
       subst hR
       clear HR h
       go_enter Tryz.func170, Tryz.ntmps170
       go_wp2
       go_ret
       exact ⟨rfl, rfl⟩)
    | (have hR : R = (if y = 0 ∨ L = true then 29 else 28) := by rw [HR.out, if_neg (by omega), if_pos (by omega)]
       clear HR h
       by_cases hy : y = 0
       · have ey : (y == 0) = true := by rw [beq_iff_eq]; exact hy
         rw [if_pos (.inl hy)] at hR
         subst hR
         clear hy
         go_enter Tryz.func170, Tryz.ntmps170
         go_wp2
         go_ret
         exact ⟨rfl, rfl⟩
       · have ey : (y == 0) = false := by rw [beq_eq_false_iff_ne]; exact hy
         cases L with
         | true =>
           rw [if_pos (.inr rfl)] at hR
           subst hR
           clear hy
           go_enter Tryz.func170, Tryz.ntmps170
           go_wp2_with (go_at_call 186; refine CL.out.mono ?_; rintro e w' ⟨rfl, rfl⟩)
           go_ret
           exact ⟨rfl, rfl⟩
         | false =>
           rw [if_neg (by simp; exact hy)] at hR
           subst hR
           clear hy
           go_enter Tryz.func170, Tryz.ntmps170
           go_wp2_with (go_at_call 186; refine CL.out.mono ?_; rintro e w' ⟨rfl, rfl⟩)
           go_ret
           exact ⟨rfl, rfl⟩)

theorem leap_calls' (y : Int) (w : World) : Calls Tryz.prog 186 #[.int .i64 y] w fun e w' => e = .returned (.bool (Hen.leapB y)) ∧ w' = w := (leap_calls y w).mono fun _ _ h => ⟨h.1, h.2.symm⟩
theorem days_calls' (y m : Int) (w : World) : Calls Tryz.prog 170 #[.int .i64 y, .int .i64 m] w fun e w' => e = .returned (.int .i64 (Hen.daysS y m)) ∧ w' = w := (days_calls y m w).mono fun _ _ h => ⟨h.1, h.2.symm⟩

set_option maxHeartbeats 4000000 in
theorem may_calls (y m d : Int) (w : World) : Calls Tryz.prog 147 #[.agg #[.int .i64 y, .int .i64 m, .int .i64 d]] w fun e w' => e = .returned (.bool (Hen.mayB y m d)) ∧ Below w.heap.size w w' := by
  have cD := fun W => days_calls' y m W
  have hd : Hen.mayB y m d = decide (0 ≤ y ∧ y ≤ 9999 ∧ 1 ≤ m ∧ m ≤ 12 ∧ 1 ≤ d ∧ d ≤ Hen.daysS y m) := rfl
  generalize Hen.mayB y m d = R at hd ⊢
  generalize Hen.daysS y m = D at cD hd
  have CD := Lib.hid cD
  have HR := Lib.hid hd
  clear cD hd
  rcases Int.lt_or_le y 0 with h1 | h1
  · obtain rfl : R = false := by rw [HR.out, decide_eq_false]; omega
    have g1 : decide (0 ≤ y) = false := by rw [decide_eq_false]; omega
    go_enter Tryz.func147, Tryz.ntmps147
    go_wp2
    go_quiet (fail)
    go_wp2
    go_ret
    exact ⟨rfl, below_drawn ((Below.refl _ _).alloc (Nat.le_refl _) _) _⟩
  have g1 : decide (0 ≤ y) = true := by rw [decide_eq_true]; omega
  rcases Int.lt_or_le 9999 y with h2 | h2
  · obtain rfl : R = false := by rw [HR.out, decide_eq_false]; omega
    have g2 : decide (y ≤ 9999) = false := by rw [decide_eq_false]; omega
    go_enter Tryz.func147, Tryz.ntmps147
    go_wp2
    go_quiet (fail)
    go_wp2
    go_ret
    exact ⟨rfl, below_drawn ((Below.refl _ _).alloc (Nat.le_refl _) _) _⟩
  have g2 : decide (y ≤ 9999) = true := by rw [decide_eq_true]; omega
  rcases Int.lt_or_le m 1 with h3 | h3
  · obtain rfl : R = false := by rw [HR.out, decide_eq_false]; omega
    have g3 : decide (1 ≤ m) = false := by rw [decide_eq_false]; omega
    go_enter Tryz.func147, Tryz.ntmps147
    go_wp2
    go_quiet (fail)
    go_wp2
    go_ret
    exact ⟨rfl, below_drawn ((Below.refl _ _).alloc (Nat.le_refl _) _) _⟩
  have g3 : decide (1 ≤ m) = true := by rw [decide_eq_true]; omega
  rcases Int.lt_or_le 12 m with h4 | h4
  · obtain rfl : R = false := by rw [HR.out, decide_eq_false]; omega
    have g4 : decide (m ≤ 12) = false := by rw [decide_eq_false]; omega
    go_enter Tryz.func147, Tryz.ntmps147
    go_wp2
    go_quiet (fail)
    go_wp2
    go_ret
    exact ⟨rfl, below_drawn ((Below.refl _ _).alloc (Nat.le_refl _) _) _⟩
  have g4 : decide (m ≤ 12) = true := by rw [decide_eq_true]; omega
  rcases Int.lt_or_le d 1 with h5 | h5
  · obtain rfl : R = false := by rw [HR.out, decide_eq_false]; omega
    have g5 : decide (1 ≤ d) = false := by rw [decide_eq_false]; omega
    go_enter Tryz.func147, Tryz.ntmps147
    go_wp2
    go_quiet (fail)
    go_wp2
    go_ret
    exact ⟨rfl, below_drawn ((Below.refl _ _).alloc (Nat.le_refl _) _) _⟩
  have g5 : decide (1 ≤ d) = true := by rw [decide_eq_true]; omega
  go_enter Tryz.func147, Tryz.ntmps147
  go_wp2
  go_quiet ((go_at_call 170; exact Calls.quiet_of_same (CD.out _)))
  go_wp2
  go_ret
  exact ⟨ret_bool (by rw [HR.out]; rw [Bool.eq_iff_iff]; simp; omega), below_drawn ((Below.refl _ _).alloc (Nat.le_refl _) _) _⟩
end Go.Proofs.YtcmoidldalgljaaGreatDoor
set_option linter.unusedVariables false
set_option linter.unusedSimpArgs false
namespace Go.Proofs.YtcmoidldalgljaaGreatDoor
open Go.RowKit

theorem num_snoc (l : List UInt8) (c : UInt8) : Hen.numTo (l ++ [c]) = Hen.numTo l * 10 + ((c.toNat : Int) - 48) := by simp [Hen.numTo, List.foldl_append]
theorem num_bd : ∀ (n : Nat) (l : List UInt8), l.length = n → l.all Hen.digB = true → 0 ≤ Hen.numTo l ∧ Hen.numTo l < 10 ^ n
  | 0, l, h, _ => by
    obtain rfl := List.eq_nil_of_length_eq_zero h
    simp [Hen.numTo]
  | n + 1, l, h, ha => by
    have hne : l ≠ [] := by intro e; rw [e] at h; simp at h
    obtain ⟨l', c, rfl⟩ : ∃ l' c, l = l' ++ [c] := ⟨l.dropLast, l.getLast hne, (List.dropLast_concat_getLast hne).symm⟩
    rw [List.all_append] at ha
    simp [Hen.digB] at ha
    have ih := num_bd n l' (by simpa using h) (by simpa [Hen.digB] using ha.1)
    rw [num_snoc, Int.pow_succ]
    omega
theorem num_take (s : ByteArray) (k : Nat) (h : k < s.size) : Hen.numTo (s.data.toList.take (k + 1)) = Hen.numTo (s.data.toList.take k) * 10 + ((s[k].toNat : Int) - 48) := by
  rw [List.take_succ_eq_append_getElem (by simpa using h), num_snoc]; rfl

set_option maxHeartbeats 1000000 in
theorem number_calls (s : ByteArray) (w : World) (hs : s.size ≤ 4) : Calls Tryz.prog 146 #[.string s] w fun e w' => e = .returned (.int .i64 (Hen.numS s.data.toList)) ∧ w' = w := by
  have hN : Hen.numS s.data.toList = if s.data.toList.all Hen.digB then Hen.numTo s.data.toList else -1 := rfl
  generalize Hen.numS s.data.toList = R at hN ⊢
  have HN := Lib.hid hN
  clear hN
  go_enter Tryz.func146, Tryz.ntmps146
  go_wp2
  go_loop [3, 7] (fun n c => ∃ k : Nat, k ≤ s.size ∧ c = .int .i64 k ∧ n = .int .i64 (Hen.numTo (s.data.toList.take k)) ∧ Hid ((s.data.toList.take k).all Hen.digB = true)) (fun _ c => s.size - (intOf c).toNat)
  case atStart => exact ⟨0, Nat.zero_le _, rfl, rfl, rfl⟩
  case round =>
    obtain ⟨k, hk, rfl, rfl, HK⟩ := hrel
    by_cases hlt : k < s.size
    · have HT := Lib.hid (take_all s Hen.digB k hlt)
      have HNT := Lib.hid (num_take s k hlt)
      have hbd := num_bd k (s.data.toList.take k) (by simp; omega) HK.out
      have hbd2 : Hen.numTo (s.data.toList.take k) ≤ 999 := by
        have : (10 : Int) ^ k ≤ 10 ^ 3 := by
          have : k = 0 ∨ k = 1 ∨ k = 2 ∨ k = 3 := by omega
          rcases this with rfl | rfl | rfl | rfl <;> decide
        omega
      have hbd1 := hbd.1
      clear hbd
      generalize Hen.numTo (s.data.toList.take k) = n at hbd1 hbd2 HNT ⊢
      have hi : s[k].toNat ≤ 47 ∨ (48 ≤ s[k].toNat ∧ s[k].toNat ≤ 57) ∨ 58 ≤ s[k].toNat := by omega
      rcases hi with h | h | h
      · have hz : (s[k].toNat : Int) < 48 := by omega
        obtain rfl : R = -1 := by rw [HN.out, all_false_of (k := k + 1) (by rw [HT.out, HK.out, show Hen.digB s[k] = false by simp [Hen.digB]; omega]; rfl)]; rfl
        go_wp2
        go_ret
        exact ⟨rfl, rfl⟩
      · have hz : (48 : Int) ≤ s[k].toNat := by omega
        have hz2 : (s[k].toNat : Int) ≤ 57 := by omega
        go_wp2
        go_round
        case rel => exact ⟨k + 1, by omega, by go_num, by rw [HNT.out], by unfold Hid; rw [HT.out, HK.out, show Hen.digB s[k] = true by simp [Hen.digB]; omega]; rfl⟩
        case measure => simp [intOf]; omega
      · have hz : (57 : Int) < s[k].toNat := by omega
        obtain rfl : R = -1 := by rw [HN.out, all_false_of (k := k + 1) (by rw [HT.out, HK.out, show Hen.digB s[k] = false by simp [Hen.digB]; omega]; rfl)]; rfl
        go_wp2
        go_ret
        exact ⟨rfl, rfl⟩
    · obtain rfl : k = s.size := by omega
      go_wp2
      go_ret
      exact ⟨ret_int (by rw [HN.out, ← all_take_size, HK.out, if_pos rfl, List.take_of_length_le (by simp)]), rfl⟩

/-! ### digits -/
def Hen.digitsS (n : Int) (most : Nat) : List UInt8 := List.replicate (most - (Lib.itoa n).length) 48 ++ Lib.itoa n
theorem grow_below (w : World) (k : Nat) (os : Array Obj) : Below w.heap.size w (Sort.grow (w.drewN k) os) :=
  ⟨rfl, rfl, rfl, by simp [Sort.grow], fun i hi => by
    show (w.heap ++ os)[i]? = w.heap[i]?
    rw [Array.getElem?_append_left hi]⟩

theorem dec_len : ∀ (k u : Nat), u < 10 ^ (k + 1) → (Lib.decDigits u).length ≤ k + 1
  | 0, u, h => by rw [Lib.decDigits_one (by simpa using h)]; simp
  | k + 1, u, h => by
    by_cases hu : u < 10
    · rw [Lib.decDigits_one hu]; simp
    · rw [Lib.decDigits, dif_neg hu, List.length_append, List.length_singleton]
      have := dec_len k (u / 10) (by rw [Nat.pow_succ] at h; omega)
      omega
theorem itoa_len {n : Int} (h0 : 0 ≤ n) (h1 : n ≤ 9999) : (Lib.itoa n).length ≤ 4 := by
  unfold Lib.itoa
  rw [if_neg (by omega)]
  exact dec_len 3 _ (by omega)
def strSize : Value → Nat | .string s => s.size | _ => 0
theorem rep_cons (k : Nat) (l : List UInt8) : (⟨#[48]⟩ : ByteArray) ++ ⟨(List.replicate k 48 ++ l).toArray⟩ = ⟨(List.replicate (k + 1) 48 ++ l).toArray⟩ := by
  have := ByteArray.mk_append_mk [48] (List.replicate k 48 ++ l)
  rw [show (⟨#[48]⟩ : ByteArray) = ⟨[(48 : UInt8)].toArray⟩ from rfl, this]
  rfl

set_option maxHeartbeats 1000000 in
theorem digits_calls (n : Int) (most : Nat) (w : World) (hG : GL w) (h0 : 0 ≤ n) (h1 : n ≤ 9999) (hm : most ≤ 10) :
    Calls Tryz.prog 171 #[.int .i64 n, .int .i64 most] w fun e w' => e = .returned (.string ⟨(Hen.digitsS n most).toArray⟩) ∧ Below w.heap.size w w' := by
  have cI := Tryz.strconv_Itoa n (by omega) (by omega) w hG.pow
  have hl := itoa_len h0 h1
  have hD : Hen.digitsS n most = List.replicate (most - (Lib.itoa n).length) 48 ++ Lib.itoa n := rfl
  generalize Hen.digitsS n most = D at hD ⊢
  generalize Lib.itoa n = l at cI hD hl
  have CI := Lib.hid cI
  have HD := Lib.hid hD
  have hm2 : ((most : Nat) : Int) ≤ 10 := by omega
  clear cI hD hG h0 h1
  go_enter Tryz.func171, Tryz.ntmps171
  go_wp2_with (go_at_call 187; refine CI.out.mono ?_; rintro e w1 ⟨rfl, kk, os, rfl⟩)
  have hbel := grow_below w kk os
  have HBEL := Lib.hid hbel
  clear hbel
  go_loop [5] (fun v => ∃ k : Nat, (l.length + k ≤ most ∨ k = 0) ∧ v = .string ⟨(List.replicate k 48 ++ l).toArray⟩) (fun v => most - strSize v)
  case atStart => exact ⟨0, .inr rfl, by simp⟩
  case round =>
    obtain ⟨k, hk, rfl⟩ := hrel
    have hsz : (⟨(List.replicate k 48 ++ l).toArray⟩ : ByteArray).size = k + l.length := by rw [mk_size]; simp
    have hadd := fun W => run_string_add_sum (P := Tryz.prog) W ⟨#[48]⟩ ⟨(List.replicate k 48 ++ l).toArray⟩ (by rw [hsz, show (⟨#[48]⟩ : ByteArray).size = 1 from rfl]; omega)
    rw [rep_cons] at hadd
    have hsz2 : (⟨(List.replicate (k + 1) 48 ++ l).toArray⟩ : ByteArray).size = k + 1 + l.length := by rw [mk_size]; simp
    have hfin : ¬ k + l.length < most → Hid ((⟨(List.replicate k 48 ++ l).toArray⟩ : ByteArray) = ⟨D.toArray⟩) := fun hn => by
      unfold Hid
      rw [HD.out, show most - l.length = k by omega]
    generalize (⟨(List.replicate k 48 ++ l).toArray⟩ : ByteArray) = x at hadd hsz hfin ⊢
    obtain ⟨y, hy⟩ : ∃ y : ByteArray, y = ⟨(List.replicate (k + 1) 48 ++ l).toArray⟩ := ⟨_, rfl⟩
    rw [← hy] at hadd hsz2
    have HY := Lib.hid hy
    clear hy
    have HS := Lib.hid hsz
    have HS2 := Lib.hid hsz2
    by_cases hlt : k + l.length < most
    · have b1 : (x.size : Int) < most := by omega
      clear hfin hsz hsz2
      go_wp2
      go_round
      case rel => exact ⟨k + 1, by omega, by rw [HY.out]⟩
      case measure =>
        have e1 := HS.out
        have e2 := HS2.out
        simp [strSize]; omega
    · have b1 : ((most : Nat) : Int) ≤ (x.size : Int) := by omega
      have HF := Lib.hid (hfin hlt)
      clear hfin hadd hsz hsz2
      go_wp2
      go_ret
      exact ⟨by rw [show x = _ from HF.out.out]; rfl, HBEL.out⟩
end Go.Proofs.YtcmoidldalgljaaGreatDoor
set_option linter.unusedVariables false
set_option linter.unusedSimpArgs false
namespace Go.Proofs.YtcmoidldalgljaaGreatDoor
open Go.RowKit

/-- The world is the old one below, and has a block more. -/
structure Past (w W : World) : Prop where
  below : Below w.heap.size w W
  more : w.heap.size < W.heap.size
theorem Past.step {w W W1 : World} (h : Past w W) (hb : Below W.heap.size W W1) : Past w W1 := ⟨below_step h.below h.below.size hb, Nat.lt_of_lt_of_le h.more hb.size⟩
theorem Past.cell {w W W1 : World} (h : Past w W) (hb : Below W.heap.size W W1) {i : Nat} {v : Value} (hc : W.cell? ⟨w.heap.size, i, none⟩ = some v) : W1.cell? ⟨w.heap.size, i, none⟩ = some v := (hb.cell h.more).trans hc

/-- Behind a call made while a parameter lies in a box: the box is as it was. -/
theorem boxed {w w1 : World} {cs : Array Value} {T : TypeId} (hb : Below (w.alloc (.cells cs T)).heap.size (w.alloc (.cells cs T)) w1) : Past w w1 ∧ ∀ i v, cs[i]? = some v → w1.cell? ⟨w.heap.size, i, none⟩ = some v := by
  have hs : (w.alloc (.cells cs T)).heap.size = w.heap.size + 1 := by simp
  refine ⟨⟨below_step ((Below.refl _ _).alloc (Nat.le_refl _) _) (by omega) hb, by have := hb.size; omega⟩, fun i v h => (hb.cell (p := ⟨w.heap.size, i, none⟩) (by simp)).trans ?_⟩
  rw [World.cell?_alloc_new]; exact h

theorem Past.keep2 {w W W1 : World} {i j : Nat} {u v : Value} (hb : Below W.heap.size W W1) (h : W.cell? ⟨w.heap.size, i, none⟩ = some u ∧ W.cell? ⟨w.heap.size, j, none⟩ = some v ∧ Past w W) : W1.cell? ⟨w.heap.size, i, none⟩ = some u ∧ W1.cell? ⟨w.heap.size, j, none⟩ = some v ∧ Past w W1 :=
  ⟨h.2.2.cell hb h.1, h.2.2.cell hb h.2.1, h.2.2.step hb⟩

def Hen.showS (y m d : Int) : List UInt8 := if mayB y m d then (if y = 0 then [45] else digitsS y 4) ++ [45] ++ digitsS m 2 ++ [45] ++ digitsS d 2 else []
theorem digits_len {n : Int} {most : Nat} (h0 : 0 ≤ n) (h1 : n ≤ 9999) (hm : most ≤ 10) : (Hen.digitsS n most).length ≤ 14 := by
  have := itoa_len h0 h1
  unfold Hen.digitsS
  simp
  omega

set_option maxHeartbeats 4000000 in
theorem show_calls (y m d : Int) (w : World) (hG : GL w) : Calls Tryz.prog 148 #[.agg #[.int .i64 y, .int .i64 m, .int .i64 d]] w fun e w' => e = .returned (.string ⟨(Hen.showS y m d).toArray⟩) ∧ Below w.heap.size w w' := by
  have cM := fun W => may_calls y m d W
  have hS : Hen.showS y m d = if Hen.mayB y m d then (if y = 0 then [45] else Hen.digitsS y 4) ++ [45] ++ Hen.digitsS m 2 ++ [45] ++ Hen.digitsS d 2 else [] := rfl
  have hmay : Hen.mayB y m d = decide (0 ≤ y ∧ y ≤ 9999 ∧ 1 ≤ m ∧ m ≤ 12 ∧ 1 ≤ d ∧ d ≤ Hen.daysS y m) := rfl
  have hd31 : Hen.daysS y m ≤ 31 := by unfold Hen.daysS; split <;> (try split) <;> (try split) <;> omega
  generalize Hen.showS y m d = R at hS ⊢
  generalize Hen.mayB y m d = M at cM hS hmay
  have CM := Lib.hid cM
  clear cM
  cases M with
  | false =>
    obtain rfl : R = [] := by rw [hS]; rfl
    clear hS hmay hd31 hG
    go_enter Tryz.func148, Tryz.ntmps148
    go_wp2_with (go_at_call 147; refine (CM.out _).mono ?_; rintro e w1 ⟨rfl, hb⟩)
    go_ret
    exact ⟨rfl, below_step ((Below.refl _ _).alloc (Nat.le_refl _) _) (by simp) hb⟩
  | true =>
    rw [if_pos rfl] at hS
    have hb := of_decide_eq_true hmay.symm
    obtain ⟨h1, h2, h3, h4, h5, h6⟩ := hb
    have hd : d ≤ 31 := by omega
    have cDm : ∀ W, GL W → Calls Tryz.prog 171 #[.int .i64 m, .int .i64 2] W fun e w' => e = .returned (.string ⟨(Hen.digitsS m 2).toArray⟩) ∧ Below W.heap.size W w' := fun W hW => digits_calls m 2 W hW (by omega) (by omega) (by omega)
    have cDd : ∀ W, GL W → Calls Tryz.prog 171 #[.int .i64 d, .int .i64 2] W fun e w' => e = .returned (.string ⟨(Hen.digitsS d 2).toArray⟩) ∧ Below W.heap.size W w' := fun W hW => digits_calls d 2 W hW (by omega) (by omega) (by omega)
    have cDy : ∀ W, GL W → Calls Tryz.prog 171 #[.int .i64 y, .int .i64 4] W fun e w' => e = .returned (.string ⟨(Hen.digitsS y 4).toArray⟩) ∧ Below W.heap.size W w' := fun W hW => digits_calls y 4 W hW (by omega) (by omega) (by omega)
    have lm := digits_len (n := m) (most := 2) (by omega) (by omega) (by omega)
    have ld := digits_len (n := d) (most := 2) (by omega) (by omega) (by omega)
    have ly := digits_len (n := y) (most := 4) (by omega) (by omega) (by omega)
    generalize Hen.digitsS m 2 = dm at cDm lm hS
    generalize Hen.digitsS d 2 = dd at cDd ld hS
    generalize Hen.digitsS y 4 = dy at cDy ly hS
    have CDm := Lib.hid cDm
    have CDd := Lib.hid cDd
    have CDy := Lib.hid cDy
    have HG := Lib.hid hG
    clear hmay hd31 hG h1 h2 h3 h4 h5 h6 hd cDm cDd cDy
    by_cases hy : y = 0
    · have ey : (y != 0) = false := by rw [bne_eq_false_iff_eq]; exact hy
      rw [if_pos hy] at hS
      obtain ⟨X1, hX1⟩ : ∃ X : ByteArray, X = ⟨#[45]⟩ ++ ⟨#[45]⟩ := ⟨_, rfl⟩
      obtain ⟨X2, hX2⟩ : ∃ X : ByteArray, X = X1 ++ ⟨dm.toArray⟩ := ⟨_, rfl⟩
      obtain ⟨X3, hX3⟩ : ∃ X : ByteArray, X = X2 ++ ⟨#[45]⟩ := ⟨_, rfl⟩
      obtain ⟨X4, hX4⟩ : ∃ X : ByteArray, X = X3 ++ ⟨dd.toArray⟩ := ⟨_, rfl⟩
      have z1 : X1.size = 2 := by rw [hX1]; rfl
      have z2 : X2.size ≤ 16 := by rw [hX2, ByteArray.size_append, mk_size dm]; omega
      have z3 : X3.size ≤ 17 := by rw [hX3, ByteArray.size_append, show (⟨#[45]⟩ : ByteArray).size = 1 from rfl]; omega
      have a1 := fun W => run_string_add_sum (P := Tryz.prog) W ⟨#[45]⟩ ⟨#[45]⟩ (by decide)
      have a2 := fun W => run_string_add_sum (P := Tryz.prog) W X1 ⟨dm.toArray⟩ (by rw [mk_size dm]; omega)
      have a3 := fun W => run_string_add_sum (P := Tryz.prog) W X2 ⟨#[45]⟩ (by rw [show (⟨#[45]⟩ : ByteArray).size = 1 from rfl]; omega)
      have a4 := fun W => run_string_add_sum (P := Tryz.prog) W X3 ⟨dd.toArray⟩ (by rw [mk_size dd]; omega)
      rw [← hX1] at a1
      rw [← hX2] at a2
      rw [← hX3] at a3
      rw [← hX4] at a4
      have HS := Lib.hid (show X4 = ⟨R.toArray⟩ by
        rw [hX4, hX3, hX2, hX1, hS, show (⟨#[45]⟩ : ByteArray) = ⟨[(45 : UInt8)].toArray⟩ from rfl]
        simp only [ByteArray.mk_append_mk])
      clear hy hS hX1 hX2 hX3 hX4 z1 z2 z3
      go_enter Tryz.func148, Tryz.ntmps148
      go_wp2_with (go_at_call 147; refine (CM.out _).mono ?_; rintro e w1 ⟨rfl, hb⟩; obtain ⟨hP, hc⟩ := boxed hb; have c0 : w1.cell? ⟨w.heap.size, 0, none⟩ = some (.int .i64 y) := hc 0 _ rfl; have c1 : w1.cell? ⟨w.heap.size, 1, none⟩ = some (.int .i64 m) := hc 1 _ rfl; have c2 : w1.cell? ⟨w.heap.size, 2, none⟩ = some (.int .i64 d) := hc 2 _ rfl; clear hc hb)
      go_region_held3 (fun W => W.cell? ⟨w.heap.size, 1, none⟩ = some (.int .i64 m) ∧ W.cell? ⟨w.heap.size, 2, none⟩ = some (.int .i64 d) ∧ Past w W)
        (first | exact ⟨c1, c2, hP⟩ | exact Past.keep2 (W := w1) (Below.refl _ _).drew ⟨c1, c2, hP⟩ | exact Past.keep2 (by assumption) (by assumption) | exact Past.keep2 (Below.refl _ _).drew (by assumption))
        (first
          | (go_at_call_of 171 m; refine (CDm.out _ ?_).mono ?_; (exact HG.out.below (‹_ ∧ _ ∧ Past w _›).2.2.below); rintro e w2 ⟨rfl, hb2⟩)
          | (go_at_call_of 171 d; refine (CDd.out _ ?_).mono ?_; (exact HG.out.below (‹_ ∧ _ ∧ Past w _›).2.2.below); rintro e w2 ⟨rfl, hb2⟩))
      all_goals
        have hP2 := (‹_ ∧ _ ∧ Past w _›).2.2
        go_wp2
        go_ret
        exact ⟨by rw [← HS.out]; rfl, hP2.below⟩
    · have ey : (y != 0) = true := by rw [bne_iff_ne]; exact hy
      rw [if_neg hy] at hS
      obtain ⟨X1, hX1⟩ : ∃ X : ByteArray, X = ⟨dy.toArray⟩ ++ ⟨#[45]⟩ := ⟨_, rfl⟩
      obtain ⟨X2, hX2⟩ : ∃ X : ByteArray, X = X1 ++ ⟨dm.toArray⟩ := ⟨_, rfl⟩
      obtain ⟨X3, hX3⟩ : ∃ X : ByteArray, X = X2 ++ ⟨#[45]⟩ := ⟨_, rfl⟩
      obtain ⟨X4, hX4⟩ : ∃ X : ByteArray, X = X3 ++ ⟨dd.toArray⟩ := ⟨_, rfl⟩
      have z1 : X1.size ≤ 15 := by rw [hX1, ByteArray.size_append, mk_size dy, show (⟨#[45]⟩ : ByteArray).size = 1 from rfl]; omega
      have z2 : X2.size ≤ 30 := by rw [hX2, ByteArray.size_append, mk_size dm]; omega
      have z3 : X3.size ≤ 31 := by rw [hX3, ByteArray.size_append, show (⟨#[45]⟩ : ByteArray).size = 1 from rfl]; omega
      have a1 := fun W => run_string_add_sum (P := Tryz.prog) W ⟨dy.toArray⟩ ⟨#[45]⟩ (by rw [mk_size dy, show (⟨#[45]⟩ : ByteArray).size = 1 from rfl]; omega)
      have a2 := fun W => run_string_add_sum (P := Tryz.prog) W X1 ⟨dm.toArray⟩ (by rw [mk_size dm]; omega)
      have a3 := fun W => run_string_add_sum (P := Tryz.prog) W X2 ⟨#[45]⟩ (by rw [show (⟨#[45]⟩ : ByteArray).size = 1 from rfl]; omega)
      have a4 := fun W => run_string_add_sum (P := Tryz.prog) W X3 ⟨dd.toArray⟩ (by rw [mk_size dd]; omega)
      rw [← hX1] at a1
      rw [← hX2] at a2
      rw [← hX3] at a3
      rw [← hX4] at a4
      have HS := Lib.hid (show X4 = ⟨R.toArray⟩ by
        rw [hX4, hX3, hX2, hX1, hS, show (⟨#[45]⟩ : ByteArray) = ⟨[(45 : UInt8)].toArray⟩ from rfl]
        simp only [ByteArray.mk_append_mk])
      clear hy hS hX1 hX2 hX3 hX4 z1 z2 z3
      go_enter Tryz.func148, Tryz.ntmps148
      go_wp2_with (first | (go_at_call 171; refine (CDy.out _ (HG.out.below hP.below)).mono ?_; rintro e w2 ⟨rfl, hb2⟩; have d1 := hP.cell hb2 c1; have d2 := hP.cell hb2 c2; have hP2 := hP.step hb2; clear hb2) | (go_at_call 147; refine (CM.out _).mono ?_; rintro e w1 ⟨rfl, hb⟩; obtain ⟨hP, hc⟩ := boxed hb; have c0 : w1.cell? ⟨w.heap.size, 0, none⟩ = some (.int .i64 y) := hc 0 _ rfl; have c1 : w1.cell? ⟨w.heap.size, 1, none⟩ = some (.int .i64 m) := hc 1 _ rfl; have c2 : w1.cell? ⟨w.heap.size, 2, none⟩ = some (.int .i64 d) := hc 2 _ rfl; clear hc hb))
      go_region_held3 (fun W => W.cell? ⟨w.heap.size, 1, none⟩ = some (.int .i64 m) ∧ W.cell? ⟨w.heap.size, 2, none⟩ = some (.int .i64 d) ∧ Past w W)
        (first | exact ⟨d1, d2, hP2⟩ | exact Past.keep2 (W := w2) (Below.refl _ _).drew ⟨d1, d2, hP2⟩ | exact Past.keep2 (by assumption) (by assumption) | exact Past.keep2 (Below.refl _ _).drew (by assumption))
        (first
          | (go_at_call_of 171 m; refine (CDm.out _ ?_).mono ?_; (exact HG.out.below (‹_ ∧ _ ∧ Past w _›).2.2.below); rintro e w3 ⟨rfl, hb3⟩)
          | (go_at_call_of 171 d; refine (CDd.out _ ?_).mono ?_; (exact HG.out.below (‹_ ∧ _ ∧ Past w _›).2.2.below); rintro e w3 ⟨rfl, hb3⟩))
      all_goals
        have hP4 := (‹_ ∧ _ ∧ Past w _›).2.2
        go_wp2
        go_ret
        exact ⟨by rw [← HS.out]; rfl, hP4.below⟩
end Go.Proofs.YtcmoidldalgljaaGreatDoor
set_option linter.unusedVariables false
set_option linter.unusedSimpArgs false
namespace Go.Proofs.YtcmoidldalgljaaGreatDoor
open Go.RowKit

def Hen.dateOf (s : ByteArray) : Int × Int × Int :=
  if s.size = 7 then (0, numS (s.extract 2 4).data.toList, numS (s.extract 5 s.size).data.toList)
  else if s.size = 10 then (numS (s.extract 0 4).data.toList, numS (s.extract 5 7).data.toList, numS (s.extract 8 s.size).data.toList) else (0, 0, 0)
def Hen.dayE (s : ByteArray) : Int := if mayB (dateOf s).1 (dateOf s).2.1 (dateOf s).2.2 && (showS (dateOf s).1 (dateOf s).2.1 (dateOf s).2.2 == s.data.toList) then 0 else 1
/-- What Parse hands back. -/
def ParsePost (s : ByteArray) (w : World) (e : Ending) (w' : World) : Prop := ∃ y m d : Int, e = .returned (.tuple #[.agg #[.int .i64 y, .int .i64 m, .int .i64 d], .int .i64 (Hen.dayE s)]) ∧ Below w.heap.size w w'

theorem toList_data (s : ByteArray) : s.toList = s.data.toList := ByteArray.toList_eq s
theorem may_zero : Hen.mayB 0 0 0 = false := by decide

set_option maxHeartbeats 4000000 in
theorem dparse_calls (s : ByteArray) (w : World) (hs : s.size ≤ maxLen) (hG : GL w) : Calls Tryz.prog 131 #[.string s] w (ParsePost s w) := by
  unfold maxLen at hs
  have HPP := Lib.hid (show ∀ e w', (∃ y m d : Int, e = .returned (.tuple #[.agg #[.int .i64 y, .int .i64 m, .int .i64 d], .int .i64 (Hen.dayE s)]) ∧ Below w.heap.size w w') → ParsePost s w e w' from fun _ _ h => h)
  have hE : Hen.dayE s = if Hen.mayB (Hen.dateOf s).1 (Hen.dateOf s).2.1 (Hen.dateOf s).2.2 && (Hen.showS (Hen.dateOf s).1 (Hen.dateOf s).2.1 (Hen.dateOf s).2.2 == s.data.toList) then 0 else 1 := rfl
  have HG := Lib.hid hG
  clear hG
  by_cases h7 : s.size = 7
  · have hd : Hen.dateOf s = (0, Hen.numS (s.extract 2 4).data.toList, Hen.numS (s.extract 5 s.size).data.toList) := by unfold Hen.dateOf; rw [if_pos h7]
    rw [hd] at hE
    simp only at hE
    have c1 := fun W => number_calls (s.extract 2 4) W (by rw [ByteArray.size_extract]; omega)
    have c2 := fun W => number_calls (s.extract 5 s.size) W (by rw [ByteArray.size_extract]; omega)
    have e7 : ((s.size : Int) == 7) = true := by rw [beq_iff_eq]; omega
    have b7 : (7 : Int) ≤ s.size := by omega
    have b8 : (s.size : Int) ≤ 7 := by omega
    have b4 : (4 : Int) ≤ s.size := by omega
    have b5 : (5 : Int) ≤ s.size := by omega
    generalize Hen.numS (s.extract 2 4).data.toList = m at c1 hE
    generalize Hen.numS (s.extract 5 s.size).data.toList = d at c2 hE
    generalize Hen.dayE s = E at hE HPP
    have C1 := Lib.hid c1
    have C2 := Lib.hid c2
    have HE := Lib.hid hE
    clear hd h7 c1 c2 hE
    go_enter Tryz.func131, Tryz.ntmps131
    go_wp2
    go_region_with (first | (go_at_call_of 146 (s.extract 2 4); refine (C1.out _).mono ?_; rintro e w2 ⟨rfl, hw2⟩; subst hw2) | (go_at_call 146; refine (C2.out _).mono ?_; rintro e w2 ⟨rfl, hw2⟩; subst hw2))
    have cM := fun W => may_calls 0 m d W
    have cS := fun W (hW : GL W) => show_calls 0 m d W hW
    generalize Hen.showS 0 m d = sh at cS HE
    generalize Hen.mayB 0 m d = M at cM HE
    have CM := Lib.hid cM
    have CS := Lib.hid cS
    clear cM cS
    go_wp2_with fail
    refine (CM.out _).mono ?_
    rintro e w3 ⟨rfl, hb⟩
    obtain ⟨hc, hf⟩ := bcell hb
    have hz : w.heap.size + 2 ≤ w3.heap.size := by have := hb.size; simp at this; omega
    have q0 : w3.cell? ⟨w.heap.size, 0, none⟩ = some (.int .i64 0) := (hc _ _ (by simp; omega)).trans (by simp)
    have q1 : w3.cell? ⟨w.heap.size, 1, none⟩ = some (.int .i64 0) := (hc _ _ (by simp; omega)).trans (by simp)
    have q2 : w3.cell? ⟨w.heap.size, 2, none⟩ = some (.int .i64 0) := (hc _ _ (by simp; omega)).trans (by simp)
    have p0 : w3.cell? ⟨w.heap.size + 1, 0, none⟩ = some (.int .i64 0) := (hc _ _ (by simp)).trans (by simp)
    have p1 : w3.cell? ⟨w.heap.size + 1, 1, none⟩ = some (.int .i64 m) := (hc _ _ (by simp)).trans (by simp)
    have p2 : w3.cell? ⟨w.heap.size + 1, 2, none⟩ = some (.int .i64 d) := (hc _ _ (by simp)).trans (by simp)
    have f0 : w3.frozen? ⟨w.heap.size, 0, none⟩ = false := (hf _ _ (by simp; omega)).trans (by simp)
    have f1 : w3.frozen? ⟨w.heap.size, 1, none⟩ = false := (hf _ _ (by simp; omega)).trans (by simp)
    have f2 : w3.frozen? ⟨w.heap.size, 2, none⟩ = false := (hf _ _ (by simp; omega)).trans (by simp)
    have hB3 : Below w.heap.size w w3 := by
      refine below_step ?_ (by simp; omega) hb
      (repeat (first | exact Below.refl _ _ | refine Below.setCell ?_ (by simp) _ | refine Below.alloc ?_ (by first | exact Nat.le_refl _ | (simp; done) | (simp; omega)) _ | refine Below.drew ?_ | refine below_drawn ?_ _))
    clear hc hf hb
    cases M with
    | false =>
      obtain rfl : E = 1 := by rw [HE.out]; simp
      go_wp2
      refine bodyPost_ret (v := .tuple #[.agg #[.int .i64 0, .int .i64 0, .int .i64 0], .int .i64 1]) (by simp [results, Tryz.results131, go_sem, q0, q1, q2]) rfl (HPP.out _ _ ⟨0, 0, 0, rfl, ?_⟩)
      exact ((hB3.setCell (by simp) _).setCell (by simp) _).setCell (by simp) _
    | true =>
      go_wp2_with fail
      refine (CS.out _ (HG.out.below hB3)).mono ?_
      rintro e w4 ⟨rfl, hb⟩
      have q0' := (hb.cell (p := ⟨w.heap.size, 0, none⟩) (by simp; omega)).trans q0
      have q1' := (hb.cell (p := ⟨w.heap.size, 1, none⟩) (by simp; omega)).trans q1
      have q2' := (hb.cell (p := ⟨w.heap.size, 2, none⟩) (by simp; omega)).trans q2
      have p0' := (hb.cell (p := ⟨w.heap.size + 1, 0, none⟩) (by simp; omega)).trans p0
      have p1' := (hb.cell (p := ⟨w.heap.size + 1, 1, none⟩) (by simp; omega)).trans p1
      have p2' := (hb.cell (p := ⟨w.heap.size + 1, 2, none⟩) (by simp; omega)).trans p2
      have f0' := (hb.frozen (p := ⟨w.heap.size, 0, none⟩) (by simp; omega)).trans f0
      have f1' := (hb.frozen (p := ⟨w.heap.size, 1, none⟩) (by simp; omega)).trans f1
      have f2' := (hb.frozen (p := ⟨w.heap.size, 2, none⟩) (by simp; omega)).trans f2
      have hB4 := below_step hB3 hB3.size hb
      have hz4 : w.heap.size + 2 ≤ w4.heap.size := Nat.le_trans hz hb.size
      clear q0 q1 q2 p0 p1 p2 f0 f1 f2 hb hB3 hz
      by_cases hx : sh = s.data.toList
      · have e1 : (sh == s.toList) = true := by rw [beq_iff_eq, hx, toList_data]
        obtain rfl : E = 0 := by rw [HE.out, hx]; simp
        clear hx
        go_wp2
        refine bodyPost_ret (v := .tuple #[.agg #[.int .i64 0, .int .i64 m, .int .i64 d], .int .i64 0]) (by simp [results, Tryz.results131, go_sem, q0', q1', q2']) rfl (HPP.out _ _ ⟨0, m, d, rfl, ?_⟩)
        exact ((hB4.setCell (by simp) _).setCell (by simp) _).setCell (by simp) _
      · have e1 : (sh == s.toList) = false := by rw [beq_eq_false_iff_ne, toList_data]; exact hx
        obtain rfl : E = 1 := by rw [HE.out, ← toList_data, e1]; rfl
        clear hx
        go_wp2
        refine bodyPost_ret (v := .tuple #[.agg #[.int .i64 0, .int .i64 0, .int .i64 0], .int .i64 1]) (by simp [results, Tryz.results131, go_sem, q0', q1', q2']) rfl (HPP.out _ _ ⟨0, 0, 0, rfl, ?_⟩)
        exact ((hB4.setCell (by simp) _).setCell (by simp) _).setCell (by simp) _
  have b7' : ((s.size : Int) == 7) = false := by rw [beq_eq_false_iff_ne]; omega
  by_cases h10 : s.size = 10
  · have hd : Hen.dateOf s = (Hen.numS (s.extract 0 4).data.toList, Hen.numS (s.extract 5 7).data.toList, Hen.numS (s.extract 8 s.size).data.toList) := by unfold Hen.dateOf; rw [if_neg h7, if_pos h10]
    rw [hd] at hE
    simp only at hE
    have c0 := fun W => number_calls (s.extract 0 4) W (by rw [ByteArray.size_extract]; omega)
    have c1 := fun W => number_calls (s.extract 5 7) W (by rw [ByteArray.size_extract]; omega)
    have c2 := fun W => number_calls (s.extract 8 s.size) W (by rw [ByteArray.size_extract]; omega)
    have e7 : ((s.size : Int) == 10) = true := by rw [beq_iff_eq]; omega
    have b10 : (10 : Int) ≤ s.size := by omega
    have b11 : (s.size : Int) ≤ 10 := by omega
    have b4 : (4 : Int) ≤ s.size := by omega
    have b7 : (7 : Int) ≤ s.size := by omega
    have b8 : (8 : Int) ≤ s.size := by omega
    generalize Hen.numS (s.extract 0 4).data.toList = y at c0 hE
    generalize Hen.numS (s.extract 5 7).data.toList = m at c1 hE
    generalize Hen.numS (s.extract 8 s.size).data.toList = d at c2 hE
    generalize Hen.dayE s = E at hE HPP
    have C0 := Lib.hid c0
    have C1 := Lib.hid c1
    have C2 := Lib.hid c2
    have HE := Lib.hid hE
    clear hd h7 h10 c0 c1 c2 hE
    go_enter Tryz.func131, Tryz.ntmps131
    go_wp2
    go_region_with (first | (go_at_call_of 146 (s.extract 0 4); refine (C0.out _).mono ?_; rintro e w2 ⟨rfl, hw2⟩; subst hw2) | (go_at_call_of 146 (s.extract 5 7); refine (C1.out _).mono ?_; rintro e w2 ⟨rfl, hw2⟩; subst hw2) | (go_at_call 146; refine (C2.out _).mono ?_; rintro e w2 ⟨rfl, hw2⟩; subst hw2))
    have cM := fun W => may_calls y m d W
    have cS := fun W (hW : GL W) => show_calls y m d W hW
    generalize Hen.showS y m d = sh at cS HE
    generalize Hen.mayB y m d = M at cM HE
    have CM := Lib.hid cM
    have CS := Lib.hid cS
    clear cM cS
    go_wp2_with fail
    refine (CM.out _).mono ?_
    rintro e w3 ⟨rfl, hb⟩
    obtain ⟨hc, hf⟩ := bcell hb
    have hz : w.heap.size + 2 ≤ w3.heap.size := by have := hb.size; simp at this; omega
    have q0 : w3.cell? ⟨w.heap.size, 0, none⟩ = some (.int .i64 0) := (hc _ _ (by simp; omega)).trans (by simp)
    have q1 : w3.cell? ⟨w.heap.size, 1, none⟩ = some (.int .i64 0) := (hc _ _ (by simp; omega)).trans (by simp)
    have q2 : w3.cell? ⟨w.heap.size, 2, none⟩ = some (.int .i64 0) := (hc _ _ (by simp; omega)).trans (by simp)
    have p0 : w3.cell? ⟨w.heap.size + 1, 0, none⟩ = some (.int .i64 y) := (hc _ _ (by simp)).trans (by simp)
    have p1 : w3.cell? ⟨w.heap.size + 1, 1, none⟩ = some (.int .i64 m) := (hc _ _ (by simp)).trans (by simp)
    have p2 : w3.cell? ⟨w.heap.size + 1, 2, none⟩ = some (.int .i64 d) := (hc _ _ (by simp)).trans (by simp)
    have f0 : w3.frozen? ⟨w.heap.size, 0, none⟩ = false := (hf _ _ (by simp; omega)).trans (by simp)
    have f1 : w3.frozen? ⟨w.heap.size, 1, none⟩ = false := (hf _ _ (by simp; omega)).trans (by simp)
    have f2 : w3.frozen? ⟨w.heap.size, 2, none⟩ = false := (hf _ _ (by simp; omega)).trans (by simp)
    have hB3 : Below w.heap.size w w3 := by
      refine below_step ?_ (by simp; omega) hb
      (repeat (first | exact Below.refl _ _ | refine Below.setCell ?_ (by simp) _ | refine Below.alloc ?_ (by first | exact Nat.le_refl _ | (simp; done) | (simp; omega)) _ | refine Below.drew ?_ | refine below_drawn ?_ _))
    clear hc hf hb
    cases M with
    | false =>
      obtain rfl : E = 1 := by rw [HE.out]; simp
      go_wp2
      refine bodyPost_ret (v := .tuple #[.agg #[.int .i64 0, .int .i64 0, .int .i64 0], .int .i64 1]) (by simp [results, Tryz.results131, go_sem, q0, q1, q2]) rfl (HPP.out _ _ ⟨0, 0, 0, rfl, ?_⟩)
      exact ((hB3.setCell (by simp) _).setCell (by simp) _).setCell (by simp) _
    | true =>
      go_wp2_with fail
      refine (CS.out _ (HG.out.below hB3)).mono ?_
      rintro e w4 ⟨rfl, hb⟩
      have q0' := (hb.cell (p := ⟨w.heap.size, 0, none⟩) (by simp; omega)).trans q0
      have q1' := (hb.cell (p := ⟨w.heap.size, 1, none⟩) (by simp; omega)).trans q1
      have q2' := (hb.cell (p := ⟨w.heap.size, 2, none⟩) (by simp; omega)).trans q2
      have p0' := (hb.cell (p := ⟨w.heap.size + 1, 0, none⟩) (by simp; omega)).trans p0
      have p1' := (hb.cell (p := ⟨w.heap.size + 1, 1, none⟩) (by simp; omega)).trans p1
      have p2' := (hb.cell (p := ⟨w.heap.size + 1, 2, none⟩) (by simp; omega)).trans p2
      have f0' := (hb.frozen (p := ⟨w.heap.size, 0, none⟩) (by simp; omega)).trans f0
      have f1' := (hb.frozen (p := ⟨w.heap.size, 1, none⟩) (by simp; omega)).trans f1
      have f2' := (hb.frozen (p := ⟨w.heap.size, 2, none⟩) (by simp; omega)).trans f2
      have hB4 := below_step hB3 hB3.size hb
      have hz4 : w.heap.size + 2 ≤ w4.heap.size := Nat.le_trans hz hb.size
      clear q0 q1 q2 p0 p1 p2 f0 f1 f2 hb hB3 hz
      by_cases hx : sh = s.data.toList
      · have e1 : (sh == s.toList) = true := by rw [beq_iff_eq, hx, toList_data]
        obtain rfl : E = 0 := by rw [HE.out, hx]; simp
        clear hx
        go_wp2
        refine bodyPost_ret (v := .tuple #[.agg #[.int .i64 y, .int .i64 m, .int .i64 d], .int .i64 0]) (by simp [results, Tryz.results131, go_sem, q0', q1', q2']) rfl (HPP.out _ _ ⟨y, m, d, rfl, ?_⟩)
        exact ((hB4.setCell (by simp) _).setCell (by simp) _).setCell (by simp) _
      · have e1 : (sh == s.toList) = false := by rw [beq_eq_false_iff_ne, toList_data]; exact hx
        obtain rfl : E = 1 := by rw [HE.out, ← toList_data, e1]; rfl
        clear hx
        go_wp2
        refine bodyPost_ret (v := .tuple #[.agg #[.int .i64 0, .int .i64 0, .int .i64 0], .int .i64 1]) (by simp [results, Tryz.results131, go_sem, q0', q1', q2']) rfl (HPP.out _ _ ⟨0, 0, 0, rfl, ?_⟩)
        exact ((hB4.setCell (by simp) _).setCell (by simp) _).setCell (by simp) _
  · have hd : Hen.dateOf s = (0, 0, 0) := by unfold Hen.dateOf; rw [if_neg h7, if_neg h10]
    rw [hd] at hE
    simp only at hE
    rw [may_zero] at hE
    have cM := fun W => may_calls 0 0 0 W
    rw [may_zero] at cM
    have CM := Lib.hid cM
    have b10 : ((s.size : Int) == 10) = false := by rw [beq_eq_false_iff_ne]; omega
    generalize Hen.dayE s = E at hE HPP
    obtain rfl : E = 1 := by rw [hE]; simp
    clear hd h7 h10 hE cM
    go_enter Tryz.func131, Tryz.ntmps131
    go_wp2_with fail
    refine (CM.out _).mono ?_
    rintro e w3 ⟨rfl, hb⟩
    obtain ⟨hc, hf⟩ := bcell hb
    have hz : w.heap.size + 2 ≤ w3.heap.size := by have := hb.size; simp at this; omega
    have q0 : w3.cell? ⟨w.heap.size, 0, none⟩ = some (.int .i64 0) := (hc _ _ (by simp; omega)).trans (by simp)
    have q1 : w3.cell? ⟨w.heap.size, 1, none⟩ = some (.int .i64 0) := (hc _ _ (by simp; omega)).trans (by simp)
    have q2 : w3.cell? ⟨w.heap.size, 2, none⟩ = some (.int .i64 0) := (hc _ _ (by simp; omega)).trans (by simp)
    have p0 : w3.cell? ⟨w.heap.size + 1, 0, none⟩ = some (.int .i64 0) := (hc _ _ (by simp)).trans (by simp)
    have p1 : w3.cell? ⟨w.heap.size + 1, 1, none⟩ = some (.int .i64 0) := (hc _ _ (by simp)).trans (by simp)
    have p2 : w3.cell? ⟨w.heap.size + 1, 2, none⟩ = some (.int .i64 0) := (hc _ _ (by simp)).trans (by simp)
    have f0 : w3.frozen? ⟨w.heap.size, 0, none⟩ = false := (hf _ _ (by simp; omega)).trans (by simp)
    have f1 : w3.frozen? ⟨w.heap.size, 1, none⟩ = false := (hf _ _ (by simp; omega)).trans (by simp)
    have f2 : w3.frozen? ⟨w.heap.size, 2, none⟩ = false := (hf _ _ (by simp; omega)).trans (by simp)
    have hB3 : Below w.heap.size w w3 := by
      refine below_step ?_ (by simp; omega) hb
      (repeat (first | exact Below.refl _ _ | refine Below.setCell ?_ (by simp) _ | refine Below.alloc ?_ (by first | exact Nat.le_refl _ | (simp; done) | (simp; omega)) _ | refine Below.drew ?_ | refine below_drawn ?_ _))
    clear hc hf hb
    go_wp2
    refine bodyPost_ret (v := .tuple #[.agg #[.int .i64 0, .int .i64 0, .int .i64 0], .int .i64 1]) (by simp [results, Tryz.results131, go_sem, q0, q1, q2]) rfl (HPP.out _ _ ⟨0, 0, 0, rfl, ?_⟩)
    exact ((hB3.setCell (by simp) _).setCell (by simp) _).setCell (by simp) _
end Go.Proofs.YtcmoidldalgljaaGreatDoor

/-
  Contracts: fold.Fold, ident.UID, tel.row, tel.Is, mail.isLocal, mail.isLabel; for every string.
-/
import Derived.Test.YtcmoidldalgljaaGreatDoorPa
import Derived.Lib.ConvBytes
set_option linter.unusedVariables false
set_option linter.unusedSimpArgs false
namespace Go.Proofs.YtcmoidldalgljaaGreatDoor
open Go.RowKit

namespace Hen
def uidRest (c : UInt8) : Bool := smallN c.toNat || (decide (65 ≤ c.toNat) && decide (c.toNat ≤ 90)) || decide (c.toNat = 45) || decide (c.toNat = 46) || decide (c.toNat = 95) || decide (c.toNat = 64)
def uidB (l : List UInt8) : Bool := decide (1 ≤ l.length) && decide (l.length ≤ 24) && l.all uidRest
def digB (c : UInt8) : Bool := decide (48 ≤ c.toNat) && decide (c.toNat ≤ 57)
/-- tel's digits behind a '+'. -/
def plusless (l : List UInt8) : List UInt8 := Lib.trimPrefix l [43]
def rowB (l : List UInt8) : Bool := decide (3 ≤ (plusless l).length) && decide ((plusless l).length ≤ 15) && (plusless l).all digB
def localRest (c : UInt8) : Bool := (decide (97 ≤ c.toNat) && decide (c.toNat ≤ 122)) || (decide (65 ≤ c.toNat) && decide (c.toNat ≤ 90)) || digB c || decide (c.toNat = 46) || decide (c.toNat = 95) || decide (c.toNat = 43) || decide (c.toNat = 45)
def localB (l : List UInt8) : Bool := decide (1 ≤ l.length) && decide (l.length ≤ 32) && !decide (at0 l 0 = 46) && !decide (at0 l (l.length - 1) = 46) && !Lib.contains l [46, 46] && l.all localRest
def labelRest (c : UInt8) : Bool := (decide (97 ≤ c.toNat) && decide (c.toNat ≤ 122)) || digB c || decide (c.toNat = 45)
def labelB (l : List UInt8) : Bool := decide (1 ≤ l.length) && decide (l.length ≤ 20) && !decide (at0 l 0 = 45) && !decide (at0 l (l.length - 1) = 45) && l.all labelRest
end Hen

set_option maxHeartbeats 1000000 in
theorem uid_calls (s : ByteArray) (w : World) (hs : s.size ≤ maxLen) : Calls Tryz.prog 67 #[.string s] w fun e w' => e = .returned (.bool (Hen.uidB s.data.toList)) ∧ w = w' := by
  unfold maxLen at hs
  have hl : s.data.toList.length = s.size := by simp
  rcases Nat.lt_or_ge s.size 1 with h1 | h1
  · have e : Hen.uidB s.data.toList = false := by unfold Hen.uidB; rw [hl, decide_eq_false (by omega)]; rfl
    have b1 : (s.size : Int) < 1 := by omega
    rw [e]
    clear hl
    go_enter Tryz.func67, Tryz.ntmps67
    go_wp2
    go_ret
    exact ⟨rfl, rfl⟩
  have b1 : (1 : Int) ≤ s.size := by omega
  rcases Nat.lt_or_ge 24 s.size with h2 | h2
  · have e : Hen.uidB s.data.toList = false := by unfold Hen.uidB; rw [hl, decide_eq_false (show ¬ s.size ≤ 24 by omega)]; simp
    have b2 : (24 : Int) < s.size := by omega
    rw [e]
    clear hl
    go_enter Tryz.func67, Tryz.ntmps67
    go_wp2
    go_ret
    exact ⟨rfl, rfl⟩
  have b2 : (s.size : Int) ≤ 24 := by omega
  have HN := Lib.hid (show Hen.uidB s.data.toList = s.data.toList.all Hen.uidRest by unfold Hen.uidB; rw [hl, decide_eq_true h1, decide_eq_true h2]; rfl)
  clear hl
  go_enter Tryz.func67, Tryz.ntmps67
  go_wp2
  go_loop [15] (fun c => ∃ k : Nat, k ≤ s.size ∧ c = .int .i64 k ∧ Hid ((s.data.toList.take k).all Hen.uidRest = true)) (fun c => s.size - (intOf c).toNat)
  case atStart => exact ⟨0, Nat.zero_le _, rfl, rfl⟩
  case round =>
    obtain ⟨k, hk, rfl, HK⟩ := hrel
    by_cases hlt : k < s.size
    · have HT := Lib.hid (take_all s Hen.uidRest k hlt)
      have hi : s[k].toNat ≤ 44 ∨ (45 ≤ s[k].toNat ∧ s[k].toNat ≤ 45) ∨ (46 ≤ s[k].toNat ∧ s[k].toNat ≤ 46) ∨ (47 ≤ s[k].toNat ∧ s[k].toNat ≤ 47) ∨ (48 ≤ s[k].toNat ∧ s[k].toNat ≤ 57) ∨ (58 ≤ s[k].toNat ∧ s[k].toNat ≤ 63) ∨ (64 ≤ s[k].toNat ∧ s[k].toNat ≤ 64) ∨ (65 ≤ s[k].toNat ∧ s[k].toNat ≤ 90) ∨ (91 ≤ s[k].toNat ∧ s[k].toNat ≤ 94) ∨ (95 ≤ s[k].toNat ∧ s[k].toNat ≤ 95) ∨ (96 ≤ s[k].toNat ∧ s[k].toNat ≤ 96) ∨ (97 ≤ s[k].toNat ∧ s[k].toNat ≤ 122) ∨ 123 ≤ s[k].toNat := by omega
      rcases hi with h | h | h | h | h | h | h | h | h | h | h | h | h
      all_goals first
        | (have hs1 : Hen.smallN s[k].toNat = true := by simp [Hen.smallN]; omega
           have HH := Lib.hid h
           clear h
           go_wp2_with (go_at_call 84; refine (small_calls _ _).mono ?_; rintro e w' ⟨rfl, rfl⟩)
           go_round
           case rel => exact ⟨k + 1, by omega, by go_num, by unfold Hid; rw [HT.out, HK.out]; simp [Hen.uidRest, hs1]⟩
           case measure => simp [intOf]; omega)
        | (have hs1 : Hen.smallN s[k].toNat = false := by simp [Hen.smallN]; omega
           first | have n45 : ((s[k].toNat : Int) != 45) = true := by (rw [bne_iff_ne]; omega) | have n45 : ((s[k].toNat : Int) != 45) = false := by (rw [bne_eq_false_iff_eq]; omega)
           first | have n46 : ((s[k].toNat : Int) != 46) = true := by (rw [bne_iff_ne]; omega) | have n46 : ((s[k].toNat : Int) != 46) = false := by (rw [bne_eq_false_iff_eq]; omega)
           first | have n95 : ((s[k].toNat : Int) != 95) = true := by (rw [bne_iff_ne]; omega) | have n95 : ((s[k].toNat : Int) != 95) = false := by (rw [bne_eq_false_iff_eq]; omega)
           first | have n64 : ((s[k].toNat : Int) != 64) = true := by (rw [bne_iff_ne]; omega) | have n64 : ((s[k].toNat : Int) != 64) = false := by (rw [bne_eq_false_iff_eq]; omega)
           go_wp2_with (go_at_call 84; refine (small_calls _ _).mono ?_; rintro e w' ⟨rfl, rfl⟩)
           first
             | (go_round
                case rel => exact ⟨k + 1, by omega, by go_num, by unfold Hid; rw [HT.out, HK.out]; simp [Hen.uidRest, hs1]; omega⟩
                case measure => simp [intOf]; omega)
             | (go_ret
                exact ⟨ret_bool (HN.out.trans (all_false_of (k := k + 1) (by rw [HT.out, HK.out]; simp [Hen.uidRest, hs1]; omega))).symm, rfl⟩))
    · obtain rfl : k = s.size := by omega
      go_wp2
      go_ret
      exact ⟨ret_bool (by rw [HN.out, ← all_take_size, HK.out]), rfl⟩

/-- The head of the loop over the digits: how the row reads. -/
def Hen.rowS (l : List UInt8) : List UInt8 × Bool := if rowB l then (plusless l, true) else ([], false)
theorem rowS_no {l : List UInt8} (h : Hen.rowB l = false) : Hen.rowS l = ([], false) := by unfold Hen.rowS; rw [h]; rfl
theorem rowS_yes {l : List UInt8} (h : Hen.rowB l = true) : Hen.rowS l = (Hen.plusless l, true) := by unfold Hen.rowS; rw [h]; rfl

set_option maxHeartbeats 1000000 in
theorem row_calls (s : ByteArray) (w : World) (hs : s.size ≤ maxLen) : Calls Tryz.prog 166 #[.string s] w fun e w' => e = .returned (.tuple #[.string ⟨(Hen.rowS s.data.toList).1.toArray⟩, .bool (Hen.rowS s.data.toList).2]) ∧ w = w' := by
  unfold maxLen at hs
  have cT := Tryz.strings_TrimPrefix s ⟨#[43]⟩ w
  have hpl : (Hen.plusless s.data.toList).length ≤ s.size := by
    unfold Hen.plusless Lib.trimPrefix
    split
    · simp
    · simp
  have hp0 : Lib.trimPrefix s.data.toList (⟨#[43]⟩ : ByteArray).data.toList = Hen.plusless s.data.toList := rfl
  rw [hp0] at cT
  have hR : Hen.rowB s.data.toList = (decide (3 ≤ (Hen.plusless s.data.toList).length) && decide ((Hen.plusless s.data.toList).length ≤ 15) && (Hen.plusless s.data.toList).all Hen.digB) := rfl
  have hN := @rowS_no s.data.toList
  have hY := @rowS_yes s.data.toList
  obtain ⟨d, hd⟩ : ∃ d : ByteArray, d = ⟨(Hen.plusless s.data.toList).toArray⟩ := ⟨_, rfl⟩
  have hd2 : Hen.plusless s.data.toList = d.data.toList := by rw [hd]
  rw [← hd] at cT
  rw [hd2] at hpl hR hY
  have hl : d.data.toList.length = d.size := by simp
  rw [hl] at hpl hR
  have CT := Lib.hid cT
  clear cT hp0 hd hd2 hl
  generalize Hen.rowS s.data.toList = R at hN hY ⊢
  rcases Nat.lt_or_ge d.size 3 with h1 | h1
  · have b1 : (d.size : Int) < 3 := by omega
    obtain rfl := hN (by rw [hR, decide_eq_false (by omega)]; rfl)
    clear hN hY hR
    go_enter Tryz.func166, Tryz.ntmps166
    go_wp2_with (go_at_call 182; refine CT.out.mono ?_; rintro e w' ⟨rfl, rfl⟩)
    go_ret2
    exact ⟨rfl, rfl⟩
  have b1 : (3 : Int) ≤ d.size := by omega
  rcases Nat.lt_or_ge 15 d.size with h2 | h2
  · have b2 : (15 : Int) < d.size := by omega
    obtain rfl := hN (by rw [hR, decide_eq_false (show ¬ d.size ≤ 15 by omega)]; simp)
    clear hN hY hR
    go_enter Tryz.func166, Tryz.ntmps166
    go_wp2_with (go_at_call 182; refine CT.out.mono ?_; rintro e w' ⟨rfl, rfl⟩)
    go_ret2
    exact ⟨rfl, rfl⟩
  have b2 : (d.size : Int) ≤ 15 := by omega
  rw [decide_eq_true h1, decide_eq_true h2, Bool.true_and, Bool.true_and] at hR
  have HR := Lib.hid hR
  have HN := Lib.hid hN
  have HY := Lib.hid hY
  clear hR hN hY
  go_enter Tryz.func166, Tryz.ntmps166
  go_wp2_with (go_at_call 182; refine CT.out.mono ?_; rintro e w' ⟨rfl, rfl⟩)
  go_loop [18] (fun c => ∃ k : Nat, k ≤ d.size ∧ c = .int .i64 k ∧ Hid ((d.data.toList.take k).all Hen.digB = true)) (fun c => d.size - (intOf c).toNat)
  case atStart => exact ⟨0, Nat.zero_le _, rfl, rfl⟩
  case round =>
    obtain ⟨k, hk, rfl, HK⟩ := hrel
    by_cases hlt : k < d.size
    · have HT := Lib.hid (take_all d Hen.digB k hlt)
      have hi : d[k].toNat ≤ 47 ∨ (48 ≤ d[k].toNat ∧ d[k].toNat ≤ 57) ∨ 58 ≤ d[k].toNat := by omega
      rcases hi with h | h | h
      all_goals
        first
          | (have hp := Lib.hid (show Hen.digB d[k] = true by simp [Hen.digB, Hen.digB, Hen.smallN]; omega)
             go_wp2
             go_round
             case rel => exact ⟨k + 1, by omega, by go_num, by unfold Hid; rw [HT.out, HK.out, hp.out]; rfl⟩
             case measure => simp [intOf]; omega)
          | (have HB1 := Lib.hid (all_false_of (k := k + 1) (show (d.data.toList.take (k + 1)).all Hen.digB = false by rw [HT.out, HK.out, show Hen.digB d[k] = false by simp [Hen.digB, Hen.digB, Hen.smallN]; omega]; rfl))
             go_wp2
             go_ret2
             exact ⟨by rw [HN.out (by rw [HR.out, HB1.out])]; rfl, rfl⟩)
    · obtain rfl : k = d.size := by omega
      go_wp2
      go_ret2
      exact ⟨by rw [HY.out (by rw [HR.out, ← all_take_size, HK.out])]; rfl, rfl⟩

theorem tel_is_calls (s : ByteArray) (w : World) (hs : s.size ≤ maxLen) : Calls Tryz.prog 141 #[.string s] w fun e w' => e = .returned (.bool (Hen.rowB s.data.toList)) ∧ w = w' := by
  have h2 : (Hen.rowS s.data.toList).2 = Hen.rowB s.data.toList := by unfold Hen.rowS; cases Hen.rowB s.data.toList <;> rfl
  have cR := row_calls s w hs
  rw [h2] at cR
  have CR := Lib.hid cR
  clear cR h2
  go_enter Tryz.func141, Tryz.ntmps141
  go_wp2_with (go_at_call 166; refine CR.out.mono ?_; rintro e w' ⟨rfl, rfl⟩)
  go_ret
  exact ⟨rfl, rfl⟩

set_option maxHeartbeats 2000000 in
theorem label_calls (s : ByteArray) (w : World) (hs : s.size ≤ maxLen) : Calls Tryz.prog 185 #[.string s] w fun e w' => e = .returned (.bool (Hen.labelB s.data.toList)) ∧ w = w' := by
  unfold maxLen at hs
  have hl : s.data.toList.length = s.size := by simp
  have hR : Hen.labelB s.data.toList = (decide (1 ≤ s.size) && decide (s.size ≤ 20) && !decide (Hen.at0 s.data.toList 0 = 45) && !decide (Hen.at0 s.data.toList (s.size - 1) = 45) && s.data.toList.all Hen.labelRest) := by unfold Hen.labelB; rw [hl]
  clear hl
  have H0 := Lib.hid (byte_at0 s 0)
  have H1 := Lib.hid (byte_at0 s (s.size - 1))
  generalize Hen.labelB s.data.toList = R at hR ⊢
  rcases Nat.lt_or_ge s.size 1 with h1 | h1
  · have b1 : (s.size : Int) < 1 := by omega
    obtain rfl : R = false := by rw [hR, decide_eq_false (by omega)]; rfl
    clear hR
    go_enter Tryz.func185, Tryz.ntmps185
    go_wp2
    go_ret
    exact ⟨rfl, rfl⟩
  have b1 : (1 : Int) ≤ s.size := by omega
  rcases Nat.lt_or_ge 20 s.size with h2 | h2
  · have b2 : (20 : Int) < s.size := by omega
    obtain rfl : R = false := by rw [hR, decide_eq_false (show ¬ s.size ≤ 20 by omega)]; simp
    clear hR
    go_enter Tryz.func185, Tryz.ntmps185
    go_wp2
    go_ret
    exact ⟨rfl, rfl⟩
  have b2 : (s.size : Int) ≤ 20 := by omega
  have p0 : 0 < s.size := by omega
  have p1 : s.size - 1 < s.size := by omega
  by_cases h3 : Hen.at0 s.data.toList 0 = 45
  · have b3 : (((s[0]'p0).toNat : Int) == 45) = true := by rw [beq_iff_eq, H0.out p0, h3]; rfl
    obtain rfl : R = false := by rw [hR, decide_eq_true h3]; simp
    clear hR h3
    go_enter Tryz.func185, Tryz.ntmps185
    go_wp2
    go_ret
    exact ⟨rfl, rfl⟩
  have b3 : (((s[0]'p0).toNat : Int) == 45) = false := by rw [beq_eq_false_iff_ne, H0.out p0]; omega
  by_cases h4 : Hen.at0 s.data.toList (s.size - 1) = 45
  · have b4 : (((s[s.size - 1]'p1).toNat : Int) == 45) = true := by rw [beq_iff_eq, H1.out p1, h4]; rfl
    obtain rfl : R = false := by rw [hR, decide_eq_true h4]; simp
    clear hR h3 h4
    go_enter Tryz.func185, Tryz.ntmps185
    go_wp2
    go_ret
    exact ⟨rfl, rfl⟩
  have b4 : (((s[s.size - 1]'p1).toNat : Int) == 45) = false := by rw [beq_eq_false_iff_ne, H1.out p1]; omega
  rw [decide_eq_true h1, decide_eq_true h2, decide_eq_false h3, decide_eq_false h4] at hR
  have HR := Lib.hid hR
  clear hR h3 h4 H0 H1
  go_enter Tryz.func185, Tryz.ntmps185
  go_wp2
  go_loop [28] (fun c => ∃ k : Nat, k ≤ s.size ∧ c = .int .i64 k ∧ Hid ((s.data.toList.take k).all Hen.labelRest = true)) (fun c => s.size - (intOf c).toNat)
  case atStart => exact ⟨0, Nat.zero_le _, rfl, rfl⟩
  case round =>
    obtain ⟨k, hk, rfl, HK⟩ := hrel
    by_cases hlt : k < s.size
    · have HT := Lib.hid (take_all s Hen.labelRest k hlt)
      have hi : s[k].toNat ≤ 44 ∨ (45 ≤ s[k].toNat ∧ s[k].toNat ≤ 45) ∨ (46 ≤ s[k].toNat ∧ s[k].toNat ≤ 47) ∨ (48 ≤ s[k].toNat ∧ s[k].toNat ≤ 57) ∨ (58 ≤ s[k].toNat ∧ s[k].toNat ≤ 96) ∨ (97 ≤ s[k].toNat ∧ s[k].toNat ≤ 122) ∨ 123 ≤ s[k].toNat := by omega
      rcases hi with h | h | h | h | h | h | h
      all_goals
        first | have n45 : ((s[k].toNat : Int) != 45) = true := by (rw [bne_iff_ne]; omega) | have n45 : ((s[k].toNat : Int) != 45) = false := by (rw [bne_eq_false_iff_eq]; omega)
        first
          | (have hp := Lib.hid (show Hen.labelRest s[k] = true by simp [Hen.labelRest, Hen.digB, Hen.smallN]; omega)
             go_wp2
             go_round
             case rel => exact ⟨k + 1, by omega, by go_num, by unfold Hid; rw [HT.out, HK.out, hp.out]; rfl⟩
             case measure => simp [intOf]; omega)
          | (have HB1 := Lib.hid (all_false_of (k := k + 1) (show (s.data.toList.take (k + 1)).all Hen.labelRest = false by rw [HT.out, HK.out, show Hen.labelRest s[k] = false by simp [Hen.labelRest, Hen.digB, Hen.smallN]; omega]; rfl))
             go_wp2
             go_ret
             exact ⟨ret_bool (by rw [HR.out, HB1.out]; rfl), rfl⟩)
    · obtain rfl : k = s.size := by omega
      go_wp2
      go_ret
      exact ⟨ret_bool (by rw [HR.out, ← all_take_size, HK.out]; rfl), rfl⟩
end Go.Proofs.YtcmoidldalgljaaGreatDoor

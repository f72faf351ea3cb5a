/-
  Plain law: what req.Encode lays is read again as it was; cut off or with a byte more it is of no form.
-/
import Derived.Test.YtcmoidldalgljaaGreatDoorPo
import Derived.Test.YtcmoidldalgljaaGreatDoorPn
set_option linter.unusedVariables false
set_option linter.unusedSimpArgs false
namespace Go.Proofs.YtcmoidldalgljaaGreatDoor
open Go.RowKit
open Hen

namespace Hen
abbrev Rd (α : Type) := List UInt8 → St → α × St
def bindQ {α β : Type} (f : Rd α) (g : α → Rd β) : Rd β := fun l s => g (f l s).1 l (f l s).2
def retQ {α : Type} (a : α) : Rd α := fun _ s => (a, s)
def optQ {α : Type} (b : Bool) (f : Rd α) (z : α) : Rd α := fun l s => if b then f l s else (z, s)
def orQ (b : Bool) : Rd Unit := fun _ s => ((), s.or b)
def decF (h : List Bool) (k : Int) : Rd Rq :=
  bindQ (optQ (h.getD 0 false) textQ []) fun t => bindQ (optQ (h.getD 1 false) textQ []) fun c => bindQ (optQ (h.getD 2 false) textQ []) fun u => bindQ (optQ (h.getD 3 false) textQ []) fun d =>
  bindQ (optQ (h.getD 4 false) condQ (0, 0)) fun y => bindQ (optQ (h.getD 5 false) opsQ []) fun o => bindQ (optQ (h.getD 6 false) longQ 0) fun n => bindQ (optQ (h.getD 7 false) numQ 0) fun m => bindQ (optQ (h.getD 8 false) numQ 0) fun i =>
  retQ ⟨k, ⟨t.toArray⟩, ⟨c.toArray⟩, ⟨u.toArray⟩, ⟨d.toArray⟩, y.1, y.2, o, n, m, i⟩
def zeroQ : Rq := ⟨0, ⟨#[]⟩, ⟨#[]⟩, ⟨#[]⟩, ⟨#[]⟩, 0, 0, [], 0, 0, 0⟩
def decE (k : Int) (l : List UInt8) : Int :=
  if isK k = false then 12 else if (decF (hasL k) k l ⟨0, 0, false⟩).2.bad = true ∨ (decF (hasL k) k l ⟨0, 0, false⟩).2.e ≠ 0 ∨ (decF (hasL k) k l ⟨0, 0, false⟩).2.p < l.length then 1 else checkE (decF (hasL k) k l ⟨0, 0, false⟩).1
def decR (k : Int) (l : List UInt8) : Rq := if decE k l = 0 then (decF (hasL k) k l ⟨0, 0, false⟩).1 else zeroQ
/-- A reader that reads just these bytes as that; of bytes cut off it makes an error. -/
structure Good {α : Type} (f : Rd α) (bs : List UInt8) (a : α) : Prop where
  whole : ∀ pre suf, f (pre ++ (bs ++ suf)) ⟨pre.length, 0, false⟩ = (a, ⟨pre.length + bs.length, 0, false⟩)
  cut : ∀ pre c d, bs = c ++ d → d ≠ [] → (f (pre ++ c) ⟨pre.length, 0, false⟩).2.e ≠ 0
def Sticky {α : Type} (f : Rd α) : Prop := ∀ l s, s.e ≠ 0 → (f l s).2.e ≠ 0

section
variable {α β : Type}
theorem Good.ret (a : α) : Good (retQ a) [] a := ⟨fun _ _ => rfl, fun _ c d h hd => absurd (List.append_eq_nil_iff.1 h.symm).2 hd⟩
theorem Good.or : Good (orQ false) [] () := ⟨fun _ _ => rfl, fun _ c d h hd => absurd (List.append_eq_nil_iff.1 h.symm).2 hd⟩
theorem Sticky.ret (a : α) : Sticky (retQ a) := fun _ _ h => h
theorem Sticky.or (b : Bool) : Sticky (orQ b) := fun _ _ h => h
theorem Sticky.bind {f : Rd α} {g : α → Rd β} (hf : Sticky f) (hg : ∀ x, Sticky (g x)) : Sticky (bindQ f g) := fun l s h => hg _ _ _ (hf l s h)
theorem Sticky.opt {f : Rd α} (b : Bool) (z : α) (hf : Sticky f) : Sticky (optQ b f z) := fun l s h => by
  unfold optQ; split
  · exact hf l s h
  · exact h
theorem Good.congr {f g : Rd α} {bs : List UInt8} {a : α} (h : ∀ l p, f l ⟨p, 0, false⟩ = g l ⟨p, 0, false⟩) (hg : Good g bs a) : Good f bs a :=
  ⟨fun pre suf => (h _ _).trans (hg.whole pre suf), fun pre c d e hd => by rw [h]; exact hg.cut pre c d e hd⟩
theorem Good.opt {f : Rd α} {bs : List UInt8} {a : α} (b : Bool) (z : α) (hf : b = true → Good f bs a) (hz : b = false → a = z) : Good (optQ b f z) (if b then bs else []) a := by
  cases b with
  | true => exact (hf rfl).congr fun _ _ => rfl
  | false => rw [hz rfl]; exact (Good.ret z).congr fun _ _ => rfl
theorem Good.bind {f : Rd α} {g : α → Rd β} {b1 b2 : List UInt8} {a : α} {b : β} (hf : Good f b1 a) (hg : Good (g a) b2 b) (hs : ∀ x, Sticky (g x)) : Good (bindQ f g) (b1 ++ b2) b where
  whole := fun pre suf => by
    unfold bindQ
    rw [List.append_assoc, hf.whole pre (b2 ++ suf)]
    have := hg.whole (pre ++ b1) suf
    rw [List.append_assoc] at this
    simp only [List.length_append] at this ⊢
    rw [this, Nat.add_assoc]
  cut := fun pre c d e hd => by
    have mid : ∀ c', (∃ d', b2 = c' ++ d' ∧ d' ≠ []) → (bindQ f g (pre ++ (b1 ++ c')) ⟨pre.length, 0, false⟩).2.e ≠ 0 := by
      rintro c' ⟨d', e', hd'⟩
      unfold bindQ
      rw [hf.whole pre c']
      have := hg.cut (pre ++ b1) c' d' e' hd'
      rw [List.append_assoc] at this
      simpa only [List.length_append] using this
    rcases List.append_eq_append_iff.1 e with ⟨a', e1, e2⟩ | ⟨c', e1, e2⟩
    · rw [e1]; exact mid a' ⟨d, e2, hd⟩
    · cases c' with
      | nil =>
        rw [List.append_nil] at e1
        rw [List.nil_append] at e2
        have := mid [] ⟨b2, rfl, by rw [← e2]; exact hd⟩
        rwa [List.append_nil, e1] at this
      | cons x c' => exact hs _ _ _ (hf.cut pre c (x :: c') e1 (by simp))
end

theorem sticky_num : Sticky numQ := fun l s h => by unfold numQ numA; rw [if_pos h]; exact h
theorem sticky_long : Sticky longQ := fun l s h => by unfold longQ numA; rw [if_pos h]; exact h
theorem sticky_text : Sticky textQ := fun l s h => by unfold textQ textA; rw [if_pos h]; exact h
theorem condQ_eq : condQ = bindQ numQ fun k => bindQ longQ fun v => retQ (k, v) := rfl
theorem sticky_cond : Sticky condQ := by rw [condQ_eq]; exact sticky_num.bind fun _ => sticky_long.bind fun _ => .ret _
theorem opQ_eq : opQ = bindQ numQ fun m => bindQ (orQ (decide (1 < m))) fun _ => bindQ textQ fun u => bindQ (optQ (!decide (m = 1)) textQ []) fun c => bindQ condQ fun y => retQ ⟨decide (m = 1), ⟨u.toArray⟩, ⟨c.toArray⟩, y.1, y.2⟩ := by
  funext l s
  simp only [opQ, bindQ, orQ, optQ, retQ]
  by_cases hm : (numQ l s).1 = 1 <;> simp [hm]
theorem sticky_op : Sticky opQ := by
  rw [opQ_eq]
  exact sticky_num.bind fun _ => (Sticky.or _).bind fun _ => sticky_text.bind fun _ => (sticky_text.opt _ _).bind fun _ => sticky_cond.bind fun _ => .ret _
def loopR (n : Nat) : Rd (List Opx) := fun l s => loopQ l n s
theorem sticky_loop (n : Nat) : Sticky (loopR n) := fun l s h => by
  unfold loopR
  cases n with
  | zero => exact h
  | succ n => unfold loopQ; rw [if_pos (.inr h)]; exact h
theorem opsQ_eq : opsQ = bindQ numQ fun n => bindQ (orQ (decide (16 < n))) fun _ => loopR n := rfl
theorem sticky_ops : Sticky opsQ := by rw [opsQ_eq]; exact sticky_num.bind fun _ => (Sticky.or _).bind fun _ => sticky_loop _

/-! ### One number -/
theorem at0_shift (pre x : List UInt8) (i : Nat) : at0 (pre ++ x) (pre.length + i) = at0 x i := by
  unfold at0
  rw [List.getD_eq_getElem?_getD, List.getD_eq_getElem?_getD, List.getElem?_append_right (by omega), Nat.add_sub_cancel_left]
theorem numR_shift (pre x : List UInt8) : numR (pre ++ x) pre.length = ((numR x 0).1, (if (numR x 0).2.2 = 0 then pre.length + (numR x 0).2.1 else 0), (numR x 0).2.2) := by
  have e0 : at0 (pre ++ x) pre.length = at0 x 0 := at0_shift pre x 0
  have e1 : at0 (pre ++ x) (pre.length + 1) = at0 x (0 + 1) := at0_shift pre x 1
  have e2 : (pre ++ x).drop (pre.length + 1) = x.drop (0 + 1) := by rw [List.drop_append, List.drop_eq_nil_of_le (by omega), List.nil_append]; congr 1; omega
  unfold numR
  rw [e0, e1, e2, List.length_append]
  by_cases h1 : x.length ≤ 0
  · rw [if_pos (by omega), if_pos h1]; rfl
  · rw [if_neg (by omega), if_neg h1]
    by_cases h2 : at0 x 0 ≤ 247
    · rw [if_pos h2, if_pos h2]; rfl
    · rw [if_neg h2, if_neg h2]
      by_cases h3 : x.length - 0 - 1 < at0 x 0 - 247
      · rw [if_pos (by omega), if_pos h3]; rfl
      · rw [if_neg (by omega), if_neg h3]
        generalize hX : beN ((x.drop (0 + 1)).take (at0 x 0 - 247)) = X
        by_cases h4 : at0 x (0 + 1) = 0 ∨ X ≤ 247 ∨ 9223372036854775808 ≤ X
        · rw [if_pos h4, if_pos h4]; rfl
        · rw [if_neg h4, if_neg h4]
          dsimp only
          rw [if_pos rfl, Nat.zero_add, Nat.add_assoc]
theorem ofNat_toNat (n : Nat) (h : n < 256) : (UInt8.ofNat n).toNat = n := by
  rw [UInt8.toNat_ofNat']; omega
theorem beN_digN (n K t : Nat) (ht : t ≤ K) : beN (digN n K t) = n / 2 ^ (8 * (K - t)) % 256 ^ t := by
  induction t with
  | zero => simp [digN, beN, Nat.mod_one]
  | succ t ih =>
    have e : digN n K (t + 1) = digN n K t ++ [UInt8.ofNat (n / 2 ^ (8 * (K - 1 - t)))] := by simp [digN, List.range_succ]
    rw [e, beN_snoc, ih (by omega), UInt8.toNat_ofNat']
    have e1 : K - 1 - t = K - (t + 1) := by omega
    have e2 : n / 2 ^ (8 * (K - t)) = n / 2 ^ (8 * (K - (t + 1))) / 256 := by
      rw [Nat.div_div_eq_div_mul, show 8 * (K - t) = 8 * (K - (t + 1)) + 8 by omega, Nat.pow_add]
    have e3 : 256 ^ (t + 1) = 256 * 256 ^ t := by rw [Nat.pow_succ, Nat.mul_comm]
    rw [e1, e2, e3, Nat.mod_mul]
    omega
theorem widN_lt (n : Nat) (h : n ≤ 9223372036854775807) : n < 256 ^ widN n := by
  unfold widN
  (repeat' split) <;> omega
theorem digN_length (n K t : Nat) : (digN n K t).length = t := by simp [digN]
theorem numB_pos (n : Nat) : numB (n : Int) = if n ≤ 247 then [UInt8.ofNat n] else UInt8.ofNat (247 + widN n) :: digN n (widN n) (widN n) := by
  unfold numB
  rw [if_neg (by omega)]
  by_cases h : n ≤ 247
  · rw [if_pos (by omega), if_pos h]; simp
  · rw [if_neg (by omega), if_neg h]; simp
theorem widN_pos (n : Nat) (h : 247 < n) : 1 ≤ widN n := by unfold widN; (repeat' split) <;> omega
theorem at0_zero (c : UInt8) (l : List UInt8) : at0 (c :: l) 0 = c.toNat := rfl
theorem at0_one (c : UInt8) (l : List UInt8) : at0 (c :: l) (0 + 1) = at0 l 0 := rfl
theorem numR_whole (n : Nat) (h : n ≤ 9223372036854775807) (suf : List UInt8) : numR (numB n ++ suf) 0 = (n, (numB n).length, 0) := by
  rw [numB_pos]
  by_cases hn : n ≤ 247
  · rw [if_pos hn]
    unfold numR
    rw [if_neg (by simp), List.cons_append, at0_zero, ofNat_toNat _ (by omega), if_pos hn]
    rfl
  · rw [if_neg hn]
    have hK := widN_le n
    have hK1 := widN_pos n (by omega)
    unfold numR
    rw [List.cons_append, at0_zero, at0_one, ofNat_toNat _ (by omega)]
    have ed : ((UInt8.ofNat (247 + widN n) :: (digN n (widN n) (widN n) ++ suf)).drop (0 + 1)).take (247 + widN n - 247) = digN n (widN n) (widN n) := by
      rw [Nat.add_sub_cancel_left, Nat.zero_add, List.drop_succ_cons, List.drop_zero, List.take_append_of_le_length (by rw [digN_length]; omega), List.take_of_length_le (by rw [digN_length]; omega)]
    rw [ed, beN_digN _ _ _ (Nat.le_refl _), Nat.sub_self, Nat.mul_zero, Nat.pow_zero, Nat.div_one, Nat.mod_eq_of_lt (widN_lt n h)]
    have ez : at0 (digN n (widN n) (widN n) ++ suf) 0 ≠ 0 := by
      have hm := widN_more n (widN n - 1) (by omega)
      have hl := widN_lt n h
      have e0 : at0 (digN n (widN n) (widN n) ++ suf) 0 = n / 2 ^ (8 * (widN n - 1)) % 2 ^ 8 := by
        unfold at0
        rw [List.getD_eq_getElem?_getD, List.getElem?_append_left (by rw [digN_length]; omega)]
        simp only [digN, List.getElem?_map, List.getElem?_range (show 0 < widN n by omega), Option.map_some, Option.getD_some, UInt8.toNat_ofNat', Nat.sub_zero]
      rw [e0, Nat.mod_eq_of_lt]
      · exact hm
      · rw [Nat.div_lt_iff_lt_mul (Nat.two_pow_pos _), ← Nat.pow_add]
        refine Nat.lt_of_lt_of_le hl ?_
        rw [show 8 + 8 * (widN n - 1) = 8 * widN n by omega, Nat.pow_mul]
        exact Nat.le_refl _
    rw [if_neg (by simp), if_neg (by omega), if_neg (by simp [digN_length]), if_neg (by
      rintro (h1 | h1 | h1)
      · exact ez h1
      · omega
      · omega)]
    simp [digN_length]
    omega
theorem numR_cut (n : Nat) (h : n ≤ 9223372036854775807) (c d : List UInt8) (e : numB n = c ++ d) (hd : d ≠ []) : (numR c 0).2.2 = 14 := by
  have hlen : c.length < (numB n).length := by
    rw [e, List.length_append]
    have : 0 < d.length := List.length_pos_iff.2 hd
    omega
  cases c with
  | nil => rfl
  | cons x c =>
    rw [numB_pos] at e hlen
    by_cases hn : n ≤ 247
    · rw [if_pos hn] at hlen
      simp at hlen
    · rw [if_neg hn] at e hlen
      have hK := widN_le n
      rw [List.cons_append, List.cons.injEq] at e
      simp only [List.length_cons, digN_length] at hlen
      unfold numR
      rw [if_neg (by simp), at0_zero, ← e.1, ofNat_toNat _ (by omega), if_neg (by have := widN_pos n (by omega); omega), if_pos (by simp only [List.length_cons]; omega)]
theorem numA_whole (n : Nat) (h : n ≤ 9223372036854775807) (pre suf : List UInt8) : numA (pre ++ (numB n ++ suf)) pre.length 0 = (n, pre.length + (numB n).length, 0) := by
  unfold numA
  rw [numR_shift, numR_whole n h]
  simp
theorem numA_cut (n : Nat) (h : n ≤ 9223372036854775807) (pre c d : List UInt8) (e : numB n = c ++ d) (hd : d ≠ []) : (numA (pre ++ c) pre.length 0).2.2 ≠ 0 := by
  unfold numA
  rw [numR_shift, numR_cut n h c d e hd]
  simp
theorem good_num (n : Nat) (h : n ≤ 2147483647) : Good numQ (numB n) n where
  whole := fun pre suf => by
    unfold numQ numX
    rw [numA_whole n (by omega)]
    simp
    omega
  cut := fun pre c d e hd => numA_cut n (by omega) pre c d e hd
theorem good_long (n : Nat) (h : n ≤ 9223372036854775807) : Good longQ (numB n) n where
  whole := fun pre suf => by
    unfold longQ
    rw [numA_whole n h]
  cut := fun pre c d e hd => numA_cut n h pre c d e hd
theorem good_text (t : List UInt8) (h : t.length ≤ 20000) : Good textQ (textB t) t where
  whole := fun pre suf => by
    have e1 : numR (pre ++ (textB t ++ suf)) pre.length = (t.length, pre.length + (numB t.length).length, 0) := by
      unfold textB
      rw [numR_shift, List.append_assoc, numR_whole t.length (by omega)]
      simp
    have e2 : (pre ++ (textB t ++ suf)).drop (pre.length + (numB t.length).length) = t ++ suf := by
      rw [← List.drop_drop, List.drop_left]
      unfold textB
      rw [List.append_assoc, List.drop_left]
    have e3 : textE (pre ++ (textB t ++ suf)) pre.length 20000 = 0 := by
      unfold textE
      rw [e1]
      simp only [ne_eq, not_true_eq_false, if_false]
      rw [if_neg (by simp [textB]; omega), if_neg (by omega)]
    unfold textQ textA
    rw [if_neg (by simp), e3, if_neg (by simp), e1]
    simp only
    rw [e2, List.take_left]
    simp [textB]
    omega
  cut := fun pre c d e hd => by
    have fin : textE (pre ++ c) pre.length 20000 ≠ 0 → (textQ (pre ++ c) ⟨pre.length, 0, false⟩).2.e ≠ 0 := by
      intro h1
      unfold textQ textA
      rw [if_neg (by simp), if_pos h1]
      exact h1
    apply fin
    unfold textB at e
    rcases List.append_eq_append_iff.1 e with ⟨a', e1, e2⟩ | ⟨c', e1, e2⟩
    · unfold textE
      rw [e1, numR_shift, numR_whole t.length (by omega)]
      have hd0 : 0 < d.length := List.length_pos_iff.2 hd
      have := congrArg List.length e2
      rw [List.length_append] at this
      simp only [ne_eq, not_true_eq_false, if_false, if_true]
      rw [if_pos (by simp only [List.length_append]; omega)]
      decide
    · cases c' with
      | nil =>
        rw [List.append_nil] at e1
        rw [List.nil_append] at e2
        unfold textE
        have e3 : c = numB t.length ++ [] := by rw [e1, List.append_nil]
        rw [e3, numR_shift, numR_whole t.length (by omega)]
        have hd0 : 0 < d.length := List.length_pos_iff.2 hd
        rw [e2] at hd0
        simp only [ne_eq, not_true_eq_false, if_false, if_true]
        rw [if_pos (by simp only [List.length_append, List.length_nil]; omega)]
        decide
      | cons x c' =>
        unfold textE
        rw [numR_shift, numR_cut t.length (by omega) c (x :: c') e1 (by simp)]
        simp
end Hen
end Go.Proofs.YtcmoidldalgljaaGreatDoor
set_option linter.unusedVariables false
set_option linter.unusedSimpArgs false
namespace Go.Proofs.YtcmoidldalgljaaGreatDoor
open Go.RowKit
open Hen

namespace Hen
theorem ofL (s : ByteArray) : (⟨s.data.toList.toArray⟩ : ByteArray) = s := by cases s; simp
theorem ofL0 (s : ByteArray) (h : s.toList = []) : (⟨([] : List UInt8).toArray⟩ : ByteArray) = s := by
  rw [ByteArray.toList_eq] at h
  rw [← h, ofL s]
theorem mayC_range {k v : Int} (h : mayC k v = true) : 0 ≤ k ∧ k ≤ 3 ∧ 0 ≤ v := by
  unfold mayC at h
  split at h
  · simp at h; omega
  · split at h
    · simp at h; omega
    · cases h
theorem uidB_le {l : List UInt8} (h : uidB l = true) : l.length ≤ 24 := by
  unfold uidB at h
  simp at h
  exact h.1.2
theorem nameB_le {l : List UInt8} (h : nameB l = true) : l.length ≤ 16 := by
  unfold nameB at h
  simp at h
  exact h.1.1.1.1.2
theorem cardB_le {l : List UInt8} (h : cardB l = true) : l.length ≤ 900 := by
  unfold cardB at h
  simp only [Bool.and_eq_true, decide_eq_true_eq] at h
  exact h.1
theorem good_cond (k v : Int) (hk : 0 ≤ k) (hk3 : k ≤ 3) (hv : 0 ≤ v) (hv2 : v ≤ 9223372036854775807) : Good condQ (condB k v) (k.toNat, v.toNat) := by
  rw [condQ_eq]
  have e : condB k v = numB (k.toNat : Int) ++ (numB (v.toNat : Int) ++ []) := by
    unfold condB
    rw [List.append_nil, Int.toNat_of_nonneg hk, Int.toNat_of_nonneg hv]
  rw [e]
  exact (good_num k.toNat (by omega)).bind ((good_long v.toNat (by omega)).bind (.ret _) fun _ => .ret _) fun _ => sticky_long.bind fun _ => .ret _
/-- Each write that may be. -/
def opOk (o : Opx) : Prop := formO o = true ∧ uidB o.uid.data.toList = true ∧ (o.del = true → o.card.toList = []) ∧ o.cv ≤ 9223372036854775807
theorem good_op (o : Opx) (h : opOk o) : Good opQ (opB o) o := by
  obtain ⟨h1, h2, h3, h4⟩ := h
  obtain ⟨del, uid, card, ck, cv⟩ := o
  simp only at h1 h2 h3 h4
  unfold formO at h1
  simp only [Bool.and_eq_true, Bool.or_eq_true] at h1
  obtain ⟨h5, h6⟩ := h1
  obtain ⟨k0, k3, v0⟩ := mayC_range h6
  have hu := uidB_le h2
  rw [opQ_eq]
  have gc := good_cond ck cv k0 k3 v0 h4
  have tail : ∀ u : List UInt8, ∀ c : List UInt8, ∀ m : Nat, Good (bindQ condQ fun y => retQ (⟨decide (m = 1), ⟨u.toArray⟩, ⟨c.toArray⟩, y.1, y.2⟩ : Opx)) (condB ck cv ++ []) ⟨decide (m = 1), ⟨u.toArray⟩, ⟨c.toArray⟩, (ck.toNat : Int), (cv.toNat : Int)⟩ :=
    fun u c m => gc.bind (.ret _) fun _ => .ret _
  have st : ∀ (m : Nat) (u : List UInt8), Sticky (bindQ (optQ (!decide (m = 1)) textQ []) fun c => bindQ condQ fun y => retQ (⟨decide (m = 1), ⟨u.toArray⟩, ⟨c.toArray⟩, (y.1 : Int), (y.2 : Int)⟩ : Opx)) := fun m u => (sticky_text.opt _ _).bind fun _ => sticky_cond.bind fun _ => .ret _
  cases del with
  | true =>
    have hc := h3 rfl
    have e : opB ⟨true, uid, card, ck, cv⟩ = numB (1 : Nat) ++ ([] ++ (textB uid.data.toList ++ ((if !decide ((1 : Nat) = 1) then textB [] else []) ++ (condB ck cv ++ [])))) := by
      simp [opB, List.append_assoc]
    have o1 : (⟨true, uid, card, ck, cv⟩ : Opx) = ⟨decide ((1 : Nat) = 1), ⟨uid.data.toList.toArray⟩, ⟨([] : List UInt8).toArray⟩, (ck.toNat : Int), (cv.toNat : Int)⟩ := by
      rw [ofL, ofL0 card hc, Int.toNat_of_nonneg k0, Int.toNat_of_nonneg v0]; rfl
    rw [e, o1]
    exact (good_num 1 (by omega)).bind (Good.or.bind ((good_text _ (by omega)).bind ((Good.opt (!decide ((1 : Nat) = 1)) [] (fun h => absurd h (by simp)) fun _ => rfl).bind (tail _ _ 1) fun _ => sticky_cond.bind fun _ => .ret _) fun _ => st 1 _) fun _ => sticky_text.bind fun _ => st 1 _) fun m => (Sticky.or _).bind fun _ => sticky_text.bind fun _ => st m _
  | false =>
    have hc := cardB_le (h5.resolve_left (by simp))
    have e : opB ⟨false, uid, card, ck, cv⟩ = numB (0 : Nat) ++ ([] ++ (textB uid.data.toList ++ ((if !decide ((0 : Nat) = 1) then textB card.data.toList else []) ++ (condB ck cv ++ [])))) := by
      simp [opB, List.append_assoc]
    have o1 : (⟨false, uid, card, ck, cv⟩ : Opx) = ⟨decide ((0 : Nat) = 1), ⟨uid.data.toList.toArray⟩, ⟨card.data.toList.toArray⟩, (ck.toNat : Int), (cv.toNat : Int)⟩ := by
      rw [ofL, ofL, Int.toNat_of_nonneg k0, Int.toNat_of_nonneg v0]; rfl
    rw [e, o1]
    exact (good_num 0 (by omega)).bind (Good.or.bind ((good_text _ (by omega)).bind ((Good.opt (!decide ((0 : Nat) = 1)) [] (fun _ => good_text _ (by omega)) (fun h => absurd h (by simp))).bind (tail _ _ 0) fun _ => sticky_cond.bind fun _ => .ret _) fun _ => st 0 _) fun _ => sticky_text.bind fun _ => st 0 _) fun m => (Sticky.or _).bind fun _ => sticky_text.bind fun _ => st m _
theorem good_loop (ops : List Opx) (h : ∀ o ∈ ops, opOk o) : Good (loopR ops.length) (ops.flatMap opB) ops := by
  induction ops with
  | nil => exact (Good.ret []).congr fun _ _ => rfl
  | cons o ops ih =>
    have e : (o :: ops).flatMap opB = opB o ++ (ops.flatMap opB ++ []) := by simp
    rw [e]
    refine Good.congr (g := bindQ opQ fun x => bindQ (loopR ops.length) fun xs => retQ (x :: xs)) (fun l p => ?_) ((good_op o (h o (by simp))).bind ((ih fun o' ho => h o' (by simp [ho])).bind (.ret _) fun _ => .ret _) fun _ => (sticky_loop _).bind fun _ => .ret _)
    show loopQ l (ops.length + 1) _ = _
    unfold loopQ
    rw [if_neg (by simp)]
    rfl
theorem good_ops (ops : List Opx) (hn : ops.length ≤ 16) (h : ∀ o ∈ ops, opOk o) : Good opsQ (numB (ops.length : Nat) ++ ops.flatMap opB) ops := by
  rw [opsQ_eq]
  have hd : decide (16 < ops.length) = false := decide_eq_false (by omega)
  have : Good (bindQ (orQ (decide (16 < ops.length))) fun _ => loopR ops.length) ([] ++ ops.flatMap opB) ops := by
    rw [hd]; exact Good.or.bind (good_loop ops h) fun _ => sticky_loop _
  exact (good_num ops.length (by omega)).bind this fun n => (Sticky.or _).bind fun _ => sticky_loop _

/-- Numbers of 64 bits. -/
structure Num64 (q : Rq) : Prop where
  cv : q.cv ≤ 9223372036854775807
  tok : q.tok ≤ 9223372036854775807
  ops : ∀ o ∈ q.ops, o.cv ≤ 9223372036854775807

theorem checkE_parts {q : Rq} (h : checkE q = 0) : isK q.k = true ∧ strayB (hasL q.k) q = false ∧ namedB (hasL q.k) q = true ∧ formedB (hasL q.k) q = true ∧ rangeB (hasL q.k) q = false := by
  unfold checkE at h
  split at h
  · cases h
  · split at h
    · cases h
    · split at h
      · cases h
      · split at h
        · cases h
        · split at h
          · cases h
          · simp_all
theorem strayF_nine {h0 h1 h2 h3 h4 h5 h6 h7 h8 v0 v1 v2 v3 v4 v5 v6 v7 v8 : Bool} (h : strayF [h0, h1, h2, h3, h4, h5, h6, h7, h8] [v0, v1, v2, v3, v4, v5, v6, v7, v8] = false) :
    (h0 = false → v0 = false) ∧ (h1 = false → v1 = false) ∧ (h2 = false → v2 = false) ∧ (h3 = false → v3 = false) ∧ (h4 = false → v4 = false) ∧ (h5 = false → v5 = false) ∧ (h6 = false → v6 = false) ∧ (h7 = false → v7 = false) ∧ (h8 = false → v8 = false) := by
  simp only [strayF, Bool.or_eq_false_iff, Bool.and_eq_false_iff, Bool.not_eq_false'] at h
  obtain ⟨a0, a1, a2, a3, a4, a5, a6, a7, a8, _⟩ := h
  refine ⟨?_, ?_, ?_, ?_, ?_, ?_, ?_, ?_, ?_⟩ <;> intro e <;> simp_all
theorem good_dec (q : Rq) (h : checkE q = 0) (h64 : Num64 q) : Good (decF (hasL q.k) q.k) (encB q) q := by
  obtain ⟨hk, hs, hn, hf, hr⟩ := checkE_parts h
  unfold encB
  obtain ⟨h0, h1, h2, h3, h4, h5, h6, h7, h8, hh⟩ := hasL_nine q.k
  rw [hh] at hs hn hf hr ⊢
  have hO : ∀ o ∈ q.ops, opOk o := by
    intro o ho
    unfold strayB at hs
    rw [Bool.or_eq_false_iff] at hs
    unfold namedB at hn
    unfold formedB at hf
    rw [Bool.and_eq_true] at hn hf
    refine ⟨List.all_eq_true.1 hf.2 o ho, List.all_eq_true.1 hn.2 o ho, fun hd => ?_, h64.ops o ho⟩
    have := hs.2
    unfold strayO at this
    rw [List.any_eq_false] at this
    have := this o ho
    rw [hd] at this
    simpa using this
  unfold strayB strayV at hs
  rw [Bool.or_eq_false_iff] at hs
  obtain ⟨z0, z1, z2, z3, z4, z5, z6, z7, z8⟩ := strayF_nine hs.1
  unfold namedB at hn
  unfold formedB at hf
  unfold rangeB at hr
  simp only [List.getD_cons_zero, List.getD_cons_succ, Bool.and_eq_true, Bool.not_eq_true', Bool.or_eq_false_iff, Bool.and_eq_false_iff, Bool.not_eq_false', decide_eq_false_iff_not] at hn hf hr
  obtain ⟨⟨⟨n0, n1⟩, n2⟩, _⟩ := hn
  obtain ⟨⟨n3, n4⟩, _⟩ := hf
  obtain ⟨⟨⟨n5, n6⟩, n7⟩, n8⟩ := hr
  obtain ⟨k, tenant, col, uid, card, ck, cv, ops, tok, most, ticks⟩ := q
  have htok := h64.tok
  have hcv := h64.cv
  simp only at *
  clear hk hh hs h h64
  have g0 : Good (optQ h0 textQ []) (if h0 then textB tenant.data.toList else []) tenant.data.toList := Good.opt h0 [] (fun e => good_text _ (by have := nameB_le (n0.resolve_left (by simp [e])); omega)) (fun e => by have := z0 e; rw [← ByteArray.toList_eq]; simpa using this)
  have g1 : Good (optQ h1 textQ []) (if h1 then textB col.data.toList else []) col.data.toList := Good.opt h1 [] (fun e => good_text _ (by have := nameB_le (n1.resolve_left (by simp [e])); omega)) (fun e => by have := z1 e; rw [← ByteArray.toList_eq]; simpa using this)
  have g2 : Good (optQ h2 textQ []) (if h2 then textB uid.data.toList else []) uid.data.toList := Good.opt h2 [] (fun e => good_text _ (by have := uidB_le (n2.resolve_left (by simp [e])); omega)) (fun e => by have := z2 e; rw [← ByteArray.toList_eq]; simpa using this)
  have g3 : Good (optQ h3 textQ []) (if h3 then textB card.data.toList else []) card.data.toList := Good.opt h3 [] (fun e => good_text _ (by have := cardB_le (n3.resolve_left (by simp [e])); omega)) (fun e => by have := z3 e; rw [← ByteArray.toList_eq]; simpa using this)
  have c4 : 0 ≤ ck ∧ 0 ≤ cv := by
    cases h4 with
    | true => have := mayC_range (n4.resolve_left (by simp)); omega
    | false => have := z4 rfl; simp at this; omega
  have g4 : Good (optQ h4 condQ (0, 0)) (if h4 then condB ck cv else []) (ck.toNat, cv.toNat) := Good.opt h4 (0, 0) (fun e => by
    obtain ⟨a, b, c⟩ := mayC_range (n4.resolve_left (by simp [e]))
    exact good_cond ck cv a b c hcv) (fun e => by have := z4 e; simp at this; rw [this.1, this.2]; rfl)
  have g5 : Good (optQ h5 opsQ []) (if h5 then numB (ops.length : Nat) ++ ops.flatMap opB else []) ops := Good.opt h5 [] (fun e => good_ops ops (by have := n5.resolve_left (by simp [e]); omega) hO) (fun e => by have := z5 e; simpa using this)
  have g6 : Good (optQ h6 longQ 0) (if h6 then numB tok else []) tok.toNat := Good.opt h6 0 (fun e => by
    have := good_long tok.toNat (by omega)
    rwa [Int.toNat_of_nonneg (by omega)] at this) (fun e => by have := z6 e; simp at this; rw [this]; rfl)
  have g7 : Good (optQ h7 numQ 0) (if h7 then numB most else []) most.toNat := Good.opt h7 0 (fun e => by
    have h' := n7.resolve_left (by simp [e])
    have := good_num most.toNat (by omega)
    rwa [Int.toNat_of_nonneg (by omega)] at this) (fun e => by have := z7 e; simp at this; rw [this]; rfl)
  have p7 : 0 ≤ most := by
    cases h7 with
    | true => have := n7.resolve_left (by simp); omega
    | false => have := z7 rfl; simp at this; omega
  have g8 : Good (optQ h8 numQ 0) (if h8 then numB ticks else []) ticks.toNat := Good.opt h8 0 (fun e => by
    have := good_num ticks.toNat (by omega)
    rwa [Int.toNat_of_nonneg (by omega)] at this) (fun e => by have := z8 e; simp at this; rw [this]; rfl)
  clear n0 n1 n2 n3 n4 n5 n7 z0 z1 z2 z3 z4 z5 z6 z7 z8 hO
  have eq : (⟨k, tenant, col, uid, card, ck, cv, ops, tok, most, ticks⟩ : Rq) = ⟨k, ⟨tenant.data.toList.toArray⟩, ⟨col.data.toList.toArray⟩, ⟨uid.data.toList.toArray⟩, ⟨card.data.toList.toArray⟩, (ck.toNat : Int), (cv.toNat : Int), ops, (tok.toNat : Int), (most.toNat : Int), (ticks.toNat : Int)⟩ := by
    rw [ofL, ofL, ofL, ofL, Int.toNat_of_nonneg c4.1, Int.toNat_of_nonneg c4.2, Int.toNat_of_nonneg (by omega), Int.toNat_of_nonneg p7, Int.toNat_of_nonneg (by omega)]
  unfold encF decF
  simp only [List.getD_cons_zero, List.getD_cons_succ, List.append_assoc]
  rw [eq]
  have eb : ∀ x : List UInt8, x = x ++ [] := fun x => (List.append_nil x).symm
  rw [eb (if h8 = true then numB _ else [])]
  have s8 : ∀ f : Nat → Rq, Sticky (bindQ (optQ h8 numQ 0) fun i => retQ (f i)) := fun f => (sticky_num.opt _ _).bind fun _ => .ret _
  have s7 : ∀ f : Nat → Nat → Rq, Sticky (bindQ (optQ h7 numQ 0) fun m => bindQ (optQ h8 numQ 0) fun i => retQ (f m i)) := fun f => (sticky_num.opt _ _).bind fun _ => s8 _
  have s6 : ∀ f : Nat → Nat → Nat → Rq, Sticky (bindQ (optQ h6 longQ 0) fun n => bindQ (optQ h7 numQ 0) fun m => bindQ (optQ h8 numQ 0) fun i => retQ (f n m i)) := fun f => (sticky_long.opt _ _).bind fun _ => s7 _
  have s5 : ∀ f : List Opx → Nat → Nat → Nat → Rq, Sticky (bindQ (optQ h5 opsQ []) fun o => bindQ (optQ h6 longQ 0) fun n => bindQ (optQ h7 numQ 0) fun m => bindQ (optQ h8 numQ 0) fun i => retQ (f o n m i)) := fun f => (sticky_ops.opt _ _).bind fun _ => s6 _
  have s4 : ∀ f : Nat × Nat → List Opx → Nat → Nat → Nat → Rq, Sticky (bindQ (optQ h4 condQ (0, 0)) fun y => bindQ (optQ h5 opsQ []) fun o => bindQ (optQ h6 longQ 0) fun n => bindQ (optQ h7 numQ 0) fun m => bindQ (optQ h8 numQ 0) fun i => retQ (f y o n m i)) := fun f => (sticky_cond.opt _ _).bind fun _ => s5 _
  exact g0.bind (g1.bind (g2.bind (g3.bind (g4.bind (g5.bind (g6.bind (g7.bind (g8.bind (.ret _) fun _ => .ret _) fun _ => s8 _) fun _ => s7 _) fun _ => s6 _) fun _ => s5 _) fun _ => s4 _) fun _ => (sticky_text.opt _ _).bind fun _ => s4 _) fun _ => (sticky_text.opt _ _).bind fun _ => (sticky_text.opt _ _).bind fun _ => s4 _) fun _ => (sticky_text.opt _ _).bind fun _ => (sticky_text.opt _ _).bind fun _ => (sticky_text.opt _ _).bind fun _ => s4 _

/-- What is laid is read as it was. -/
theorem dec_enc (q : Rq) (h : checkE q = 0) (h64 : Num64 q) : decE q.k (encB q) = 0 ∧ decR q.k (encB q) = q := by
  have hk := (checkE_parts h).1
  have := (good_dec q h h64).whole [] []
  simp only [List.nil_append, List.append_nil, List.length_nil, Nat.zero_add] at this
  have he : decE q.k (encB q) = 0 := by
    unfold decE
    rw [if_neg (by simp [hk]), this]
    simpa using h
  refine ⟨he, ?_⟩
  unfold decR
  rw [if_pos he, this]
/-- What is cut off is of no form. -/
theorem dec_cut (q : Rq) (h : checkE q = 0) (h64 : Num64 q) (c d : List UInt8) (e : encB q = c ++ d) (hd : d ≠ []) : decE q.k c = 1 := by
  have hk := (checkE_parts h).1
  have := (good_dec q h h64).cut [] c d e hd
  simp only [List.nil_append, List.length_nil] at this
  unfold decE
  rw [if_neg (by simp [hk]), if_pos (.inr (.inl this))]
/-- With something behind it is of no form. -/
theorem dec_more (q : Rq) (h : checkE q = 0) (h64 : Num64 q) (d : List UInt8) (hd : d ≠ []) : decE q.k (encB q ++ d) = 1 := by
  have hk := (checkE_parts h).1
  have := (good_dec q h h64).whole [] d
  simp only [List.nil_append, List.length_nil, Nat.zero_add] at this
  have hd0 : 0 < d.length := List.length_pos_iff.2 hd
  unfold decE
  rw [if_neg (by simp [hk]), this, if_pos (.inr (.inr (by simp only [List.length_append]; omega)))]
end Hen
end Go.Proofs.YtcmoidldalgljaaGreatDoor

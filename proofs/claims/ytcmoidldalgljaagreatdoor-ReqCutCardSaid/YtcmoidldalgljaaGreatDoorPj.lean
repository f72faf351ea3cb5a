/-
  Contracts: req.named, req.formed.
-/
import Derived.Test.YtcmoidldalgljaaGreatDoorPi
import Derived.Test.YtcmoidldalgljaaGreatDoorPh
set_option linter.unusedVariables false
set_option linter.unusedSimpArgs false
namespace Go.Proofs.YtcmoidldalgljaaGreatDoor
open Go.RowKit
open Hen

namespace Hen
def namedB (h : List Bool) (q : Rq) : Bool :=
  !((h.getD 0 false && !nameB q.tenant.data.toList) || (h.getD 1 false && !nameB q.col.data.toList) || (h.getD 2 false && !uidB q.uid.data.toList)) && q.ops.all fun o => uidB o.uid.data.toList
def formO (o : Opx) : Bool := (o.del || cardB o.card.data.toList) && mayC o.ck o.cv
def formedB (h : List Bool) (q : Rq) : Bool :=
  !((h.getD 3 false && !cardB q.card.data.toList) || (h.getD 4 false && !mayC q.ck q.cv)) && q.ops.all formO
end Hen
/-- No text is longer than a machine can hold. -/
structure Fits (q : Rq) : Prop where
  tenant : q.tenant.size ≤ 140737488355327
  col : q.col.size ≤ 140737488355327
  uid : q.uid.size ≤ 140737488355327
  card : q.card.size ≤ 140737488355327
  ops : q.ops.length ≤ 65536
  each : ∀ k, k < q.ops.length → q.ops[k]!.uid.size ≤ 140737488355327 ∧ q.ops[k]!.card.size ≤ 140737488355327

theorem all_snoc (p : Opx → Bool) (l : List Opx) (k : Nat) (h : k < l.length) : (l.take (k + 1)).all p = ((l.take k).all p && p l[k]!) := by
  rw [List.take_succ_eq_append_getElem h, List.all_append, getElem!_pos l k h]
  simp
theorem all_no {p : Opx → Bool} {l : List Opx} {k : Nat} (h : k < l.length) (h1 : p l[k]! = false) : l.all p = false := by
  rw [List.all_eq_false]
  exact ⟨l[k]!, by rw [getElem!_pos l k h]; exact List.getElem_mem _, by rw [h1]; simp⟩

set_option maxHeartbeats 8000000 in
set_option maxRecDepth 100000 in
theorem named_0 (h3 h4 h5 h6 h7 h8 : Bool) (q : Rq) (A : Option Addr) (c : Nat) (w : World) (hO : OpsAt w A q.ops) (hF : Fits q) :
    Calls Tryz.prog 51 #[q.val A c, .agg #[.bool true, .bool false, .bool false, .bool h3, .bool h4, .bool h5, .bool h6, .bool h7, .bool h8]] w fun e w' => e = .returned (.bool (namedB [true, false, false, h3, h4, h5, h6, h7, h8] q)) ∧ Below w.heap.size w w' := by
  have n0 := fun W => name_calls q.tenant W (by have := hF.tenant; unfold maxLen; omega)
  have n1 := fun W => name_calls q.col W (by have := hF.col; unfold maxLen; omega)
  have n2 := fun W => uid_calls q.uid W (by have := hF.uid; unfold maxLen; omega)
  have nE := fun k (hk : k < q.ops.length) W => uid_calls q.ops[k]!.uid W (by have := (hF.each k hk).1; unfold maxLen; omega)
  have hn := hF.ops
  obtain ⟨k, tenant, col, uid, card, ck, cv, ops, tok, most, ticks⟩ := q
  generalize hR : namedB [true, false, false, h3, h4, h5, h6, h7, h8] ⟨k, tenant, col, uid, card, ck, cv, ops, tok, most, ticks⟩ = R
  simp only [namedB, List.getD_cons_zero, List.getD_cons_succ] at hR
  obtain ⟨n, hN⟩ : ∃ n, n = ops.length := ⟨_, rfl⟩
  simp only [Rq.val, ← hN] at n0 n1 n2 nE hn hR ⊢
  generalize nameB tenant.data.toList = b0 at n0 hR
  generalize nameB col.data.toList = b1 at n1 hR
  generalize uidB uid.data.toList = b2 at n2 hR
  have HO := Lib.hid hO
  have HR := Lib.hid hR
  have HN := Lib.hid hN
  have N0 := Lib.hid n0
  have N1 := Lib.hid n1
  have N2 := Lib.hid n2
  have NE := Lib.hid nE
  clear hO hR hN n0 n1 n2 nE hF
  go_enter Tryz.func51, Tryz.ntmps51
  go_wp2_with (go_at_call 66; refine (N0.out _).mono ?_; rintro e w1 ⟨rfl, rfl⟩)
  try any_goals (go_ret; exact ⟨ret_bool (by rw [← HR.out]; simp [*]), ((Below.refl _ _).alloc (Nat.le_refl _) _).alloc (by simp) _⟩)
  have HF := Lib.hid (show (ops.all fun o => uidB o.uid.data.toList) = R by rw [← HR.out]; simp [*])
  clear HR N0 N1 N2
  go_loopw [38] (fun i wr => ∃ k : Nat, k ≤ n ∧ i = .int .i64 k ∧ Below w.heap.size w wr ∧ Hid ((ops.take k).all (fun o => uidB o.uid.data.toList) = true)) (fun i _ => n - (intOf i).toNat)
  case atStart => exact ⟨0, Nat.zero_le _, rfl, ((Below.refl _ _).alloc (Nat.le_refl _) _).alloc (by simp) _, rfl⟩
  case round =>
    obtain ⟨k, hk, rfl, hb, HK⟩ := hrel
    by_cases hlt : k < n
    · have hltO : k < ops.length := by rw [← HN.out]; exact hlt
      have hsn := all_snoc (fun o => uidB o.uid.data.toList) ops k hltO
      have hno := all_no (p := fun o => uidB o.uid.data.toList) hltO
      have hcall := fun W => NE.out k hlt W
      obtain ⟨x, hx⟩ : ∃ x, ops[k]! = x := ⟨_, rfl⟩
      obtain ⟨ad, hA, hl, c0, c1, c2, c3, c4⟩ := (HO.out.below hb).at_ k hltO x hx
      subst hA
      rw [hx] at hsn hno hcall
      obtain ⟨xd, xu, xc, xk, xv⟩ := x
      have hz := hb.size
      rw [HK.out, Bool.true_and] at hsn
      rw [HF.out] at hno
      simp only at hsn hno c0 c1 c2 c3 c4 hcall
      generalize uidB xu.data.toList = u at hsn hno hcall
      have HS := Lib.hid hsn
      have HC := Lib.hid hcall
      clear hsn hx hcall
      cases u with
      | false =>
        obtain rfl : R = false := hno rfl
        clear hno
        go_wp2_with (go_at_call 67; refine (HC.out _).mono ?_; rintro e w1 ⟨rfl, rfl⟩)
        go_ret
        exact ⟨rfl, hb.alloc hb.size _⟩
      | true =>
        clear hno
        go_wp2_with (go_at_call 67; refine (HC.out _).mono ?_; rintro e w1 ⟨rfl, rfl⟩)
        go_round
        case rel => exact ⟨k + 1, by omega, by go_num, hb.alloc hb.size _, HS.out⟩
        case measure => simp [intOf]; omega
    · obtain rfl : k = n := by omega
      have hfin := HK.out
      rw [List.take_of_length_le (by rw [HN.out]; omega), HF.out] at hfin
      subst hfin
      go_wp2
      go_ret
      exact ⟨rfl, hb⟩

set_option maxHeartbeats 8000000 in
set_option maxRecDepth 100000 in
theorem named_1 (h3 h4 h5 h6 h7 h8 : Bool) (q : Rq) (A : Option Addr) (c : Nat) (w : World) (hO : OpsAt w A q.ops) (hF : Fits q) :
    Calls Tryz.prog 51 #[q.val A c, .agg #[.bool false, .bool true, .bool false, .bool h3, .bool h4, .bool h5, .bool h6, .bool h7, .bool h8]] w fun e w' => e = .returned (.bool (namedB [false, true, false, h3, h4, h5, h6, h7, h8] q)) ∧ Below w.heap.size w w' := by
  have n0 := fun W => name_calls q.tenant W (by have := hF.tenant; unfold maxLen; omega)
  have n1 := fun W => name_calls q.col W (by have := hF.col; unfold maxLen; omega)
  have n2 := fun W => uid_calls q.uid W (by have := hF.uid; unfold maxLen; omega)
  have nE := fun k (hk : k < q.ops.length) W => uid_calls q.ops[k]!.uid W (by have := (hF.each k hk).1; unfold maxLen; omega)
  have hn := hF.ops
  obtain ⟨k, tenant, col, uid, card, ck, cv, ops, tok, most, ticks⟩ := q
  generalize hR : namedB [false, true, false, h3, h4, h5, h6, h7, h8] ⟨k, tenant, col, uid, card, ck, cv, ops, tok, most, ticks⟩ = R
  simp only [namedB, List.getD_cons_zero, List.getD_cons_succ] at hR
  obtain ⟨n, hN⟩ : ∃ n, n = ops.length := ⟨_, rfl⟩
  simp only [Rq.val, ← hN] at n0 n1 n2 nE hn hR ⊢
  generalize nameB tenant.data.toList = b0 at n0 hR
  generalize nameB col.data.toList = b1 at n1 hR
  generalize uidB uid.data.toList = b2 at n2 hR
  have HO := Lib.hid hO
  have HR := Lib.hid hR
  have HN := Lib.hid hN
  have N0 := Lib.hid n0
  have N1 := Lib.hid n1
  have N2 := Lib.hid n2
  have NE := Lib.hid nE
  clear hO hR hN n0 n1 n2 nE hF
  go_enter Tryz.func51, Tryz.ntmps51
  go_wp2_with (go_at_call 66; refine (N1.out _).mono ?_; rintro e w1 ⟨rfl, rfl⟩)
  try any_goals (go_ret; exact ⟨ret_bool (by rw [← HR.out]; simp [*]), ((Below.refl _ _).alloc (Nat.le_refl _) _).alloc (by simp) _⟩)
  have HF := Lib.hid (show (ops.all fun o => uidB o.uid.data.toList) = R by rw [← HR.out]; simp [*])
  clear HR N0 N1 N2
  go_loopw [38] (fun i wr => ∃ k : Nat, k ≤ n ∧ i = .int .i64 k ∧ Below w.heap.size w wr ∧ Hid ((ops.take k).all (fun o => uidB o.uid.data.toList) = true)) (fun i _ => n - (intOf i).toNat)
  case atStart => exact ⟨0, Nat.zero_le _, rfl, ((Below.refl _ _).alloc (Nat.le_refl _) _).alloc (by simp) _, rfl⟩
  case round =>
    obtain ⟨k, hk, rfl, hb, HK⟩ := hrel
    by_cases hlt : k < n
    · have hltO : k < ops.length := by rw [← HN.out]; exact hlt
      have hsn := all_snoc (fun o => uidB o.uid.data.toList) ops k hltO
      have hno := all_no (p := fun o => uidB o.uid.data.toList) hltO
      have hcall := fun W => NE.out k hlt W
      obtain ⟨x, hx⟩ : ∃ x, ops[k]! = x := ⟨_, rfl⟩
      obtain ⟨ad, hA, hl, c0, c1, c2, c3, c4⟩ := (HO.out.below hb).at_ k hltO x hx
      subst hA
      rw [hx] at hsn hno hcall
      obtain ⟨xd, xu, xc, xk, xv⟩ := x
      have hz := hb.size
      rw [HK.out, Bool.true_and] at hsn
      rw [HF.out] at hno
      simp only at hsn hno c0 c1 c2 c3 c4 hcall
      generalize uidB xu.data.toList = u at hsn hno hcall
      have HS := Lib.hid hsn
      have HC := Lib.hid hcall
      clear hsn hx hcall
      cases u with
      | false =>
        obtain rfl : R = false := hno rfl
        clear hno
        go_wp2_with (go_at_call 67; refine (HC.out _).mono ?_; rintro e w1 ⟨rfl, rfl⟩)
        go_ret
        exact ⟨rfl, hb.alloc hb.size _⟩
      | true =>
        clear hno
        go_wp2_with (go_at_call 67; refine (HC.out _).mono ?_; rintro e w1 ⟨rfl, rfl⟩)
        go_round
        case rel => exact ⟨k + 1, by omega, by go_num, hb.alloc hb.size _, HS.out⟩
        case measure => simp [intOf]; omega
    · obtain rfl : k = n := by omega
      have hfin := HK.out
      rw [List.take_of_length_le (by rw [HN.out]; omega), HF.out] at hfin
      subst hfin
      go_wp2
      go_ret
      exact ⟨rfl, hb⟩

set_option maxHeartbeats 8000000 in
set_option maxRecDepth 100000 in
theorem named_2 (h3 h4 h5 h6 h7 h8 : Bool) (q : Rq) (A : Option Addr) (c : Nat) (w : World) (hO : OpsAt w A q.ops) (hF : Fits q) :
    Calls Tryz.prog 51 #[q.val A c, .agg #[.bool false, .bool true, .bool true, .bool h3, .bool h4, .bool h5, .bool h6, .bool h7, .bool h8]] w fun e w' => e = .returned (.bool (namedB [false, true, true, h3, h4, h5, h6, h7, h8] q)) ∧ Below w.heap.size w w' := by
  have n0 := fun W => name_calls q.tenant W (by have := hF.tenant; unfold maxLen; omega)
  have n1 := fun W => name_calls q.col W (by have := hF.col; unfold maxLen; omega)
  have n2 := fun W => uid_calls q.uid W (by have := hF.uid; unfold maxLen; omega)
  have nE := fun k (hk : k < q.ops.length) W => uid_calls q.ops[k]!.uid W (by have := (hF.each k hk).1; unfold maxLen; omega)
  have hn := hF.ops
  obtain ⟨k, tenant, col, uid, card, ck, cv, ops, tok, most, ticks⟩ := q
  generalize hR : namedB [false, true, true, h3, h4, h5, h6, h7, h8] ⟨k, tenant, col, uid, card, ck, cv, ops, tok, most, ticks⟩ = R
  simp only [namedB, List.getD_cons_zero, List.getD_cons_succ] at hR
  obtain ⟨n, hN⟩ : ∃ n, n = ops.length := ⟨_, rfl⟩
  simp only [Rq.val, ← hN] at n0 n1 n2 nE hn hR ⊢
  generalize nameB tenant.data.toList = b0 at n0 hR
  generalize nameB col.data.toList = b1 at n1 hR
  generalize uidB uid.data.toList = b2 at n2 hR
  have HO := Lib.hid hO
  have HR := Lib.hid hR
  have HN := Lib.hid hN
  have N0 := Lib.hid n0
  have N1 := Lib.hid n1
  have N2 := Lib.hid n2
  have NE := Lib.hid nE
  clear hO hR hN n0 n1 n2 nE hF
  go_enter Tryz.func51, Tryz.ntmps51
  go_wp2_with (first | (go_at_call 66; refine (N1.out _).mono ?_; rintro e w1 ⟨rfl, rfl⟩) | (go_at_call 67; refine (N2.out _).mono ?_; rintro e w1 ⟨rfl, rfl⟩))
  try any_goals (go_ret; exact ⟨ret_bool (by rw [← HR.out]; simp [*]), ((Below.refl _ _).alloc (Nat.le_refl _) _).alloc (by simp) _⟩)
  have HF := Lib.hid (show (ops.all fun o => uidB o.uid.data.toList) = R by rw [← HR.out]; simp [*])
  clear HR N0 N1 N2
  obtain rfl : b2 = true := by
    cases b2 with
    | true => rfl
    | false => exact absurd ‹(!false) = false› (by decide)
  simp only [Bool.not_true]
  go_loopw [38] (fun i wr => ∃ k : Nat, k ≤ n ∧ i = .int .i64 k ∧ Below w.heap.size w wr ∧ Hid ((ops.take k).all (fun o => uidB o.uid.data.toList) = true)) (fun i _ => n - (intOf i).toNat)
  case atStart => exact ⟨0, Nat.zero_le _, rfl, ((Below.refl _ _).alloc (Nat.le_refl _) _).alloc (by simp) _, rfl⟩
  case round =>
    obtain ⟨k, hk, rfl, hb, HK⟩ := hrel
    by_cases hlt : k < n
    · have hltO : k < ops.length := by rw [← HN.out]; exact hlt
      have hsn := all_snoc (fun o => uidB o.uid.data.toList) ops k hltO
      have hno := all_no (p := fun o => uidB o.uid.data.toList) hltO
      have hcall := fun W => NE.out k hlt W
      obtain ⟨x, hx⟩ : ∃ x, ops[k]! = x := ⟨_, rfl⟩
      obtain ⟨ad, hA, hl, c0, c1, c2, c3, c4⟩ := (HO.out.below hb).at_ k hltO x hx
      subst hA
      rw [hx] at hsn hno hcall
      obtain ⟨xd, xu, xc, xk, xv⟩ := x
      have hz := hb.size
      rw [HK.out, Bool.true_and] at hsn
      rw [HF.out] at hno
      simp only at hsn hno c0 c1 c2 c3 c4 hcall
      generalize uidB xu.data.toList = u at hsn hno hcall
      have HS := Lib.hid hsn
      have HC := Lib.hid hcall
      clear hsn hx hcall
      cases u with
      | false =>
        obtain rfl : R = false := hno rfl
        clear hno
        go_wp2_with (go_at_call 67; refine (HC.out _).mono ?_; rintro e w1 ⟨rfl, rfl⟩)
        go_ret
        exact ⟨rfl, hb.alloc hb.size _⟩
      | true =>
        clear hno
        go_wp2_with (go_at_call 67; refine (HC.out _).mono ?_; rintro e w1 ⟨rfl, rfl⟩)
        go_round
        case rel => exact ⟨k + 1, by omega, by go_num, hb.alloc hb.size _, HS.out⟩
        case measure => simp [intOf]; omega
    · obtain rfl : k = n := by omega
      have hfin := HK.out
      rw [List.take_of_length_le (by rw [HN.out]; omega), HF.out] at hfin
      subst hfin
      go_wp2
      go_ret
      exact ⟨rfl, hb⟩

set_option maxHeartbeats 8000000 in
set_option maxRecDepth 100000 in
theorem named_3 (h3 h4 h5 h6 h7 h8 : Bool) (q : Rq) (A : Option Addr) (c : Nat) (w : World) (hO : OpsAt w A q.ops) (hF : Fits q) :
    Calls Tryz.prog 51 #[q.val A c, .agg #[.bool false, .bool false, .bool false, .bool h3, .bool h4, .bool h5, .bool h6, .bool h7, .bool h8]] w fun e w' => e = .returned (.bool (namedB [false, false, false, h3, h4, h5, h6, h7, h8] q)) ∧ Below w.heap.size w w' := by
  have n0 := fun W => name_calls q.tenant W (by have := hF.tenant; unfold maxLen; omega)
  have n1 := fun W => name_calls q.col W (by have := hF.col; unfold maxLen; omega)
  have n2 := fun W => uid_calls q.uid W (by have := hF.uid; unfold maxLen; omega)
  have nE := fun k (hk : k < q.ops.length) W => uid_calls q.ops[k]!.uid W (by have := (hF.each k hk).1; unfold maxLen; omega)
  have hn := hF.ops
  obtain ⟨k, tenant, col, uid, card, ck, cv, ops, tok, most, ticks⟩ := q
  generalize hR : namedB [false, false, false, h3, h4, h5, h6, h7, h8] ⟨k, tenant, col, uid, card, ck, cv, ops, tok, most, ticks⟩ = R
  simp only [namedB, List.getD_cons_zero, List.getD_cons_succ] at hR
  obtain ⟨n, hN⟩ : ∃ n, n = ops.length := ⟨_, rfl⟩
  simp only [Rq.val, ← hN] at n0 n1 n2 nE hn hR ⊢
  generalize nameB tenant.data.toList = b0 at n0 hR
  generalize nameB col.data.toList = b1 at n1 hR
  generalize uidB uid.data.toList = b2 at n2 hR
  have HO := Lib.hid hO
  have HR := Lib.hid hR
  have HN := Lib.hid hN
  have N0 := Lib.hid n0
  have N1 := Lib.hid n1
  have N2 := Lib.hid n2
  have NE := Lib.hid nE
  clear hO hR hN n0 n1 n2 nE hF
  go_enter Tryz.func51, Tryz.ntmps51
  go_wp2
  try any_goals (go_ret; exact ⟨ret_bool (by rw [← HR.out]; simp [*]), ((Below.refl _ _).alloc (Nat.le_refl _) _).alloc (by simp) _⟩)
  have HF := Lib.hid (show (ops.all fun o => uidB o.uid.data.toList) = R by rw [← HR.out]; simp [*])
  clear HR N0 N1 N2
  go_loopw [38] (fun i wr => ∃ k : Nat, k ≤ n ∧ i = .int .i64 k ∧ Below w.heap.size w wr ∧ Hid ((ops.take k).all (fun o => uidB o.uid.data.toList) = true)) (fun i _ => n - (intOf i).toNat)
  case atStart => exact ⟨0, Nat.zero_le _, rfl, ((Below.refl _ _).alloc (Nat.le_refl _) _).alloc (by simp) _, rfl⟩
  case round =>
    obtain ⟨k, hk, rfl, hb, HK⟩ := hrel
    by_cases hlt : k < n
    · have hltO : k < ops.length := by rw [← HN.out]; exact hlt
      have hsn := all_snoc (fun o => uidB o.uid.data.toList) ops k hltO
      have hno := all_no (p := fun o => uidB o.uid.data.toList) hltO
      have hcall := fun W => NE.out k hlt W
      obtain ⟨x, hx⟩ : ∃ x, ops[k]! = x := ⟨_, rfl⟩
      obtain ⟨ad, hA, hl, c0, c1, c2, c3, c4⟩ := (HO.out.below hb).at_ k hltO x hx
      subst hA
      rw [hx] at hsn hno hcall
      obtain ⟨xd, xu, xc, xk, xv⟩ := x
      have hz := hb.size
      rw [HK.out, Bool.true_and] at hsn
      rw [HF.out] at hno
      simp only at hsn hno c0 c1 c2 c3 c4 hcall
      generalize uidB xu.data.toList = u at hsn hno hcall
      have HS := Lib.hid hsn
      have HC := Lib.hid hcall
      clear hsn hx hcall
      cases u with
      | false =>
        obtain rfl : R = false := hno rfl
        clear hno
        go_wp2_with (go_at_call 67; refine (HC.out _).mono ?_; rintro e w1 ⟨rfl, rfl⟩)
        go_ret
        exact ⟨rfl, hb.alloc hb.size _⟩
      | true =>
        clear hno
        go_wp2_with (go_at_call 67; refine (HC.out _).mono ?_; rintro e w1 ⟨rfl, rfl⟩)
        go_round
        case rel => exact ⟨k + 1, by omega, by go_num, hb.alloc hb.size _, HS.out⟩
        case measure => simp [intOf]; omega
    · obtain rfl : k = n := by omega
      have hfin := HK.out
      rw [List.take_of_length_le (by rw [HN.out]; omega), HF.out] at hfin
      subst hfin
      go_wp2
      go_ret
      exact ⟨rfl, hb⟩

theorem named_calls (kk : Int) (q : Rq) (A : Option Addr) (c : Nat) (w : World) (hO : OpsAt w A q.ops) (hF : Fits q) :
    Calls Tryz.prog 51 #[q.val A c, .agg ((hasL kk).map Value.bool).toArray] w fun e w' => e = .returned (.bool (namedB (hasL kk) q)) ∧ Below w.heap.size w w' := by
  unfold hasL
  (repeat' split)
  all_goals first
    | exact named_0 _ _ _ _ _ _ q A c w hO hF
    | exact named_1 _ _ _ _ _ _ q A c w hO hF
    | exact named_2 _ _ _ _ _ _ q A c w hO hF
    | exact named_3 _ _ _ _ _ _ q A c w hO hF
end Go.Proofs.YtcmoidldalgljaaGreatDoor

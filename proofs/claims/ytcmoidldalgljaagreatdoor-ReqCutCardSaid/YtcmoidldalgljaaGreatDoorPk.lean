/-
  Contract: req.formed. Printed by gen_formed.py.
-/
import Derived.Test.YtcmoidldalgljaaGreatDoorPj
set_option linter.unusedVariables false
set_option linter.unusedSimpArgs false
namespace Go.Proofs.YtcmoidldalgljaaGreatDoor
open Go.RowKit
open Hen

set_option maxHeartbeats 8000000 in
set_option maxRecDepth 100000 in
theorem formed_0 (h0 h1 h2 h5 h6 h7 h8 : Bool) (q : Rq) (A : Option Addr) (c : Nat) (w : World) (hO : OpsAt w A q.ops) (hF : Fits q) (hG : GL w) :
    Calls Tryz.prog 52 #[q.val A c, .agg #[.bool h0, .bool h1, .bool h2, .bool true, .bool true, .bool h5, .bool h6, .bool h7, .bool h8]] w fun e w' => e = .returned (.bool (formedB [h0, h1, h2, true, true, h5, h6, h7, h8] q)) ∧ Below w.heap.size w w' := by
  have n3 := fun W hW => card_is_calls q.card W hF.card hW
  have n4 := fun W => may_c_calls q.ck q.cv W
  have nE := fun k (hk : k < q.ops.length) W hW => card_is_calls q.ops[k]!.card W (hF.each k hk).2 hW
  have hn := hF.ops
  obtain ⟨k, tenant, col, uid, card, ck, cv, ops, tok, most, ticks⟩ := q
  generalize hR : formedB [h0, h1, h2, true, true, h5, h6, h7, h8] ⟨k, tenant, col, uid, card, ck, cv, ops, tok, most, ticks⟩ = R
  simp only [formedB, List.getD_cons_zero, List.getD_cons_succ] at hR
  obtain ⟨n, hN⟩ : ∃ n, n = ops.length := ⟨_, rfl⟩
  simp only [Rq.val, ← hN] at n3 n4 nE hn hR ⊢
  generalize cardB card.data.toList = b3 at n3 hR
  generalize mayC ck cv = b4 at n4 hR
  have HO := Lib.hid hO
  have HR := Lib.hid hR
  have HN := Lib.hid hN
  have N3 := Lib.hid n3
  have N4 := Lib.hid n4
  have NE := Lib.hid nE
  have HG := Lib.hid hG
  have hbw0 := ((Below.refl _ w).alloc (Nat.le_refl _) (.cells #[.int .i64 k, .string tenant, .string col, .string uid, .string card, .int .i64 ck, .int .i64 cv, .slice A n c, .int .i64 tok, .int .i64 most, .int .i64 ticks] 26)).alloc (by simp) (.cells #[.bool h0, .bool h1, .bool h2, .bool true, .bool true, .bool h5, .bool h6, .bool h7, .bool h8] 77)
  clear hO hR hN n3 n4 nE hF hG
  cases b3 with
  | false =>
    go_enter Tryz.func52, Tryz.ntmps52
    go_wp2_with fail
    refine (N3.out _ (HG.out.below hbw0)).mono ?_
    rintro e w3 ⟨rfl, hb3⟩
    obtain ⟨hbw, hB1, hB2⟩ := two_boxes hb3
    go_wp2
    go_ret
    exact ⟨ret_bool (by rw [← HR.out]; simp), hbw⟩
  | true =>
  cases b4 with
  | false =>
    go_enter Tryz.func52, Tryz.ntmps52
    go_wp2_with fail
    refine (N3.out _ (HG.out.below hbw0)).mono ?_
    rintro e w3 ⟨rfl, hb3⟩
    obtain ⟨hbw, hB1, hB2⟩ := two_boxes hb3
    have p5 : w3.cell? ⟨w.heap.size, 5, none⟩ = some (.int .i64 ck) := hB1.cell 5 rfl
    have p6 : w3.cell? ⟨w.heap.size, 6, none⟩ = some (.int .i64 cv) := hB1.cell 6 rfl
    have p7 : w3.cell? ⟨w.heap.size, 7, none⟩ = some (.slice A n c) := hB1.cell 7 rfl
    have p4 : w3.cell? ⟨w.heap.size + 1, 4, none⟩ = some (.bool true) := hB2.cell 4 rfl
    clear hB1 hB2
    go_wp2_with fail
    refine (N4.out _).mono ?_
    rintro e w4 ⟨rfl, hb4⟩
    go_wp2
    go_ret
    exact ⟨ret_bool (by rw [← HR.out]; simp), below_step hbw hbw.size hb4⟩
  | true =>
  go_enter Tryz.func52, Tryz.ntmps52
  go_wp2_with fail
  refine (N3.out _ (HG.out.below hbw0)).mono ?_
  rintro e w3 ⟨rfl, hb3⟩
  obtain ⟨hbw, hB1, hB2⟩ := two_boxes hb3
  have p5 : w3.cell? ⟨w.heap.size, 5, none⟩ = some (.int .i64 ck) := hB1.cell 5 rfl
  have p6 : w3.cell? ⟨w.heap.size, 6, none⟩ = some (.int .i64 cv) := hB1.cell 6 rfl
  have p7 : w3.cell? ⟨w.heap.size, 7, none⟩ = some (.slice A n c) := hB1.cell 7 rfl
  have p4 : w3.cell? ⟨w.heap.size + 1, 4, none⟩ = some (.bool true) := hB2.cell 4 rfl
  go_wp2_with fail
  refine (N4.out _).mono ?_
  rintro e w4 ⟨rfl, hb4⟩
  have p7' : w4.cell? ⟨w.heap.size, 7, none⟩ = some (.slice A n c) := (hB1.step hb4).cell 7 rfl
  have hbw := below_step hbw hbw.size hb4
  clear hB1 hB2 p5 p6 p7 p4
  go_wp2
  have HF := Lib.hid (show ops.all formO = R by rw [← HR.out]; simp)
  clear HR
  go_loopw [28] (fun i wr => ∃ k : Nat, k ≤ n ∧ i = .int .i64 k ∧ Below w.heap.size w wr ∧ Hid ((ops.take k).all formO = true)) (fun i _ => n - (intOf i).toNat)
  case atStart => exact ⟨0, Nat.zero_le _, rfl, hbw, rfl⟩
  case round =>
    obtain ⟨k, hk, rfl, hb, HK⟩ := hrel
    have hz := hb.size
    by_cases hlt : k < n
    · have hltO : k < ops.length := by rw [← HN.out]; exact hlt
      have hsn := all_snoc formO ops k hltO
      have hno := all_no (p := formO) hltO
      have hcall := fun W hW => NE.out k hlt W hW
      obtain ⟨x, hx⟩ : ∃ x, ops[k]! = x := ⟨_, rfl⟩
      obtain ⟨ad, hA, hl, c0, c1, c2, c3, c4⟩ := (HO.out.below hb).at_ k hltO x hx
      subst hA
      rw [hx] at hsn hno hcall
      obtain ⟨xd, xu, xc, xk, xv⟩ := x
      rw [HK.out, Bool.true_and] at hsn
      rw [HF.out] at hno
      simp only [formO] at hsn hno c0 c1 c2 c3 c4 hcall
      have hmay := fun W => may_c_calls xk xv W
      generalize cardB xc.data.toList = u at hsn hno hcall
      generalize mayC xk xv = m at hsn hno hmay
      have HS := Lib.hid hsn
      have HC := Lib.hid hcall
      have HM := Lib.hid hmay
      have hbx := hb.alloc hb.size (.cells #[.bool xd, .string xu, .string xc, .int .i64 xk, .int .i64 xv] 40)
      clear hsn hx hcall hmay
      cases xd with
      | true =>
        cases m with
        | false =>
          obtain rfl : R = false := hno (by simp)
          clear hno
          go_wp2_with fail
          refine (HM.out _).mono ?_
          rintro e w1 ⟨rfl, hb1⟩
          go_wp2
          go_ret
          exact ⟨rfl, below_step hbx hbx.size hb1⟩
        | true =>
          clear hno
          go_wp2_with fail
          refine (HM.out _).mono ?_
          rintro e w1 ⟨rfl, hb1⟩
          have hfin := below_step hbx hbx.size hb1
          go_wp2
          go_round
          case rel => exact ⟨k + 1, by omega, by go_num, hfin, HS.out⟩
          case measure => simp [intOf]; omega
      | false =>
        cases u with
        | false =>
          obtain rfl : R = false := hno (by simp)
          clear hno
          go_wp2_with fail
          refine (HC.out _ (HG.out.below hbx)).mono ?_
          rintro e w1 ⟨rfl, hb1⟩
          go_wp2
          go_ret
          exact ⟨rfl, below_step hbx hbx.size hb1⟩
        | true =>
          have hbox1 := fun w1 (hb1 : Below (wr.alloc (.cells #[.bool false, .string xu, .string xc, .int .i64 xk, .int .i64 xv] 40)).heap.size (wr.alloc (.cells #[.bool false, .string xu, .string xc, .int .i64 xk, .int .i64 xv] 40)) w1) => (Box.new wr #[.bool false, .string xu, .string xc, .int .i64 xk, .int .i64 xv] 40).step hb1
          have HBX := Lib.hid hbox1
          clear hbox1
          cases m with
          | false =>
            obtain rfl : R = false := hno (by simp)
            clear hno
            go_wp2_with fail
            refine (HC.out _ (HG.out.below hbx)).mono ?_
            rintro e w1 ⟨rfl, hb1⟩
            have d3 : w1.cell? ⟨wr.heap.size, 3, none⟩ = some (.int .i64 xk) := (HBX.out w1 hb1).cell 3 rfl
            have d4 : w1.cell? ⟨wr.heap.size, 4, none⟩ = some (.int .i64 xv) := (HBX.out w1 hb1).cell 4 rfl
            have hb1' := below_step hbx hbx.size hb1
            go_wp2_with fail
            refine (HM.out _).mono ?_
            rintro e w2 ⟨rfl, hb2⟩
            go_wp2
            go_ret
            exact ⟨rfl, below_step hb1' hb1'.size hb2⟩
          | true =>
            clear hno
            go_wp2_with fail
            refine (HC.out _ (HG.out.below hbx)).mono ?_
            rintro e w1 ⟨rfl, hb1⟩
            have d3 : w1.cell? ⟨wr.heap.size, 3, none⟩ = some (.int .i64 xk) := (HBX.out w1 hb1).cell 3 rfl
            have d4 : w1.cell? ⟨wr.heap.size, 4, none⟩ = some (.int .i64 xv) := (HBX.out w1 hb1).cell 4 rfl
            have hb1' := below_step hbx hbx.size hb1
            go_wp2_with fail
            refine (HM.out _).mono ?_
            rintro e w2 ⟨rfl, hb2⟩
            have hfin := below_step hb1' hb1'.size hb2
            go_wp2
            go_round
            case rel => exact ⟨k + 1, by omega, by go_num, hfin, HS.out⟩
            case measure => simp [intOf]; omega
    · obtain rfl : k = n := by omega
      have hfin := HK.out
      rw [List.take_of_length_le (by rw [HN.out]; omega), HF.out] at hfin
      subst hfin
      go_wp2
      go_ret
      exact ⟨rfl, hb⟩

set_option maxHeartbeats 8000000 in
set_option maxRecDepth 100000 in
theorem formed_1 (h0 h1 h2 h5 h6 h7 h8 : Bool) (q : Rq) (A : Option Addr) (c : Nat) (w : World) (hO : OpsAt w A q.ops) (hF : Fits q) (hG : GL w) :
    Calls Tryz.prog 52 #[q.val A c, .agg #[.bool h0, .bool h1, .bool h2, .bool false, .bool true, .bool h5, .bool h6, .bool h7, .bool h8]] w fun e w' => e = .returned (.bool (formedB [h0, h1, h2, false, true, h5, h6, h7, h8] q)) ∧ Below w.heap.size w w' := by
  have n3 := fun W hW => card_is_calls q.card W hF.card hW
  have n4 := fun W => may_c_calls q.ck q.cv W
  have nE := fun k (hk : k < q.ops.length) W hW => card_is_calls q.ops[k]!.card W (hF.each k hk).2 hW
  have hn := hF.ops
  obtain ⟨k, tenant, col, uid, card, ck, cv, ops, tok, most, ticks⟩ := q
  generalize hR : formedB [h0, h1, h2, false, true, h5, h6, h7, h8] ⟨k, tenant, col, uid, card, ck, cv, ops, tok, most, ticks⟩ = R
  simp only [formedB, List.getD_cons_zero, List.getD_cons_succ] at hR
  obtain ⟨n, hN⟩ : ∃ n, n = ops.length := ⟨_, rfl⟩
  simp only [Rq.val, ← hN] at n3 n4 nE hn hR ⊢
  generalize cardB card.data.toList = b3 at n3 hR
  generalize mayC ck cv = b4 at n4 hR
  have HO := Lib.hid hO
  have HR := Lib.hid hR
  have HN := Lib.hid hN
  have N3 := Lib.hid n3
  have N4 := Lib.hid n4
  have NE := Lib.hid nE
  have HG := Lib.hid hG
  have hbw0 := ((Below.refl _ w).alloc (Nat.le_refl _) (.cells #[.int .i64 k, .string tenant, .string col, .string uid, .string card, .int .i64 ck, .int .i64 cv, .slice A n c, .int .i64 tok, .int .i64 most, .int .i64 ticks] 26)).alloc (by simp) (.cells #[.bool h0, .bool h1, .bool h2, .bool false, .bool true, .bool h5, .bool h6, .bool h7, .bool h8] 77)
  clear hO hR hN n3 n4 nE hF hG
  cases b4 with
  | false =>
    go_enter Tryz.func52, Tryz.ntmps52
    go_wp2_with fail
    refine (N4.out _).mono ?_
    rintro e w3 ⟨rfl, hb3⟩
    obtain ⟨hbw, hB1, hB2⟩ := two_boxes hb3
    go_wp2
    go_ret
    exact ⟨ret_bool (by rw [← HR.out]; simp), hbw⟩
  | true =>
  go_enter Tryz.func52, Tryz.ntmps52
  go_wp2_with fail
  refine (N4.out _).mono ?_
  rintro e w3 ⟨rfl, hb3⟩
  obtain ⟨hbw, hB1, hB2⟩ := two_boxes hb3
  have p7 : w3.cell? ⟨w.heap.size, 7, none⟩ = some (.slice A n c) := hB1.cell 7 rfl
  clear hB1 hB2
  go_wp2
  have HF := Lib.hid (show ops.all formO = R by rw [← HR.out]; simp)
  clear HR
  go_loopw [28] (fun i wr => ∃ k : Nat, k ≤ n ∧ i = .int .i64 k ∧ Below w.heap.size w wr ∧ Hid ((ops.take k).all formO = true)) (fun i _ => n - (intOf i).toNat)
  case atStart => exact ⟨0, Nat.zero_le _, rfl, hbw, rfl⟩
  case round =>
    obtain ⟨k, hk, rfl, hb, HK⟩ := hrel
    have hz := hb.size
    by_cases hlt : k < n
    · have hltO : k < ops.length := by rw [← HN.out]; exact hlt
      have hsn := all_snoc formO ops k hltO
      have hno := all_no (p := formO) hltO
      have hcall := fun W hW => NE.out k hlt W hW
      obtain ⟨x, hx⟩ : ∃ x, ops[k]! = x := ⟨_, rfl⟩
      obtain ⟨ad, hA, hl, c0, c1, c2, c3, c4⟩ := (HO.out.below hb).at_ k hltO x hx
      subst hA
      rw [hx] at hsn hno hcall
      obtain ⟨xd, xu, xc, xk, xv⟩ := x
      rw [HK.out, Bool.true_and] at hsn
      rw [HF.out] at hno
      simp only [formO] at hsn hno c0 c1 c2 c3 c4 hcall
      have hmay := fun W => may_c_calls xk xv W
      generalize cardB xc.data.toList = u at hsn hno hcall
      generalize mayC xk xv = m at hsn hno hmay
      have HS := Lib.hid hsn
      have HC := Lib.hid hcall
      have HM := Lib.hid hmay
      have hbx := hb.alloc hb.size (.cells #[.bool xd, .string xu, .string xc, .int .i64 xk, .int .i64 xv] 40)
      clear hsn hx hcall hmay
      cases xd with
      | true =>
        cases m with
        | false =>
          obtain rfl : R = false := hno (by simp)
          clear hno
          go_wp2_with fail
          refine (HM.out _).mono ?_
          rintro e w1 ⟨rfl, hb1⟩
          go_wp2
          go_ret
          exact ⟨rfl, below_step hbx hbx.size hb1⟩
        | true =>
          clear hno
          go_wp2_with fail
          refine (HM.out _).mono ?_
          rintro e w1 ⟨rfl, hb1⟩
          have hfin := below_step hbx hbx.size hb1
          go_wp2
          go_round
          case rel => exact ⟨k + 1, by omega, by go_num, hfin, HS.out⟩
          case measure => simp [intOf]; omega
      | false =>
        cases u with
        | false =>
          obtain rfl : R = false := hno (by simp)
          clear hno
          go_wp2_with fail
          refine (HC.out _ (HG.out.below hbx)).mono ?_
          rintro e w1 ⟨rfl, hb1⟩
          go_wp2
          go_ret
          exact ⟨rfl, below_step hbx hbx.size hb1⟩
        | true =>
          have hbox1 := fun w1 (hb1 : Below (wr.alloc (.cells #[.bool false, .string xu, .string xc, .int .i64 xk, .int .i64 xv] 40)).heap.size (wr.alloc (.cells #[.bool false, .string xu, .string xc, .int .i64 xk, .int .i64 xv] 40)) w1) => (Box.new wr #[.bool false, .string xu, .string xc, .int .i64 xk, .int .i64 xv] 40).step hb1
          have HBX := Lib.hid hbox1
          clear hbox1
          cases m with
          | false =>
            obtain rfl : R = false := hno (by simp)
            clear hno
            go_wp2_with fail
            refine (HC.out _ (HG.out.below hbx)).mono ?_
            rintro e w1 ⟨rfl, hb1⟩
            have d3 : w1.cell? ⟨wr.heap.size, 3, none⟩ = some (.int .i64 xk) := (HBX.out w1 hb1).cell 3 rfl
            have d4 : w1.cell? ⟨wr.heap.size, 4, none⟩ = some (.int .i64 xv) := (HBX.out w1 hb1).cell 4 rfl
            have hb1' := below_step hbx hbx.size hb1
            go_wp2_with fail
            refine (HM.out _).mono ?_
            rintro e w2 ⟨rfl, hb2⟩
            go_wp2
            go_ret
            exact ⟨rfl, below_step hb1' hb1'.size hb2⟩
          | true =>
            clear hno
            go_wp2_with fail
            refine (HC.out _ (HG.out.below hbx)).mono ?_
            rintro e w1 ⟨rfl, hb1⟩
            have d3 : w1.cell? ⟨wr.heap.size, 3, none⟩ = some (.int .i64 xk) := (HBX.out w1 hb1).cell 3 rfl
            have d4 : w1.cell? ⟨wr.heap.size, 4, none⟩ = some (.int .i64 xv) := (HBX.out w1 hb1).cell 4 rfl
            have hb1' := below_step hbx hbx.size hb1
            go_wp2_with fail
            refine (HM.out _).mono ?_
            rintro e w2 ⟨rfl, hb2⟩
            have hfin := below_step hb1' hb1'.size hb2
            go_wp2
            go_round
            case rel => exact ⟨k + 1, by omega, by go_num, hfin, HS.out⟩
            case measure => simp [intOf]; omega
    · obtain rfl : k = n := by omega
      have hfin := HK.out
      rw [List.take_of_length_le (by rw [HN.out]; omega), HF.out] at hfin
      subst hfin
      go_wp2
      go_ret
      exact ⟨rfl, hb⟩

set_option maxHeartbeats 8000000 in
set_option maxRecDepth 100000 in
theorem formed_2 (h0 h1 h2 h5 h6 h7 h8 : Bool) (q : Rq) (A : Option Addr) (c : Nat) (w : World) (hO : OpsAt w A q.ops) (hF : Fits q) (hG : GL w) :
    Calls Tryz.prog 52 #[q.val A c, .agg #[.bool h0, .bool h1, .bool h2, .bool false, .bool false, .bool h5, .bool h6, .bool h7, .bool h8]] w fun e w' => e = .returned (.bool (formedB [h0, h1, h2, false, false, h5, h6, h7, h8] q)) ∧ Below w.heap.size w w' := by
  have n3 := fun W hW => card_is_calls q.card W hF.card hW
  have n4 := fun W => may_c_calls q.ck q.cv W
  have nE := fun k (hk : k < q.ops.length) W hW => card_is_calls q.ops[k]!.card W (hF.each k hk).2 hW
  have hn := hF.ops
  obtain ⟨k, tenant, col, uid, card, ck, cv, ops, tok, most, ticks⟩ := q
  generalize hR : formedB [h0, h1, h2, false, false, h5, h6, h7, h8] ⟨k, tenant, col, uid, card, ck, cv, ops, tok, most, ticks⟩ = R
  simp only [formedB, List.getD_cons_zero, List.getD_cons_succ] at hR
  obtain ⟨n, hN⟩ : ∃ n, n = ops.length := ⟨_, rfl⟩
  simp only [Rq.val, ← hN] at n3 n4 nE hn hR ⊢
  generalize cardB card.data.toList = b3 at n3 hR
  generalize mayC ck cv = b4 at n4 hR
  have HO := Lib.hid hO
  have HR := Lib.hid hR
  have HN := Lib.hid hN
  have N3 := Lib.hid n3
  have N4 := Lib.hid n4
  have NE := Lib.hid nE
  have HG := Lib.hid hG
  have hbw0 := ((Below.refl _ w).alloc (Nat.le_refl _) (.cells #[.int .i64 k, .string tenant, .string col, .string uid, .string card, .int .i64 ck, .int .i64 cv, .slice A n c, .int .i64 tok, .int .i64 most, .int .i64 ticks] 26)).alloc (by simp) (.cells #[.bool h0, .bool h1, .bool h2, .bool false, .bool false, .bool h5, .bool h6, .bool h7, .bool h8] 77)
  clear hO hR hN n3 n4 nE hF hG
  have hbw := hbw0
  go_enter Tryz.func52, Tryz.ntmps52
  go_wp2
  have HF := Lib.hid (show ops.all formO = R by rw [← HR.out]; simp)
  clear HR
  go_loopw [28] (fun i wr => ∃ k : Nat, k ≤ n ∧ i = .int .i64 k ∧ Below w.heap.size w wr ∧ Hid ((ops.take k).all formO = true)) (fun i _ => n - (intOf i).toNat)
  case atStart => exact ⟨0, Nat.zero_le _, rfl, hbw, rfl⟩
  case round =>
    obtain ⟨k, hk, rfl, hb, HK⟩ := hrel
    have hz := hb.size
    by_cases hlt : k < n
    · have hltO : k < ops.length := by rw [← HN.out]; exact hlt
      have hsn := all_snoc formO ops k hltO
      have hno := all_no (p := formO) hltO
      have hcall := fun W hW => NE.out k hlt W hW
      obtain ⟨x, hx⟩ : ∃ x, ops[k]! = x := ⟨_, rfl⟩
      obtain ⟨ad, hA, hl, c0, c1, c2, c3, c4⟩ := (HO.out.below hb).at_ k hltO x hx
      subst hA
      rw [hx] at hsn hno hcall
      obtain ⟨xd, xu, xc, xk, xv⟩ := x
      rw [HK.out, Bool.true_and] at hsn
      rw [HF.out] at hno
      simp only [formO] at hsn hno c0 c1 c2 c3 c4 hcall
      have hmay := fun W => may_c_calls xk xv W
      generalize cardB xc.data.toList = u at hsn hno hcall
      generalize mayC xk xv = m at hsn hno hmay
      have HS := Lib.hid hsn
      have HC := Lib.hid hcall
      have HM := Lib.hid hmay
      have hbx := hb.alloc hb.size (.cells #[.bool xd, .string xu, .string xc, .int .i64 xk, .int .i64 xv] 40)
      clear hsn hx hcall hmay
      cases xd with
      | true =>
        cases m with
        | false =>
          obtain rfl : R = false := hno (by simp)
          clear hno
          go_wp2_with fail
          refine (HM.out _).mono ?_
          rintro e w1 ⟨rfl, hb1⟩
          go_wp2
          go_ret
          exact ⟨rfl, below_step hbx hbx.size hb1⟩
        | true =>
          clear hno
          go_wp2_with fail
          refine (HM.out _).mono ?_
          rintro e w1 ⟨rfl, hb1⟩
          have hfin := below_step hbx hbx.size hb1
          go_wp2
          go_round
          case rel => exact ⟨k + 1, by omega, by go_num, hfin, HS.out⟩
          case measure => simp [intOf]; omega
      | false =>
        cases u with
        | false =>
          obtain rfl : R = false := hno (by simp)
          clear hno
          go_wp2_with fail
          refine (HC.out _ (HG.out.below hbx)).mono ?_
          rintro e w1 ⟨rfl, hb1⟩
          go_wp2
          go_ret
          exact ⟨rfl, below_step hbx hbx.size hb1⟩
        | true =>
          have hbox1 := fun w1 (hb1 : Below (wr.alloc (.cells #[.bool false, .string xu, .string xc, .int .i64 xk, .int .i64 xv] 40)).heap.size (wr.alloc (.cells #[.bool false, .string xu, .string xc, .int .i64 xk, .int .i64 xv] 40)) w1) => (Box.new wr #[.bool false, .string xu, .string xc, .int .i64 xk, .int .i64 xv] 40).step hb1
          have HBX := Lib.hid hbox1
          clear hbox1
          cases m with
          | false =>
            obtain rfl : R = false := hno (by simp)
            clear hno
            go_wp2_with fail
            refine (HC.out _ (HG.out.below hbx)).mono ?_
            rintro e w1 ⟨rfl, hb1⟩
            have d3 : w1.cell? ⟨wr.heap.size, 3, none⟩ = some (.int .i64 xk) := (HBX.out w1 hb1).cell 3 rfl
            have d4 : w1.cell? ⟨wr.heap.size, 4, none⟩ = some (.int .i64 xv) := (HBX.out w1 hb1).cell 4 rfl
            have hb1' := below_step hbx hbx.size hb1
            go_wp2_with fail
            refine (HM.out _).mono ?_
            rintro e w2 ⟨rfl, hb2⟩
            go_wp2
            go_ret
            exact ⟨rfl, below_step hb1' hb1'.size hb2⟩
          | true =>
            clear hno
            go_wp2_with fail
            refine (HC.out _ (HG.out.below hbx)).mono ?_
            rintro e w1 ⟨rfl, hb1⟩
            have d3 : w1.cell? ⟨wr.heap.size, 3, none⟩ = some (.int .i64 xk) := (HBX.out w1 hb1).cell 3 rfl
            have d4 : w1.cell? ⟨wr.heap.size, 4, none⟩ = some (.int .i64 xv) := (HBX.out w1 hb1).cell 4 rfl
            have hb1' := below_step hbx hbx.size hb1
            go_wp2_with fail
            refine (HM.out _).mono ?_
            rintro e w2 ⟨rfl, hb2⟩
            have hfin := below_step hb1' hb1'.size hb2
            go_wp2
            go_round
            case rel => exact ⟨k + 1, by omega, by go_num, hfin, HS.out⟩
            case measure => simp [intOf]; omega
    · obtain rfl : k = n := by omega
      have hfin := HK.out
      rw [List.take_of_length_le (by rw [HN.out]; omega), HF.out] at hfin
      subst hfin
      go_wp2
      go_ret
      exact ⟨rfl, hb⟩

theorem formed_calls (kk : Int) (q : Rq) (A : Option Addr) (c : Nat) (w : World) (hO : OpsAt w A q.ops) (hF : Fits q) (hG : GL w) :
    Calls Tryz.prog 52 #[q.val A c, .agg ((hasL kk).map Value.bool).toArray] w fun e w' => e = .returned (.bool (formedB (hasL kk) q)) ∧ Below w.heap.size w w' := by
  unfold hasL
  (repeat' split)
  all_goals first
    | exact formed_0 _ _ _ _ _ _ _ q A c w hO hF hG
    | exact formed_1 _ _ _ _ _ _ _ q A c w hO hF hG
    | exact formed_2 _ _ _ _ _ _ _ q A c w hO hF hG
end Go.Proofs.YtcmoidldalgljaaGreatDoor
set_option linter.unusedVariables false
set_option linter.unusedSimpArgs false
namespace Go.Proofs.YtcmoidldalgljaaGreatDoor
open Go.RowKit
open Hen

namespace Hen
def rangeB (h : List Bool) (q : Rq) : Bool :=
  (h.getD 5 false && (decide (q.ops.length < 1) || decide (8 < q.ops.length))) || decide (q.tok < 0) || (h.getD 7 false && (decide (q.most < 1) || decide (1000 < q.most))) || (decide (q.ticks < 0) || decide (1048576 < q.ticks))
def checkE (q : Rq) : Int :=
  if isK q.k = false then 12 else if strayB (hasL q.k) q = true then 1 else if namedB (hasL q.k) q = false then 3 else if formedB (hasL q.k) q = false then 1 else if rangeB (hasL q.k) q = true then 12 else 0
end Hen
theorem hasL_nine (k : Int) : ∃ h0 h1 h2 h3 h4 h5 h6 h7 h8 : Bool, hasL k = [h0, h1, h2, h3, h4, h5, h6, h7, h8] := by
  unfold hasL
  (repeat' split)
  all_goals exact ⟨_, _, _, _, _, _, _, _, _, rfl⟩
theorem Box.tuple11 {W : World} {g : Nat} {a0 a1 a2 a3 a4 a5 a6 a7 a8 a9 a10 : Value} (h : Box W g [a0, a1, a2, a3, a4, a5, a6, a7, a8, a9, a10]) :
    W.cell? ⟨g, 0, none⟩ = some a0 ∧ W.cell? ⟨g, 1, none⟩ = some a1 ∧ W.cell? ⟨g, 2, none⟩ = some a2 ∧ W.cell? ⟨g, 3, none⟩ = some a3 ∧ W.cell? ⟨g, 4, none⟩ = some a4 ∧ W.cell? ⟨g, 5, none⟩ = some a5 ∧ W.cell? ⟨g, 6, none⟩ = some a6 ∧ W.cell? ⟨g, 7, none⟩ = some a7 ∧ W.cell? ⟨g, 8, none⟩ = some a8 ∧ W.cell? ⟨g, 9, none⟩ = some a9 ∧ W.cell? ⟨g, 10, none⟩ = some a10 :=
  ⟨h.cell 0 rfl, h.cell 1 rfl, h.cell 2 rfl, h.cell 3 rfl, h.cell 4 rfl, h.cell 5 rfl, h.cell 6 rfl, h.cell 7 rfl, h.cell 8 rfl, h.cell 9 rfl, h.cell 10 rfl⟩
theorem Box.tuple9 {W : World} {g : Nat} {a0 a1 a2 a3 a4 a5 a6 a7 a8 : Value} (h : Box W g [a0, a1, a2, a3, a4, a5, a6, a7, a8]) :
    W.cell? ⟨g, 0, none⟩ = some a0 ∧ W.cell? ⟨g, 1, none⟩ = some a1 ∧ W.cell? ⟨g, 2, none⟩ = some a2 ∧ W.cell? ⟨g, 3, none⟩ = some a3 ∧ W.cell? ⟨g, 4, none⟩ = some a4 ∧ W.cell? ⟨g, 5, none⟩ = some a5 ∧ W.cell? ⟨g, 6, none⟩ = some a6 ∧ W.cell? ⟨g, 7, none⟩ = some a7 ∧ W.cell? ⟨g, 8, none⟩ = some a8 :=
  ⟨h.cell 0 rfl, h.cell 1 rfl, h.cell 2 rfl, h.cell 3 rfl, h.cell 4 rfl, h.cell 5 rfl, h.cell 6 rfl, h.cell 7 rfl, h.cell 8 rfl⟩

set_option maxHeartbeats 8000000 in
set_option maxRecDepth 100000 in
theorem check_q_calls (q : Rq) (A : Option Addr) (c : Nat) (w : World) (hO : OpsAt w A q.ops) (hF : Fits q) (hG : GL w) :
    Calls Tryz.prog 15 #[q.val A c] w fun e w' => e = .returned (.int .i64 (checkE q)) ∧ Below w.heap.size w w' := by
  have hE : checkE q = if isK q.k = false then 12 else if strayB (hasL q.k) q = true then 1 else if namedB (hasL q.k) q = false then 3 else if formedB (hasL q.k) q = false then 1 else if rangeB (hasL q.k) q = true then 12 else 0 := rfl
  have cI := fun W => is_calls q.k W
  have cF := fun W => fields_calls q.k W
  have cS := fun W (hW : OpsAt W A q.ops) => stray_calls q.k q A c W hW hF.ops
  have cN := fun W (hW : OpsAt W A q.ops) => named_calls q.k q A c W hW hF
  have cM := fun W (hW : OpsAt W A q.ops) (hg : GL W) => formed_calls q.k q A c W hW hF hg
  have hn := hF.ops
  unfold StrayCalls at cS
  generalize checkE q = E at hE ⊢
  generalize strayB (hasL q.k) q = bS at hE cS
  generalize namedB (hasL q.k) q = bN at hE cN
  generalize formedB (hasL q.k) q = bM at hE cM
  generalize isK q.k = bI at hE cI
  obtain ⟨h0, h1, h2, h3, h4, h5, h6, h7, h8, hh⟩ := hasL_nine q.k
  rw [hh] at hE
  simp only [hh, List.map] at cF cS cN cM
  have hrr : rangeB [h0, h1, h2, h3, h4, h5, h6, h7, h8] q = ((h5 && (decide (q.ops.length < 1) || decide (8 < q.ops.length))) || decide (q.tok < 0) || (h7 && (decide (q.most < 1) || decide (1000 < q.most))) || (decide (q.ticks < 0) || decide (1048576 < q.ticks))) := rfl
  rw [hrr] at hE
  clear hh hrr
  obtain ⟨k, tenant, col, uid, card, ck, cv, ops, tok, most, ticks⟩ := q
  obtain ⟨n, hN⟩ : ∃ n, n = ops.length := ⟨_, rfl⟩
  simp only [Rq.val, ← hN] at cI cF cS cN cM hE hn ⊢
  have HO := Lib.hid hO
  have HG := Lib.hid hG
  have CF := Lib.hid cF
  have CS := Lib.hid cS
  have CN := Lib.hid cN
  have CM := Lib.hid cM
  have CI := Lib.hid cI
  have HN := Lib.hid hN
  clear hO hG cF cS cN cM cI hF hN
  cases bI with
  | false =>
    rw [if_pos rfl] at hE
    subst hE
    go_enter Tryz.func15, Tryz.ntmps15
    go_wp2_with fail
    refine (CI.out _).mono ?_
    rintro e w1 ⟨rfl, rfl⟩
    go_wp2
    go_ret
    exact ⟨rfl, (Below.refl _ _).alloc (Nat.le_refl _) _⟩
  | true =>
  rw [if_neg (by simp)] at hE
  cases bS with
  | true =>
    rw [if_pos rfl] at hE
    subst hE
    go_enter Tryz.func15, Tryz.ntmps15
    go_wp2_with fail
    refine (CI.out _).mono ?_
    rintro e w1 ⟨rfl, rfl⟩
    go_wp2_with fail
    refine (CF.out _).mono ?_
    rintro e w2 ⟨rfl, hb2⟩
    obtain ⟨hP, hc⟩ := boxed hb2
    have hB := (Box.new w #[.int .i64 k, .string tenant, .string col, .string uid, .string card, .int .i64 ck, .int .i64 cv, .slice A n c, .int .i64 tok, .int .i64 most, .int .i64 ticks] 26).step hb2
    obtain ⟨q0, q1, q2, q3, q4, q5, q6, q7, q8, q9, q10⟩ := Box.tuple11 hB
    have hz := hP.more
    have hbw := hP.below.alloc hP.below.size (.cells #[.bool h0, .bool h1, .bool h2, .bool h3, .bool h4, .bool h5, .bool h6, .bool h7, .bool h8] 77)
    have hBa := hB.alloc (.cells #[.bool h0, .bool h1, .bool h2, .bool h3, .bool h4, .bool h5, .bool h6, .bool h7, .bool h8] 77)
    have hBb := Box.new w2 #[.bool h0, .bool h1, .bool h2, .bool h3, .bool h4, .bool h5, .bool h6, .bool h7, .bool h8] 77
    clear hb2 hc
    go_wp2_with fail
    refine (CS.out _ (HO.out.below hbw)).mono ?_
    rintro e w3 ⟨rfl, hb3⟩
    have hBa := hBa.step hb3
    have hBb := hBb.step hb3
    have hbw := below_step hbw (by have := hbw.size; simp at this ⊢; omega) hb3
    obtain ⟨aq0, aq1, aq2, aq3, aq4, aq5, aq6, aq7, aq8, aq9, aq10⟩ := Box.tuple11 hBa
    obtain ⟨ah0, ah1, ah2, ah3, ah4, ah5, ah6, ah7, ah8⟩ := Box.tuple9 hBb
    go_wp2
    go_ret
    exact ⟨rfl, hbw⟩
  | false =>
  rw [if_neg (by simp)] at hE
  cases bN with
  | false =>
    rw [if_pos rfl] at hE
    subst hE
    go_enter Tryz.func15, Tryz.ntmps15
    go_wp2_with fail
    refine (CI.out _).mono ?_
    rintro e w1 ⟨rfl, rfl⟩
    go_wp2_with fail
    refine (CF.out _).mono ?_
    rintro e w2 ⟨rfl, hb2⟩
    obtain ⟨hP, hc⟩ := boxed hb2
    have hB := (Box.new w #[.int .i64 k, .string tenant, .string col, .string uid, .string card, .int .i64 ck, .int .i64 cv, .slice A n c, .int .i64 tok, .int .i64 most, .int .i64 ticks] 26).step hb2
    obtain ⟨q0, q1, q2, q3, q4, q5, q6, q7, q8, q9, q10⟩ := Box.tuple11 hB
    have hz := hP.more
    have hbw := hP.below.alloc hP.below.size (.cells #[.bool h0, .bool h1, .bool h2, .bool h3, .bool h4, .bool h5, .bool h6, .bool h7, .bool h8] 77)
    have hBa := hB.alloc (.cells #[.bool h0, .bool h1, .bool h2, .bool h3, .bool h4, .bool h5, .bool h6, .bool h7, .bool h8] 77)
    have hBb := Box.new w2 #[.bool h0, .bool h1, .bool h2, .bool h3, .bool h4, .bool h5, .bool h6, .bool h7, .bool h8] 77
    clear hb2 hc
    go_wp2_with fail
    refine (CS.out _ (HO.out.below hbw)).mono ?_
    rintro e w3 ⟨rfl, hb3⟩
    have hBa := hBa.step hb3
    have hBb := hBb.step hb3
    have hbw := below_step hbw (by have := hbw.size; simp at this ⊢; omega) hb3
    obtain ⟨aq0, aq1, aq2, aq3, aq4, aq5, aq6, aq7, aq8, aq9, aq10⟩ := Box.tuple11 hBa
    obtain ⟨ah0, ah1, ah2, ah3, ah4, ah5, ah6, ah7, ah8⟩ := Box.tuple9 hBb
    go_wp2_with fail
    refine (CN.out _ (HO.out.below hbw)).mono ?_
    rintro e w4 ⟨rfl, hb4⟩
    have hBa := hBa.step hb4
    have hBb := hBb.step hb4
    have hbw := below_step hbw (by have := hbw.size; simp at this ⊢; omega) hb4
    obtain ⟨bq0, bq1, bq2, bq3, bq4, bq5, bq6, bq7, bq8, bq9, bq10⟩ := Box.tuple11 hBa
    obtain ⟨bh0, bh1, bh2, bh3, bh4, bh5, bh6, bh7, bh8⟩ := Box.tuple9 hBb
    go_wp2
    go_ret
    exact ⟨rfl, hbw⟩
  | true =>
  rw [if_neg (by simp)] at hE
  cases bM with
  | false =>
    rw [if_pos rfl] at hE
    subst hE
    go_enter Tryz.func15, Tryz.ntmps15
    go_wp2_with fail
    refine (CI.out _).mono ?_
    rintro e w1 ⟨rfl, rfl⟩
    go_wp2_with fail
    refine (CF.out _).mono ?_
    rintro e w2 ⟨rfl, hb2⟩
    obtain ⟨hP, hc⟩ := boxed hb2
    have hB := (Box.new w #[.int .i64 k, .string tenant, .string col, .string uid, .string card, .int .i64 ck, .int .i64 cv, .slice A n c, .int .i64 tok, .int .i64 most, .int .i64 ticks] 26).step hb2
    obtain ⟨q0, q1, q2, q3, q4, q5, q6, q7, q8, q9, q10⟩ := Box.tuple11 hB
    have hz := hP.more
    have hbw := hP.below.alloc hP.below.size (.cells #[.bool h0, .bool h1, .bool h2, .bool h3, .bool h4, .bool h5, .bool h6, .bool h7, .bool h8] 77)
    have hBa := hB.alloc (.cells #[.bool h0, .bool h1, .bool h2, .bool h3, .bool h4, .bool h5, .bool h6, .bool h7, .bool h8] 77)
    have hBb := Box.new w2 #[.bool h0, .bool h1, .bool h2, .bool h3, .bool h4, .bool h5, .bool h6, .bool h7, .bool h8] 77
    clear hb2 hc
    go_wp2_with fail
    refine (CS.out _ (HO.out.below hbw)).mono ?_
    rintro e w3 ⟨rfl, hb3⟩
    have hBa := hBa.step hb3
    have hBb := hBb.step hb3
    have hbw := below_step hbw (by have := hbw.size; simp at this ⊢; omega) hb3
    obtain ⟨aq0, aq1, aq2, aq3, aq4, aq5, aq6, aq7, aq8, aq9, aq10⟩ := Box.tuple11 hBa
    obtain ⟨ah0, ah1, ah2, ah3, ah4, ah5, ah6, ah7, ah8⟩ := Box.tuple9 hBb
    go_wp2_with fail
    refine (CN.out _ (HO.out.below hbw)).mono ?_
    rintro e w4 ⟨rfl, hb4⟩
    have hBa := hBa.step hb4
    have hBb := hBb.step hb4
    have hbw := below_step hbw (by have := hbw.size; simp at this ⊢; omega) hb4
    obtain ⟨bq0, bq1, bq2, bq3, bq4, bq5, bq6, bq7, bq8, bq9, bq10⟩ := Box.tuple11 hBa
    obtain ⟨bh0, bh1, bh2, bh3, bh4, bh5, bh6, bh7, bh8⟩ := Box.tuple9 hBb
    go_wp2_with fail
    refine (CM.out _ (HO.out.below hbw) (HG.out.below hbw)).mono ?_
    rintro e w5 ⟨rfl, hb5⟩
    have hBa := hBa.step hb5
    have hBb := hBb.step hb5
    have hbw := below_step hbw (by have := hbw.size; simp at this ⊢; omega) hb5
    obtain ⟨cq0, cq1, cq2, cq3, cq4, cq5, cq6, cq7, cq8, cq9, cq10⟩ := Box.tuple11 hBa
    obtain ⟨ch0, ch1, ch2, ch3, ch4, ch5, ch6, ch7, ch8⟩ := Box.tuple9 hBb
    go_wp2
    go_ret
    exact ⟨rfl, hbw⟩
  | true =>
  rw [if_neg (by simp)] at hE
  have HE := Lib.hid hE
  clear hE
  go_enter Tryz.func15, Tryz.ntmps15
  go_wp2_with fail
  refine (CI.out _).mono ?_
  rintro e w1 ⟨rfl, rfl⟩
  go_wp2_with fail
  refine (CF.out _).mono ?_
  rintro e w2 ⟨rfl, hb2⟩
  obtain ⟨hP, hc⟩ := boxed hb2
  have hB := (Box.new w #[.int .i64 k, .string tenant, .string col, .string uid, .string card, .int .i64 ck, .int .i64 cv, .slice A n c, .int .i64 tok, .int .i64 most, .int .i64 ticks] 26).step hb2
  obtain ⟨q0, q1, q2, q3, q4, q5, q6, q7, q8, q9, q10⟩ := Box.tuple11 hB
  have hz := hP.more
  have hbw := hP.below.alloc hP.below.size (.cells #[.bool h0, .bool h1, .bool h2, .bool h3, .bool h4, .bool h5, .bool h6, .bool h7, .bool h8] 77)
  have hBa := hB.alloc (.cells #[.bool h0, .bool h1, .bool h2, .bool h3, .bool h4, .bool h5, .bool h6, .bool h7, .bool h8] 77)
  have hBb := Box.new w2 #[.bool h0, .bool h1, .bool h2, .bool h3, .bool h4, .bool h5, .bool h6, .bool h7, .bool h8] 77
  clear hb2 hc
  go_wp2_with fail
  refine (CS.out _ (HO.out.below hbw)).mono ?_
  rintro e w3 ⟨rfl, hb3⟩
  have hBa := hBa.step hb3
  have hBb := hBb.step hb3
  have hbw := below_step hbw (by have := hbw.size; simp at this ⊢; omega) hb3
  obtain ⟨aq0, aq1, aq2, aq3, aq4, aq5, aq6, aq7, aq8, aq9, aq10⟩ := Box.tuple11 hBa
  obtain ⟨ah0, ah1, ah2, ah3, ah4, ah5, ah6, ah7, ah8⟩ := Box.tuple9 hBb
  go_wp2_with fail
  refine (CN.out _ (HO.out.below hbw)).mono ?_
  rintro e w4 ⟨rfl, hb4⟩
  have hBa := hBa.step hb4
  have hBb := hBb.step hb4
  have hbw := below_step hbw (by have := hbw.size; simp at this ⊢; omega) hb4
  obtain ⟨bq0, bq1, bq2, bq3, bq4, bq5, bq6, bq7, bq8, bq9, bq10⟩ := Box.tuple11 hBa
  obtain ⟨bh0, bh1, bh2, bh3, bh4, bh5, bh6, bh7, bh8⟩ := Box.tuple9 hBb
  go_wp2_with fail
  refine (CM.out _ (HO.out.below hbw) (HG.out.below hbw)).mono ?_
  rintro e w5 ⟨rfl, hb5⟩
  have hBa := hBa.step hb5
  have hBb := hBb.step hb5
  have hbw := below_step hbw (by have := hbw.size; simp at this ⊢; omega) hb5
  obtain ⟨cq0, cq1, cq2, cq3, cq4, cq5, cq6, cq7, cq8, cq9, cq10⟩ := Box.tuple11 hBa
  obtain ⟨ch0, ch1, ch2, ch3, ch4, ch5, ch6, ch7, ch8⟩ := Box.tuple9 hBb
  clear q0 q1 q2 q3 q4 q5 q6 q7 q8 q9 q10 aq0 aq1 aq2 aq3 aq4 aq5 aq6 aq7 aq8 aq9 aq10 bq0 bq1 bq2 bq3 bq4 bq5 bq6 bq7 bq8 bq9 bq10 ah0 ah1 ah2 ah3 ah4 ah5 ah6 ah7 ah8 bh0 bh1 bh2 bh3 bh4 bh5 bh6 bh7 bh8
  go_wp2
  all_goals
    go_ret
    refine ⟨ret_int ?_, hbw⟩
    rw [HE.out]
    cases h5 <;> cases h7
    all_goals first
      | (exfalso; contradiction)
      | (rw [if_pos (by simp; omega)])
      | (rw [if_neg (by simp; omega)])
      | (simp_all; done)
      | (simp_all; omega)
end Go.Proofs.YtcmoidldalgljaaGreatDoor

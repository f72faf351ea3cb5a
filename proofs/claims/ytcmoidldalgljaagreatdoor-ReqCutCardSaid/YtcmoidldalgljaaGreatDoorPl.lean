/-
  Contracts: henkeep.Light, UID, Card; req.Writes.
-/
import Derived.Test.YtcmoidldalgljaaGreatDoorPk
set_option linter.unusedVariables false
set_option linter.unusedSimpArgs false
namespace Go.Proofs.YtcmoidldalgljaaGreatDoor
open Go.RowKit
open Hen

namespace Hen
def lightO (o : Opx) : Bool := decide (o.uid.size ≤ 60) && decide (o.card.size ≤ 2000)
def lightB (q : Rq) : Bool := decide (q.tenant.size ≤ 60) && decide (q.col.size ≤ 60) && decide (q.uid.size ≤ 60) && decide (q.card.size ≤ 2000) && decide (q.ops.length ≤ 20) && q.ops.all lightO
end Hen

set_option maxHeartbeats 8000000 in
set_option maxRecDepth 100000 in
theorem light_calls (q : Rq) (A : Option Addr) (c : Nat) (w : World) (hO : OpsAt w A q.ops)
    (f0 : q.tenant.size ≤ 140737488355327) (f1 : q.col.size ≤ 140737488355327) (f2 : q.uid.size ≤ 140737488355327) (f3 : q.card.size ≤ 140737488355327) (f4 : q.ops.length ≤ 140737488355327)
    (f5 : ∀ k, k < q.ops.length → q.ops[k]!.uid.size ≤ 140737488355327 ∧ q.ops[k]!.card.size ≤ 140737488355327) :
    Calls Tryz.prog 12 #[q.val A c] w fun e w' => e = .returned (.bool (lightB q)) ∧ Below w.heap.size w w' := by
  obtain ⟨k, tenant, col, uid, card, ck, cv, ops, tok, most, ticks⟩ := q
  generalize hR : lightB ⟨k, tenant, col, uid, card, ck, cv, ops, tok, most, ticks⟩ = R
  simp only [lightB] at hR
  obtain ⟨n, hN⟩ : ∃ n, n = ops.length := ⟨_, rfl⟩
  simp only [Rq.val, ← hN] at hR f0 f1 f2 f3 f4 f5 ⊢
  have hway : (60 < tenant.size ∧ R = false) ∨ (tenant.size ≤ 60 ∧ 60 < col.size ∧ R = false) ∨ (tenant.size ≤ 60 ∧ col.size ≤ 60 ∧ 60 < uid.size ∧ R = false) ∨ (tenant.size ≤ 60 ∧ col.size ≤ 60 ∧ uid.size ≤ 60 ∧ 2000 < card.size ∧ R = false) ∨
      (tenant.size ≤ 60 ∧ col.size ≤ 60 ∧ uid.size ≤ 60 ∧ card.size ≤ 2000 ∧ 20 < n ∧ R = false) ∨ (tenant.size ≤ 60 ∧ col.size ≤ 60 ∧ uid.size ≤ 60 ∧ card.size ≤ 2000 ∧ n ≤ 20 ∧ R = ops.all lightO) := by
    rw [← hR]
    by_cases a : tenant.size ≤ 60
    · by_cases b : col.size ≤ 60
      · by_cases c : uid.size ≤ 60
        · by_cases d : card.size ≤ 2000
          · by_cases e : n ≤ 20
            · simp [a, b, c, d, e]
            · simp [a, b, c, d, e]; omega
          · simp [a, b, c, d]; omega
        · simp [a, b, c]; omega
      · simp [a, b]; omega
    · simp [a]; omega
  have HO := Lib.hid hO
  have HN := Lib.hid hN
  have HE := Lib.hid f5
  clear hO hR hN f5
  have hB0 := (Below.refl w.heap.size w).alloc (Nat.le_refl _) (.cells #[.int .i64 k, .string tenant, .string col, .string uid, .string card, .int .i64 ck, .int .i64 cv, .slice A n c, .int .i64 tok, .int .i64 most, .int .i64 ticks] 26)
  rcases hway with ⟨t0, rfl⟩ | ⟨t0, t1, rfl⟩ | ⟨t0, t1, t2, rfl⟩ | ⟨t0, t1, t2, t3, rfl⟩ | ⟨t0, t1, t2, t3, t4, rfl⟩ | ⟨t0, t1, t2, t3, t4, hR⟩
  iterate 5
    · clear hB0
      go_enter Tryz.func12, Tryz.ntmps12
      go_wp2
      go_ret
      exact ⟨rfl, (Below.refl _ _).alloc (Nat.le_refl _) _⟩
  have HR := Lib.hid hR
  clear hR
  have HB := Lib.hid hB0
  clear hB0
  go_enter Tryz.func12, Tryz.ntmps12
  go_wp2
  go_loop [3] (fun i => ∃ k : Nat, k ≤ n ∧ i = .int .i64 k ∧ Hid ((ops.take k).all lightO = true)) (fun i => n - (intOf i).toNat)
  case atStart => exact ⟨0, Nat.zero_le _, rfl, rfl⟩
  case round =>
    obtain ⟨j, hj, rfl, HK⟩ := hrel
    by_cases hlt : j < n
    · have hltO : j < ops.length := by rw [← HN.out]; exact hlt
      have hsn := all_snoc lightO ops j hltO
      have hno := all_no (p := lightO) hltO
      have hsz := HE.out j hlt
      obtain ⟨x, hx⟩ : ∃ x, ops[j]! = x := ⟨_, rfl⟩
      obtain ⟨ad, hA, hl, c0, c1, c2, c3, c4⟩ := (HO.out.below HB.out).at_ j hltO x hx
      subst hA
      rw [hx] at hsn hno hsz
      obtain ⟨xd, xu, xc, xk, xv⟩ := x
      rw [HK.out, Bool.true_and] at hsn
      rw [← HR.out] at hno
      simp only at hsn hno c0 c1 c2 c3 c4 hsz
      obtain ⟨z1, z2⟩ := hsz
      have HS := Lib.hid hsn
      have HZ := Lib.hid hno
      clear hsn hno hx
      by_cases y1 : 60 < xu.size
      · go_wp2
        go_ret
        have hRf := HZ.out (by simp [lightO]; omega)
        exact ⟨by rw [hRf]; rfl, HB.out⟩
      · by_cases y2 : 2000 < xc.size
        · go_wp2
          go_ret
          have hRf := HZ.out (by simp [lightO]; omega)
          exact ⟨by rw [hRf]; rfl, HB.out⟩
        · go_wp2
          go_round
          case rel => exact ⟨j + 1, by omega, by go_num, by unfold Hid; rw [HS.out]; simp [lightO]; omega⟩
          case measure => simp [intOf]; omega
    · obtain rfl : j = n := by omega
      go_wp2
      go_ret
      have hRt : R = true := by rw [HR.out, ← List.take_of_length_le (l := ops) (i := j) (by rw [HN.out]; omega), HK.out]
      exact ⟨by rw [hRt]; rfl, HB.out⟩

set_option maxHeartbeats 1000000 in
theorem writes_put (w : World) : Calls Tryz.prog 35 #[.int .i64 4] w fun e w' => e = .returned (.bool true) ∧ w' = w := by
  go_enter Tryz.func35, Tryz.ntmps35
  go_wp2
  go_ret
  exact ⟨rfl, rfl⟩
set_option maxHeartbeats 1000000 in
theorem writes_get (w : World) : Calls Tryz.prog 35 #[.int .i64 6] w fun e w' => e = .returned (.bool false) ∧ w' = w := by
  go_enter Tryz.func35, Tryz.ntmps35
  go_wp2
  go_ret
  exact ⟨rfl, rfl⟩

namespace Hen
/-- henkeep's names of cards, and its cards. -/
def uidK (i : Nat) : List UInt8 := [UInt8.ofNat (97 + i % 8)]
def cardK (i : Nat) : List UInt8 :=
  match i % 5 with
  | 0 => [110, 97, 109, 101, 58, 65, 110, 110, 10]
  | 1 => [110, 97, 109, 101, 58, 66, 111, 98, 10, 116, 101, 108, 58, 43, 52, 57, 51, 48, 49, 50, 51, 52, 53, 54, 10]
  | 2 => [110, 97, 109, 101, 58, 67, 121, 10, 109, 97, 105, 108, 59, 104, 111, 109, 101, 58, 99, 121, 64, 101, 120, 97, 109, 112, 108, 101, 46, 111, 114, 103, 10]
  | 3 => [110, 97, 109, 101, 58, 68, 105, 10, 100, 97, 121, 58, 49, 57, 57, 57, 45, 49, 50, 45, 51, 49, 10, 110, 111, 116, 101, 58, 108, 105, 107, 101, 115, 32, 104, 101, 110, 115, 10]
  | _ => [110, 97, 109, 101, 58, 69, 100, 10, 111, 114, 103, 58, 67, 111, 111, 112, 10, 116, 101, 108, 59, 99, 101, 108, 108, 58, 48, 49, 54, 48, 49, 50, 51, 52, 53, 54, 55, 10, 109, 97, 105, 108, 59, 119, 111, 114, 107, 58, 101, 100, 64, 99, 111, 111, 112, 46, 101, 120, 97, 109, 112, 108, 101, 46, 111, 114, 103, 10]
end Hen
set_option maxHeartbeats 4000000 in
set_option maxRecDepth 100000 in
theorem uidK_calls (i : Nat) (w : World) (hi : i < 8) : Calls Tryz.prog 16 #[.int .i64 i] w fun e w' => e = .returned (.string ⟨(uidK i).toArray⟩) ∧ w' = w := by
  have b0 : bits BinOp.and IntKind.i64 (0 : Int) 65535 = 0 := by kernel_rfl
  have b1 : bits BinOp.and IntKind.i64 (1 : Int) 65535 = 1 := by kernel_rfl
  have b2 : bits BinOp.and IntKind.i64 (2 : Int) 65535 = 2 := by kernel_rfl
  have b3 : bits BinOp.and IntKind.i64 (3 : Int) 65535 = 3 := by kernel_rfl
  have b4 : bits BinOp.and IntKind.i64 (4 : Int) 65535 = 4 := by kernel_rfl
  have b5 : bits BinOp.and IntKind.i64 (5 : Int) 65535 = 5 := by kernel_rfl
  have b6 : bits BinOp.and IntKind.i64 (6 : Int) 65535 = 6 := by kernel_rfl
  have b7 : bits BinOp.and IntKind.i64 (7 : Int) 65535 = 7 := by kernel_rfl
  have : i = 0 ∨ i = 1 ∨ i = 2 ∨ i = 3 ∨ i = 4 ∨ i = 5 ∨ i = 6 ∨ i = 7 := by omega
  rcases this with rfl | rfl | rfl | rfl | rfl | rfl | rfl | rfl
  all_goals
    go_enter Tryz.func16, Tryz.ntmps16
    go_wp2
    go_ret
    exact ⟨by kernel_rfl, rfl⟩
set_option maxHeartbeats 4000000 in
set_option maxRecDepth 100000 in
theorem cardK_calls (i : Nat) (w : World) (hi : i < 8) : Calls Tryz.prog 17 #[.int .i64 i] w fun e w' => e = .returned (.string ⟨(cardK i).toArray⟩) ∧ Below w.heap.size w w' := by
  have b0 : bits BinOp.and IntKind.i64 (0 : Int) 65535 = 0 := by kernel_rfl
  have b1 : bits BinOp.and IntKind.i64 (1 : Int) 65535 = 1 := by kernel_rfl
  have b2 : bits BinOp.and IntKind.i64 (2 : Int) 65535 = 2 := by kernel_rfl
  have b3 : bits BinOp.and IntKind.i64 (3 : Int) 65535 = 3 := by kernel_rfl
  have b4 : bits BinOp.and IntKind.i64 (4 : Int) 65535 = 4 := by kernel_rfl
  have b5 : bits BinOp.and IntKind.i64 (5 : Int) 65535 = 5 := by kernel_rfl
  have b6 : bits BinOp.and IntKind.i64 (6 : Int) 65535 = 6 := by kernel_rfl
  have b7 : bits BinOp.and IntKind.i64 (7 : Int) 65535 = 7 := by kernel_rfl
  have : i = 0 ∨ i = 1 ∨ i = 2 ∨ i = 3 ∨ i = 4 ∨ i = 5 ∨ i = 6 ∨ i = 7 := by omega
  rcases this with rfl | rfl | rfl | rfl | rfl | rfl | rfl | rfl
  all_goals
    go_enter Tryz.func17, Tryz.ntmps17
    go_wp2
    go_ret
    exact ⟨rfl, (Below.refl _ _).alloc (Nat.le_refl _) _⟩
end Go.Proofs.YtcmoidldalgljaaGreatDoor

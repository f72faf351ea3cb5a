/-
  Contracts: etag.May, req.is, req.fields.
-/
import Derived.Test.YtcmoidldalgljaaGreatDoorPe
set_option linter.unusedVariables false
set_option linter.unusedSimpArgs false
namespace Go.Proofs.YtcmoidldalgljaaGreatDoor
open Go.RowKit
open Hen

namespace Hen
def mayC (k v : Int) : Bool := if k = 0 ∨ k = 1 ∨ k = 2 then decide (v = 0) else if k = 3 then decide (1 ≤ v) else false
def isK (k : Int) : Bool := decide (1 ≤ k) && decide (k ≤ 11)
/-- Which fields a kind has: tenant, col, uid, card, cond, ops, token, most, ticks. -/
def hasL (k : Int) : List Bool :=
  if k = 1 then [true, false, false, false, false, false, false, false, false]
  else if k = 2 ∨ k = 3 then [false, true, false, false, false, false, false, false, false]
  else if k = 4 then [false, true, true, true, true, false, false, false, false]
  else if k = 5 then [false, true, true, false, true, false, false, false, false]
  else if k = 6 then [false, true, true, false, false, false, false, false, false]
  else if k = 7 then [false, true, false, false, false, true, false, false, false]
  else if k = 8 then [false, true, false, false, false, false, true, true, false]
  else if k = 9 then [false, true, false, false, false, false, true, false, true]
  else [false, false, false, false, false, false, false, false, false]
end Hen

set_option maxHeartbeats 1000000 in
theorem may_c_calls (k v : Int) (w : World) : Calls Tryz.prog 69 #[.agg #[.int .i64 k, .int .i64 v]] w fun e w' => e = .returned (.bool (mayC k v)) ∧ Below w.heap.size w w' := by
  have hM : mayC k v = if k = 0 ∨ k = 1 ∨ k = 2 then decide (v = 0) else if k = 3 then decide (1 ≤ v) else false := rfl
  generalize mayC k v = M at hM ⊢
  have hway : (((k == 0) = true ∨ ((k == 0) = false ∧ ((k == 1) = true ∨ ((k == 1) = false ∧ (k == 2) = true)))) ∧ ((v == 0) = M)) ∨ ((k == 0) = false ∧ (k == 1) = false ∧ (k == 2) = false ∧ (((k == 3) = true ∧ ((1 ≤ v ∧ M = true) ∨ (v < 1 ∧ M = false))) ∨ ((k == 3) = false ∧ M = false))) := by
    simp only [beq_iff_eq, beq_eq_false_iff_ne]
    by_cases h : k = 0 ∨ k = 1 ∨ k = 2
    · rw [if_pos h] at hM
      refine .inl ⟨by omega, ?_⟩
      rw [hM]
      by_cases hv : v = 0 <;> simp [hv]
    · rw [if_neg h] at hM
      refine .inr ⟨by omega, by omega, by omega, ?_⟩
      by_cases h3 : k = 3
      · rw [if_pos h3] at hM
        refine .inl ⟨h3, ?_⟩
        by_cases hv : 1 ≤ v
        · exact .inl ⟨hv, by rw [hM]; simp [hv]⟩
        · exact .inr ⟨by omega, by rw [hM]; simp; omega⟩
      · rw [if_neg h3] at hM
        exact .inr ⟨h3, hM⟩
  clear hM
  rcases hway with ⟨e0 | ⟨e0, e1 | ⟨e1, e2⟩⟩, hv⟩ | ⟨e0, e1, e2, ⟨e3, ⟨hv, rfl⟩ | ⟨hv, rfl⟩⟩ | ⟨e3, rfl⟩⟩
  all_goals
    go_enter Tryz.func69, Tryz.ntmps69
    go_wp2
    go_ret
    first
      | exact ⟨ret_bool hv, (Below.refl _ _).alloc (Nat.le_refl _) _⟩
      | exact ⟨rfl, (Below.refl _ _).alloc (Nat.le_refl _) _⟩
      | exact ⟨ret_bool (by simp; omega), (Below.refl _ _).alloc (Nat.le_refl _) _⟩

set_option maxHeartbeats 1000000 in
theorem is_calls (k : Int) (w : World) : Calls Tryz.prog 41 #[.int .i64 k] w fun e w' => e = .returned (.bool (isK k)) ∧ w' = w := by
  have hM : isK k = (decide (1 ≤ k) && decide (k ≤ 11)) := rfl
  generalize isK k = M at hM ⊢
  have hway : (k < 1 ∧ M = false) ∨ (1 ≤ k ∧ k ≤ 11 ∧ M = true) ∨ (1 ≤ k ∧ 11 < k ∧ M = false) := by
    rw [hM]
    simp only [Bool.and_eq_true, decide_eq_true_eq, Bool.and_eq_false_iff, decide_eq_false_iff_not]
    omega
  clear hM
  rcases hway with ⟨h1, rfl⟩ | ⟨h1, h2, rfl⟩ | ⟨h1, h2, rfl⟩
  all_goals
    go_enter Tryz.func41, Tryz.ntmps41
    go_wp2
    go_ret
    first
      | exact ⟨rfl, rfl⟩
      | exact ⟨ret_bool (by simp; omega), rfl⟩

set_option maxHeartbeats 1000000 in
theorem fields_calls (k : Int) (w : World) : Calls Tryz.prog 36 #[.int .i64 k] w fun e w' => e = .returned (.agg ((hasL k).map Value.bool).toArray) ∧ Below w.heap.size w w' := by
  have hM : hasL k = if k = 1 then [true, false, false, false, false, false, false, false, false]
    else if k = 2 ∨ k = 3 then [false, true, false, false, false, false, false, false, false]
    else if k = 4 then [false, true, true, true, true, false, false, false, false]
    else if k = 5 then [false, true, true, false, true, false, false, false, false]
    else if k = 6 then [false, true, true, false, false, false, false, false, false]
    else if k = 7 then [false, true, false, false, false, true, false, false, false]
    else if k = 8 then [false, true, false, false, false, false, true, true, false]
    else if k = 9 then [false, true, false, false, false, false, true, false, true]
    else [false, false, false, false, false, false, false, false, false] := rfl
  generalize hasL k = M at hM ⊢
  have hway : k = 1 ∨ k = 2 ∨ k = 3 ∨ k = 4 ∨ k = 5 ∨ k = 6 ∨ k = 7 ∨ k = 8 ∨ k = 9 ∨ (k ≠ 1 ∧ k ≠ 2 ∧ k ≠ 3 ∧ k ≠ 4 ∧ k ≠ 5 ∧ k ≠ 6 ∧ k ≠ 7 ∧ k ≠ 8 ∧ k ≠ 9) := by omega
  rcases hway with rfl | rfl | rfl | rfl | rfl | rfl | rfl | rfl | rfl | ⟨h1, h2, h3, h4, h5, h6, h7, h8, h9⟩
  iterate 9
    · simp at hM
      subst hM
      go_enter Tryz.func36, Tryz.ntmps36
      go_wp2
      refine bodyPost_ret (v := .agg (List.map Value.bool _).toArray) (by simp [results, Tryz.results36, go_sem]) rfl ⟨rfl, (Below.refl _ _).alloc (Nat.le_refl _) _⟩
  · rw [if_neg h1, if_neg (by omega), if_neg h4, if_neg h5, if_neg h6, if_neg h7, if_neg h8, if_neg h9] at hM
    subst hM
    have e1 : (k == 1) = false := beq_eq_false_iff_ne.2 h1
    have e2 : (k == 2) = false := beq_eq_false_iff_ne.2 h2
    have e3 : (k == 3) = false := beq_eq_false_iff_ne.2 h3
    have e4 : (k == 4) = false := beq_eq_false_iff_ne.2 h4
    have e5 : (k == 5) = false := beq_eq_false_iff_ne.2 h5
    have e6 : (k == 6) = false := beq_eq_false_iff_ne.2 h6
    have e7 : (k == 7) = false := beq_eq_false_iff_ne.2 h7
    have e8 : (k == 8) = false := beq_eq_false_iff_ne.2 h8
    have e9 : (k == 9) = false := beq_eq_false_iff_ne.2 h9
    clear h1 h2 h3 h4 h5 h6 h7 h8 h9
    go_enter Tryz.func36, Tryz.ntmps36
    go_wp2
    refine bodyPost_ret (v := .agg (List.map Value.bool _).toArray) (by simp [results, Tryz.results36, go_sem]) rfl ⟨rfl, (Below.refl _ _).alloc (Nat.le_refl _) _⟩
end Go.Proofs.YtcmoidldalgljaaGreatDoor
set_option linter.unusedVariables false
set_option linter.unusedSimpArgs false
namespace Go.Proofs.YtcmoidldalgljaaGreatDoor
open Go.RowKit
open Hen

namespace Hen
structure Opx where
  del : Bool
  uid : ByteArray
  card : ByteArray
  ck : Int
  cv : Int
instance : Inhabited Opx := ⟨⟨false, ByteArray.empty, ByteArray.empty, 0, 0⟩⟩
def Opx.cells (o : Opx) : List Value := [.bool o.del, .string o.uid, .string o.card, .int .i64 o.ck, .int .i64 o.cv]
structure Rq where
  k : Int
  tenant : ByteArray
  col : ByteArray
  uid : ByteArray
  card : ByteArray
  ck : Int
  cv : Int
  ops : List Opx
  tok : Int
  most : Int
  ticks : Int
def Rq.val (q : Rq) (A : Option Addr) (c : Nat) : Value :=
  .agg #[.int .i64 q.k, .string q.tenant, .string q.col, .string q.uid, .string q.card, .int .i64 q.ck, .int .i64 q.cv, .slice A q.ops.length c, .int .i64 q.tok, .int .i64 q.most, .int .i64 q.ticks]
/-- Is the field there? -/
def strayV (q : Rq) : List Bool :=
  [!(q.tenant.toList == []), !(q.col.toList == []), !(q.uid.toList == []), !(q.card.toList == []), !((q.ck == 0) && (q.cv == 0)), decide (0 < q.ops.length), q.tok != 0, q.most != 0, q.ticks != 0]
def strayF : List Bool → List Bool → Bool
  | h :: l, v :: m => (!h && v) || strayF l m
  | _, _ => false
def strayO (l : List Opx) : Bool := l.any fun o => o.del && !(o.card.toList == [])
def strayB (h : List Bool) (q : Rq) : Bool := strayF h (strayV q) || strayO q.ops
end Hen

/-- Where a slice of ops lies. -/
def OpsAt (w : World) (A : Option Addr) (ops : List Opx) : Prop :=
  ∀ k, k < ops.length → ∃ ad : Addr, A = some ad ∧ ad.block < w.heap.size ∧ ∀ j u, ops[k]!.cells[j]? = some u → w.cell? ((ad.add (k * 5)).add j) = some u
theorem OpsAt.below {w w1 : World} {A : Option Addr} {ops : List Opx} (h : OpsAt w A ops) (hb : Below w.heap.size w w1) : OpsAt w1 A ops := by
  intro k hk
  obtain ⟨ad, hA, hl, hc⟩ := h k hk
  exact ⟨ad, hA, Nat.lt_of_lt_of_le hl hb.size, fun j u hu => (hb.cell (p := (ad.add (k * 5)).add j) (by unfold Addr.add; split <;> split <;> exact hl)).trans (hc j u hu)⟩
theorem OpsAt.nil_ (w : World) (A : Option Addr) : OpsAt w A [] := fun k hk => absurd hk (by simp)

def StrayCalls (h : List Bool) (q : Rq) (A : Option Addr) (c : Nat) (w : World) : Prop :=
  Calls Tryz.prog 50 #[q.val A c, .agg (h.map Value.bool).toArray] w fun e w' => e = .returned (.bool (strayB h q)) ∧ Below w.heap.size w w'
theorem strayO_snoc (l : List Opx) (k : Nat) (h : k < l.length) : strayO (l.take (k + 1)) = (strayO (l.take k) || (l[k]!.del && !(l[k]!.card.toList == []))) := by
  unfold strayO
  rw [List.take_succ_eq_append_getElem h, List.any_append, getElem!_pos l k h]
  simp
theorem strayO_yes {l : List Opx} {k : Nat} (h : k < l.length) (h1 : (l[k]!.del && !(l[k]!.card.toList == [])) = true) : strayO l = true := by
  unfold strayO
  rw [List.any_eq_true]
  exact ⟨l[k]!, by rw [getElem!_pos l k h]; exact List.getElem_mem _, h1⟩

theorem block_of_add (a : Addr) (n : Nat) : (a.add n).block = a.block := by unfold Addr.add; split <;> rfl
theorem OpsAt.at_ {w : World} {A : Option Addr} {ops : List Opx} (h : OpsAt w A ops) (k : Nat) (hk : k < ops.length) (x : Opx) (hx : ops[k]! = x) :
    ∃ ad : Addr, A = some ad ∧ (ad.add (k * 5)).block < w.heap.size ∧ w.cell? (ad.add (k * 5)) = some (.bool x.del) ∧ w.cell? ⟨(ad.add (k * 5)).block, (ad.add (k * 5)).off + 1, none⟩ = some (.string x.uid) ∧
      w.cell? ⟨(ad.add (k * 5)).block, (ad.add (k * 5)).off + 2, none⟩ = some (.string x.card) ∧ w.cell? ⟨(ad.add (k * 5)).block, (ad.add (k * 5)).off + 3, none⟩ = some (.int .i64 x.ck) ∧
      w.cell? ⟨(ad.add (k * 5)).block, (ad.add (k * 5)).off + 4, none⟩ = some (.int .i64 x.cv) := by
  obtain ⟨ad, hA, hl, hc⟩ := h k hk
  rw [hx] at hc
  exact ⟨ad, hA, by rw [block_of_add]; exact hl, hc 0 _ rfl, hc 1 _ rfl, hc 2 _ rfl, hc 3 _ rfl, hc 4 _ rfl⟩

set_option maxHeartbeats 8000000 in
set_option maxRecDepth 100000 in
theorem stray_0 (q : Rq) (A : Option Addr) (c : Nat) (w : World) (hO : OpsAt w A q.ops) (hn : q.ops.length ≤ 65536) : StrayCalls [true, false, false, false, false, false, false, false, false] q A c w := by
  unfold StrayCalls
  obtain ⟨k, tenant, col, uid, card, ck, cv, ops, tok, most, ticks⟩ := q
  generalize hR : strayB [true, false, false, false, false, false, false, false, false] ⟨k, tenant, col, uid, card, ck, cv, ops, tok, most, ticks⟩ = R
  simp only [strayB, strayF, strayV] at hR
  obtain ⟨n, hN⟩ : ∃ n, n = ops.length := ⟨_, rfl⟩
  simp only [Rq.val, List.map, ← hN] at hR hn ⊢
  have HO := Lib.hid hO
  have HR := Lib.hid hR
  have HN := Lib.hid hN
  clear hO hR hN
  go_enter Tryz.func50, Tryz.ntmps50
  go_wp2
  any_goals (go_ret; exact ⟨ret_bool (by rw [← HR.out]; simp [*] <;> omega), ((Below.refl _ _).alloc (Nat.le_refl _) _).alloc (by simp) _⟩)
  have HF := Lib.hid (show strayO ops = R by rw [← HR.out]; simp [*])
  clear HR
  go_loopw [98] (fun i wr => ∃ k : Nat, k ≤ n ∧ i = .int .i64 k ∧ Below w.heap.size w wr ∧ Hid (strayO (ops.take k) = false)) (fun i _ => n - (intOf i).toNat)
  case atStart => exact ⟨0, Nat.zero_le _, rfl, ((Below.refl _ _).alloc (Nat.le_refl _) _).alloc (by simp) _, rfl⟩
  case round =>
    obtain ⟨k, hk, rfl, hb, HK⟩ := hrel
    by_cases hlt : k < n
    · have hltO : k < ops.length := by rw [← HN.out]; exact hlt
      have hsn := strayO_snoc ops k hltO
      have hys := strayO_yes hltO
      obtain ⟨x, hx⟩ : ∃ x, ops[k]! = x := ⟨_, rfl⟩
      obtain ⟨ad, hA, hl, c0, c1, c2, c3, c4⟩ := (HO.out.below hb).at_ k hltO x hx
      subst hA
      rw [hx] at hsn hys
      obtain ⟨xd, xu, xc, xk, xv⟩ := x
      have hz := hb.size
      rw [HK.out, Bool.false_or] at hsn
      rw [HF.out] at hys
      simp only at hsn hys c0 c1 c2 c3 c4
      have HS := Lib.hid hsn
      have HY := Lib.hid hys
      clear hsn hys hx
      go_wp2
      try any_goals (go_ret; exact ⟨ret_bool (HY.out (by simp [*])).symm, hb.alloc hb.size _⟩)
      all_goals
        go_round
        case rel => exact ⟨k + 1, by omega, by go_num, hb.alloc hb.size _, by unfold Hid; rw [HS.out]; first | simp [*] | simp_all⟩
        case measure => simp [intOf]; omega
    · obtain rfl : k = n := by omega
      have hfin := HK.out
      rw [List.take_of_length_le (by rw [HN.out]; omega), HF.out] at hfin
      subst hfin
      go_wp2
      go_ret
      exact ⟨rfl, hb⟩

set_option maxHeartbeats 8000000 in
set_option maxRecDepth 100000 in
theorem stray_1 (q : Rq) (A : Option Addr) (c : Nat) (w : World) (hO : OpsAt w A q.ops) (hn : q.ops.length ≤ 65536) : StrayCalls [false, true, false, false, false, false, false, false, false] q A c w := by
  unfold StrayCalls
  obtain ⟨k, tenant, col, uid, card, ck, cv, ops, tok, most, ticks⟩ := q
  generalize hR : strayB [false, true, false, false, false, false, false, false, false] ⟨k, tenant, col, uid, card, ck, cv, ops, tok, most, ticks⟩ = R
  simp only [strayB, strayF, strayV] at hR
  obtain ⟨n, hN⟩ : ∃ n, n = ops.length := ⟨_, rfl⟩
  simp only [Rq.val, List.map, ← hN] at hR hn ⊢
  have HO := Lib.hid hO
  have HR := Lib.hid hR
  have HN := Lib.hid hN
  clear hO hR hN
  go_enter Tryz.func50, Tryz.ntmps50
  go_wp2
  any_goals (go_ret; exact ⟨ret_bool (by rw [← HR.out]; simp [*] <;> omega), ((Below.refl _ _).alloc (Nat.le_refl _) _).alloc (by simp) _⟩)
  have HF := Lib.hid (show strayO ops = R by rw [← HR.out]; simp [*])
  clear HR
  go_loopw [98] (fun i wr => ∃ k : Nat, k ≤ n ∧ i = .int .i64 k ∧ Below w.heap.size w wr ∧ Hid (strayO (ops.take k) = false)) (fun i _ => n - (intOf i).toNat)
  case atStart => exact ⟨0, Nat.zero_le _, rfl, ((Below.refl _ _).alloc (Nat.le_refl _) _).alloc (by simp) _, rfl⟩
  case round =>
    obtain ⟨k, hk, rfl, hb, HK⟩ := hrel
    by_cases hlt : k < n
    · have hltO : k < ops.length := by rw [← HN.out]; exact hlt
      have hsn := strayO_snoc ops k hltO
      have hys := strayO_yes hltO
      obtain ⟨x, hx⟩ : ∃ x, ops[k]! = x := ⟨_, rfl⟩
      obtain ⟨ad, hA, hl, c0, c1, c2, c3, c4⟩ := (HO.out.below hb).at_ k hltO x hx
      subst hA
      rw [hx] at hsn hys
      obtain ⟨xd, xu, xc, xk, xv⟩ := x
      have hz := hb.size
      rw [HK.out, Bool.false_or] at hsn
      rw [HF.out] at hys
      simp only at hsn hys c0 c1 c2 c3 c4
      have HS := Lib.hid hsn
      have HY := Lib.hid hys
      clear hsn hys hx
      go_wp2
      try any_goals (go_ret; exact ⟨ret_bool (HY.out (by simp [*])).symm, hb.alloc hb.size _⟩)
      all_goals
        go_round
        case rel => exact ⟨k + 1, by omega, by go_num, hb.alloc hb.size _, by unfold Hid; rw [HS.out]; first | simp [*] | simp_all⟩
        case measure => simp [intOf]; omega
    · obtain rfl : k = n := by omega
      have hfin := HK.out
      rw [List.take_of_length_le (by rw [HN.out]; omega), HF.out] at hfin
      subst hfin
      go_wp2
      go_ret
      exact ⟨rfl, hb⟩

set_option maxHeartbeats 8000000 in
set_option maxRecDepth 100000 in
theorem stray_2 (q : Rq) (A : Option Addr) (c : Nat) (w : World) (hO : OpsAt w A q.ops) (hn : q.ops.length ≤ 65536) : StrayCalls [false, true, true, true, true, false, false, false, false] q A c w := by
  unfold StrayCalls
  obtain ⟨k, tenant, col, uid, card, ck, cv, ops, tok, most, ticks⟩ := q
  generalize hR : strayB [false, true, true, true, true, false, false, false, false] ⟨k, tenant, col, uid, card, ck, cv, ops, tok, most, ticks⟩ = R
  simp only [strayB, strayF, strayV] at hR
  obtain ⟨n, hN⟩ : ∃ n, n = ops.length := ⟨_, rfl⟩
  simp only [Rq.val, List.map, ← hN] at hR hn ⊢
  have HO := Lib.hid hO
  have HR := Lib.hid hR
  have HN := Lib.hid hN
  clear hO hR hN
  go_enter Tryz.func50, Tryz.ntmps50
  go_wp2
  any_goals (go_ret; exact ⟨ret_bool (by rw [← HR.out]; simp [*] <;> omega), ((Below.refl _ _).alloc (Nat.le_refl _) _).alloc (by simp) _⟩)
  have HF := Lib.hid (show strayO ops = R by rw [← HR.out]; simp [*])
  clear HR
  go_loopw [98] (fun i wr => ∃ k : Nat, k ≤ n ∧ i = .int .i64 k ∧ Below w.heap.size w wr ∧ Hid (strayO (ops.take k) = false)) (fun i _ => n - (intOf i).toNat)
  case atStart => exact ⟨0, Nat.zero_le _, rfl, ((Below.refl _ _).alloc (Nat.le_refl _) _).alloc (by simp) _, rfl⟩
  case round =>
    obtain ⟨k, hk, rfl, hb, HK⟩ := hrel
    by_cases hlt : k < n
    · have hltO : k < ops.length := by rw [← HN.out]; exact hlt
      have hsn := strayO_snoc ops k hltO
      have hys := strayO_yes hltO
      obtain ⟨x, hx⟩ : ∃ x, ops[k]! = x := ⟨_, rfl⟩
      obtain ⟨ad, hA, hl, c0, c1, c2, c3, c4⟩ := (HO.out.below hb).at_ k hltO x hx
      subst hA
      rw [hx] at hsn hys
      obtain ⟨xd, xu, xc, xk, xv⟩ := x
      have hz := hb.size
      rw [HK.out, Bool.false_or] at hsn
      rw [HF.out] at hys
      simp only at hsn hys c0 c1 c2 c3 c4
      have HS := Lib.hid hsn
      have HY := Lib.hid hys
      clear hsn hys hx
      go_wp2
      try any_goals (go_ret; exact ⟨ret_bool (HY.out (by simp [*])).symm, hb.alloc hb.size _⟩)
      all_goals
        go_round
        case rel => exact ⟨k + 1, by omega, by go_num, hb.alloc hb.size _, by unfold Hid; rw [HS.out]; first | simp [*] | simp_all⟩
        case measure => simp [intOf]; omega
    · obtain rfl : k = n := by omega
      have hfin := HK.out
      rw [List.take_of_length_le (by rw [HN.out]; omega), HF.out] at hfin
      subst hfin
      go_wp2
      go_ret
      exact ⟨rfl, hb⟩

set_option maxHeartbeats 8000000 in
set_option maxRecDepth 100000 in
theorem stray_3 (q : Rq) (A : Option Addr) (c : Nat) (w : World) (hO : OpsAt w A q.ops) (hn : q.ops.length ≤ 65536) : StrayCalls [false, true, true, false, true, false, false, false, false] q A c w := by
  unfold StrayCalls
  obtain ⟨k, tenant, col, uid, card, ck, cv, ops, tok, most, ticks⟩ := q
  generalize hR : strayB [false, true, true, false, true, false, false, false, false] ⟨k, tenant, col, uid, card, ck, cv, ops, tok, most, ticks⟩ = R
  simp only [strayB, strayF, strayV] at hR
  obtain ⟨n, hN⟩ : ∃ n, n = ops.length := ⟨_, rfl⟩
  simp only [Rq.val, List.map, ← hN] at hR hn ⊢
  have HO := Lib.hid hO
  have HR := Lib.hid hR
  have HN := Lib.hid hN
  clear hO hR hN
  go_enter Tryz.func50, Tryz.ntmps50
  go_wp2
  any_goals (go_ret; exact ⟨ret_bool (by rw [← HR.out]; simp [*] <;> omega), ((Below.refl _ _).alloc (Nat.le_refl _) _).alloc (by simp) _⟩)
  have HF := Lib.hid (show strayO ops = R by rw [← HR.out]; simp [*])
  clear HR
  go_loopw [98] (fun i wr => ∃ k : Nat, k ≤ n ∧ i = .int .i64 k ∧ Below w.heap.size w wr ∧ Hid (strayO (ops.take k) = false)) (fun i _ => n - (intOf i).toNat)
  case atStart => exact ⟨0, Nat.zero_le _, rfl, ((Below.refl _ _).alloc (Nat.le_refl _) _).alloc (by simp) _, rfl⟩
  case round =>
    obtain ⟨k, hk, rfl, hb, HK⟩ := hrel
    by_cases hlt : k < n
    · have hltO : k < ops.length := by rw [← HN.out]; exact hlt
      have hsn := strayO_snoc ops k hltO
      have hys := strayO_yes hltO
      obtain ⟨x, hx⟩ : ∃ x, ops[k]! = x := ⟨_, rfl⟩
      obtain ⟨ad, hA, hl, c0, c1, c2, c3, c4⟩ := (HO.out.below hb).at_ k hltO x hx
      subst hA
      rw [hx] at hsn hys
      obtain ⟨xd, xu, xc, xk, xv⟩ := x
      have hz := hb.size
      rw [HK.out, Bool.false_or] at hsn
      rw [HF.out] at hys
      simp only at hsn hys c0 c1 c2 c3 c4
      have HS := Lib.hid hsn
      have HY := Lib.hid hys
      clear hsn hys hx
      go_wp2
      try any_goals (go_ret; exact ⟨ret_bool (HY.out (by simp [*])).symm, hb.alloc hb.size _⟩)
      all_goals
        go_round
        case rel => exact ⟨k + 1, by omega, by go_num, hb.alloc hb.size _, by unfold Hid; rw [HS.out]; first | simp [*] | simp_all⟩
        case measure => simp [intOf]; omega
    · obtain rfl : k = n := by omega
      have hfin := HK.out
      rw [List.take_of_length_le (by rw [HN.out]; omega), HF.out] at hfin
      subst hfin
      go_wp2
      go_ret
      exact ⟨rfl, hb⟩

set_option maxHeartbeats 8000000 in
set_option maxRecDepth 100000 in
theorem stray_4 (q : Rq) (A : Option Addr) (c : Nat) (w : World) (hO : OpsAt w A q.ops) (hn : q.ops.length ≤ 65536) : StrayCalls [false, true, true, false, false, false, false, false, false] q A c w := by
  unfold StrayCalls
  obtain ⟨k, tenant, col, uid, card, ck, cv, ops, tok, most, ticks⟩ := q
  generalize hR : strayB [false, true, true, false, false, false, false, false, false] ⟨k, tenant, col, uid, card, ck, cv, ops, tok, most, ticks⟩ = R
  simp only [strayB, strayF, strayV] at hR
  obtain ⟨n, hN⟩ : ∃ n, n = ops.length := ⟨_, rfl⟩
  simp only [Rq.val, List.map, ← hN] at hR hn ⊢
  have HO := Lib.hid hO
  have HR := Lib.hid hR
  have HN := Lib.hid hN
  clear hO hR hN
  go_enter Tryz.func50, Tryz.ntmps50
  go_wp2
  any_goals (go_ret; exact ⟨ret_bool (by rw [← HR.out]; simp [*] <;> omega), ((Below.refl _ _).alloc (Nat.le_refl _) _).alloc (by simp) _⟩)
  have HF := Lib.hid (show strayO ops = R by rw [← HR.out]; simp [*])
  clear HR
  go_loopw [98] (fun i wr => ∃ k : Nat, k ≤ n ∧ i = .int .i64 k ∧ Below w.heap.size w wr ∧ Hid (strayO (ops.take k) = false)) (fun i _ => n - (intOf i).toNat)
  case atStart => exact ⟨0, Nat.zero_le _, rfl, ((Below.refl _ _).alloc (Nat.le_refl _) _).alloc (by simp) _, rfl⟩
  case round =>
    obtain ⟨k, hk, rfl, hb, HK⟩ := hrel
    by_cases hlt : k < n
    · have hltO : k < ops.length := by rw [← HN.out]; exact hlt
      have hsn := strayO_snoc ops k hltO
      have hys := strayO_yes hltO
      obtain ⟨x, hx⟩ : ∃ x, ops[k]! = x := ⟨_, rfl⟩
      obtain ⟨ad, hA, hl, c0, c1, c2, c3, c4⟩ := (HO.out.below hb).at_ k hltO x hx
      subst hA
      rw [hx] at hsn hys
      obtain ⟨xd, xu, xc, xk, xv⟩ := x
      have hz := hb.size
      rw [HK.out, Bool.false_or] at hsn
      rw [HF.out] at hys
      simp only at hsn hys c0 c1 c2 c3 c4
      have HS := Lib.hid hsn
      have HY := Lib.hid hys
      clear hsn hys hx
      go_wp2
      try any_goals (go_ret; exact ⟨ret_bool (HY.out (by simp [*])).symm, hb.alloc hb.size _⟩)
      all_goals
        go_round
        case rel => exact ⟨k + 1, by omega, by go_num, hb.alloc hb.size _, by unfold Hid; rw [HS.out]; first | simp [*] | simp_all⟩
        case measure => simp [intOf]; omega
    · obtain rfl : k = n := by omega
      have hfin := HK.out
      rw [List.take_of_length_le (by rw [HN.out]; omega), HF.out] at hfin
      subst hfin
      go_wp2
      go_ret
      exact ⟨rfl, hb⟩

set_option maxHeartbeats 8000000 in
set_option maxRecDepth 100000 in
theorem stray_5 (q : Rq) (A : Option Addr) (c : Nat) (w : World) (hO : OpsAt w A q.ops) (hn : q.ops.length ≤ 65536) : StrayCalls [false, true, false, false, false, true, false, false, false] q A c w := by
  unfold StrayCalls
  obtain ⟨k, tenant, col, uid, card, ck, cv, ops, tok, most, ticks⟩ := q
  generalize hR : strayB [false, true, false, false, false, true, false, false, false] ⟨k, tenant, col, uid, card, ck, cv, ops, tok, most, ticks⟩ = R
  simp only [strayB, strayF, strayV] at hR
  obtain ⟨n, hN⟩ : ∃ n, n = ops.length := ⟨_, rfl⟩
  simp only [Rq.val, List.map, ← hN] at hR hn ⊢
  have HO := Lib.hid hO
  have HR := Lib.hid hR
  have HN := Lib.hid hN
  clear hO hR hN
  go_enter Tryz.func50, Tryz.ntmps50
  go_wp2
  any_goals (go_ret; exact ⟨ret_bool (by rw [← HR.out]; simp [*] <;> omega), ((Below.refl _ _).alloc (Nat.le_refl _) _).alloc (by simp) _⟩)
  have HF := Lib.hid (show strayO ops = R by rw [← HR.out]; simp [*])
  clear HR
  go_loopw [98] (fun i wr => ∃ k : Nat, k ≤ n ∧ i = .int .i64 k ∧ Below w.heap.size w wr ∧ Hid (strayO (ops.take k) = false)) (fun i _ => n - (intOf i).toNat)
  case atStart => exact ⟨0, Nat.zero_le _, rfl, ((Below.refl _ _).alloc (Nat.le_refl _) _).alloc (by simp) _, rfl⟩
  case round =>
    obtain ⟨k, hk, rfl, hb, HK⟩ := hrel
    by_cases hlt : k < n
    · have hltO : k < ops.length := by rw [← HN.out]; exact hlt
      have hsn := strayO_snoc ops k hltO
      have hys := strayO_yes hltO
      obtain ⟨x, hx⟩ : ∃ x, ops[k]! = x := ⟨_, rfl⟩
      obtain ⟨ad, hA, hl, c0, c1, c2, c3, c4⟩ := (HO.out.below hb).at_ k hltO x hx
      subst hA
      rw [hx] at hsn hys
      obtain ⟨xd, xu, xc, xk, xv⟩ := x
      have hz := hb.size
      rw [HK.out, Bool.false_or] at hsn
      rw [HF.out] at hys
      simp only at hsn hys c0 c1 c2 c3 c4
      have HS := Lib.hid hsn
      have HY := Lib.hid hys
      clear hsn hys hx
      go_wp2
      try any_goals (go_ret; exact ⟨ret_bool (HY.out (by simp [*])).symm, hb.alloc hb.size _⟩)
      all_goals
        go_round
        case rel => exact ⟨k + 1, by omega, by go_num, hb.alloc hb.size _, by unfold Hid; rw [HS.out]; first | simp [*] | simp_all⟩
        case measure => simp [intOf]; omega
    · obtain rfl : k = n := by omega
      have hfin := HK.out
      rw [List.take_of_length_le (by rw [HN.out]; omega), HF.out] at hfin
      subst hfin
      go_wp2
      go_ret
      exact ⟨rfl, hb⟩

set_option maxHeartbeats 8000000 in
set_option maxRecDepth 100000 in
theorem stray_6 (q : Rq) (A : Option Addr) (c : Nat) (w : World) (hO : OpsAt w A q.ops) (hn : q.ops.length ≤ 65536) : StrayCalls [false, true, false, false, false, false, true, true, false] q A c w := by
  unfold StrayCalls
  obtain ⟨k, tenant, col, uid, card, ck, cv, ops, tok, most, ticks⟩ := q
  generalize hR : strayB [false, true, false, false, false, false, true, true, false] ⟨k, tenant, col, uid, card, ck, cv, ops, tok, most, ticks⟩ = R
  simp only [strayB, strayF, strayV] at hR
  obtain ⟨n, hN⟩ : ∃ n, n = ops.length := ⟨_, rfl⟩
  simp only [Rq.val, List.map, ← hN] at hR hn ⊢
  have HO := Lib.hid hO
  have HR := Lib.hid hR
  have HN := Lib.hid hN
  clear hO hR hN
  go_enter Tryz.func50, Tryz.ntmps50
  go_wp2
  any_goals (go_ret; exact ⟨ret_bool (by rw [← HR.out]; simp [*] <;> omega), ((Below.refl _ _).alloc (Nat.le_refl _) _).alloc (by simp) _⟩)
  have HF := Lib.hid (show strayO ops = R by rw [← HR.out]; simp [*])
  clear HR
  go_loopw [98] (fun i wr => ∃ k : Nat, k ≤ n ∧ i = .int .i64 k ∧ Below w.heap.size w wr ∧ Hid (strayO (ops.take k) = false)) (fun i _ => n - (intOf i).toNat)
  case atStart => exact ⟨0, Nat.zero_le _, rfl, ((Below.refl _ _).alloc (Nat.le_refl _) _).alloc (by simp) _, rfl⟩
  case round =>
    obtain ⟨k, hk, rfl, hb, HK⟩ := hrel
    by_cases hlt : k < n
    · have hltO : k < ops.length := by rw [← HN.out]; exact hlt
      have hsn := strayO_snoc ops k hltO
      have hys := strayO_yes hltO
      obtain ⟨x, hx⟩ : ∃ x, ops[k]! = x := ⟨_, rfl⟩
      obtain ⟨ad, hA, hl, c0, c1, c2, c3, c4⟩ := (HO.out.below hb).at_ k hltO x hx
      subst hA
      rw [hx] at hsn hys
      obtain ⟨xd, xu, xc, xk, xv⟩ := x
      have hz := hb.size
      rw [HK.out, Bool.false_or] at hsn
      rw [HF.out] at hys
      simp only at hsn hys c0 c1 c2 c3 c4
      have HS := Lib.hid hsn
      have HY := Lib.hid hys
      clear hsn hys hx
      go_wp2
      try any_goals (go_ret; exact ⟨ret_bool (HY.out (by simp [*])).symm, hb.alloc hb.size _⟩)
      all_goals
        go_round
        case rel => exact ⟨k + 1, by omega, by go_num, hb.alloc hb.size _, by unfold Hid; rw [HS.out]; first | simp [*] | simp_all⟩
        case measure => simp [intOf]; omega
    · obtain rfl : k = n := by omega
      have hfin := HK.out
      rw [List.take_of_length_le (by rw [HN.out]; omega), HF.out] at hfin
      subst hfin
      go_wp2
      go_ret
      exact ⟨rfl, hb⟩

set_option maxHeartbeats 8000000 in
set_option maxRecDepth 100000 in
theorem stray_7 (q : Rq) (A : Option Addr) (c : Nat) (w : World) (hO : OpsAt w A q.ops) (hn : q.ops.length ≤ 65536) : StrayCalls [false, true, false, false, false, false, true, false, true] q A c w := by
  unfold StrayCalls
  obtain ⟨k, tenant, col, uid, card, ck, cv, ops, tok, most, ticks⟩ := q
  generalize hR : strayB [false, true, false, false, false, false, true, false, true] ⟨k, tenant, col, uid, card, ck, cv, ops, tok, most, ticks⟩ = R
  simp only [strayB, strayF, strayV] at hR
  obtain ⟨n, hN⟩ : ∃ n, n = ops.length := ⟨_, rfl⟩
  simp only [Rq.val, List.map, ← hN] at hR hn ⊢
  have HO := Lib.hid hO
  have HR := Lib.hid hR
  have HN := Lib.hid hN
  clear hO hR hN
  go_enter Tryz.func50, Tryz.ntmps50
  go_wp2
  any_goals (go_ret; exact ⟨ret_bool (by rw [← HR.out]; simp [*] <;> omega), ((Below.refl _ _).alloc (Nat.le_refl _) _).alloc (by simp) _⟩)
  have HF := Lib.hid (show strayO ops = R by rw [← HR.out]; simp [*])
  clear HR
  go_loopw [98] (fun i wr => ∃ k : Nat, k ≤ n ∧ i = .int .i64 k ∧ Below w.heap.size w wr ∧ Hid (strayO (ops.take k) = false)) (fun i _ => n - (intOf i).toNat)
  case atStart => exact ⟨0, Nat.zero_le _, rfl, ((Below.refl _ _).alloc (Nat.le_refl _) _).alloc (by simp) _, rfl⟩
  case round =>
    obtain ⟨k, hk, rfl, hb, HK⟩ := hrel
    by_cases hlt : k < n
    · have hltO : k < ops.length := by rw [← HN.out]; exact hlt
      have hsn := strayO_snoc ops k hltO
      have hys := strayO_yes hltO
      obtain ⟨x, hx⟩ : ∃ x, ops[k]! = x := ⟨_, rfl⟩
      obtain ⟨ad, hA, hl, c0, c1, c2, c3, c4⟩ := (HO.out.below hb).at_ k hltO x hx
      subst hA
      rw [hx] at hsn hys
      obtain ⟨xd, xu, xc, xk, xv⟩ := x
      have hz := hb.size
      rw [HK.out, Bool.false_or] at hsn
      rw [HF.out] at hys
      simp only at hsn hys c0 c1 c2 c3 c4
      have HS := Lib.hid hsn
      have HY := Lib.hid hys
      clear hsn hys hx
      go_wp2
      try any_goals (go_ret; exact ⟨ret_bool (HY.out (by simp [*])).symm, hb.alloc hb.size _⟩)
      all_goals
        go_round
        case rel => exact ⟨k + 1, by omega, by go_num, hb.alloc hb.size _, by unfold Hid; rw [HS.out]; first | simp [*] | simp_all⟩
        case measure => simp [intOf]; omega
    · obtain rfl : k = n := by omega
      have hfin := HK.out
      rw [List.take_of_length_le (by rw [HN.out]; omega), HF.out] at hfin
      subst hfin
      go_wp2
      go_ret
      exact ⟨rfl, hb⟩

set_option maxHeartbeats 8000000 in
set_option maxRecDepth 100000 in
theorem stray_8 (q : Rq) (A : Option Addr) (c : Nat) (w : World) (hO : OpsAt w A q.ops) (hn : q.ops.length ≤ 65536) : StrayCalls [false, false, false, false, false, false, false, false, false] q A c w := by
  unfold StrayCalls
  obtain ⟨k, tenant, col, uid, card, ck, cv, ops, tok, most, ticks⟩ := q
  generalize hR : strayB [false, false, false, false, false, false, false, false, false] ⟨k, tenant, col, uid, card, ck, cv, ops, tok, most, ticks⟩ = R
  simp only [strayB, strayF, strayV] at hR
  obtain ⟨n, hN⟩ : ∃ n, n = ops.length := ⟨_, rfl⟩
  simp only [Rq.val, List.map, ← hN] at hR hn ⊢
  have HO := Lib.hid hO
  have HR := Lib.hid hR
  have HN := Lib.hid hN
  clear hO hR hN
  go_enter Tryz.func50, Tryz.ntmps50
  go_wp2
  any_goals (go_ret; exact ⟨ret_bool (by rw [← HR.out]; simp [*] <;> omega), ((Below.refl _ _).alloc (Nat.le_refl _) _).alloc (by simp) _⟩)
  have HF := Lib.hid (show strayO ops = R by rw [← HR.out]; simp [*])
  clear HR
  go_loopw [98] (fun i wr => ∃ k : Nat, k ≤ n ∧ i = .int .i64 k ∧ Below w.heap.size w wr ∧ Hid (strayO (ops.take k) = false)) (fun i _ => n - (intOf i).toNat)
  case atStart => exact ⟨0, Nat.zero_le _, rfl, ((Below.refl _ _).alloc (Nat.le_refl _) _).alloc (by simp) _, rfl⟩
  case round =>
    obtain ⟨k, hk, rfl, hb, HK⟩ := hrel
    by_cases hlt : k < n
    · have hltO : k < ops.length := by rw [← HN.out]; exact hlt
      have hsn := strayO_snoc ops k hltO
      have hys := strayO_yes hltO
      obtain ⟨x, hx⟩ : ∃ x, ops[k]! = x := ⟨_, rfl⟩
      obtain ⟨ad, hA, hl, c0, c1, c2, c3, c4⟩ := (HO.out.below hb).at_ k hltO x hx
      subst hA
      rw [hx] at hsn hys
      obtain ⟨xd, xu, xc, xk, xv⟩ := x
      have hz := hb.size
      rw [HK.out, Bool.false_or] at hsn
      rw [HF.out] at hys
      simp only at hsn hys c0 c1 c2 c3 c4
      have HS := Lib.hid hsn
      have HY := Lib.hid hys
      clear hsn hys hx
      go_wp2
      try any_goals (go_ret; exact ⟨ret_bool (HY.out (by simp [*])).symm, hb.alloc hb.size _⟩)
      all_goals
        go_round
        case rel => exact ⟨k + 1, by omega, by go_num, hb.alloc hb.size _, by unfold Hid; rw [HS.out]; first | simp [*] | simp_all⟩
        case measure => simp [intOf]; omega
    · obtain rfl : k = n := by omega
      have hfin := HK.out
      rw [List.take_of_length_le (by rw [HN.out]; omega), HF.out] at hfin
      subst hfin
      go_wp2
      go_ret
      exact ⟨rfl, hb⟩

theorem stray_calls (kk : Int) (q : Rq) (A : Option Addr) (c : Nat) (w : World) (hO : OpsAt w A q.ops) (hn : q.ops.length ≤ 65536) : StrayCalls (hasL kk) q A c w := by
  unfold hasL
  (repeat' split)
  all_goals first
    | exact stray_0 q A c w hO hn
    | exact stray_1 q A c w hO hn
    | exact stray_2 q A c w hO hn
    | exact stray_3 q A c w hO hn
    | exact stray_4 q A c w hO hn
    | exact stray_5 q A c w hO hn
    | exact stray_6 q A c w hO hn
    | exact stray_7 q A c w hO hn
    | exact stray_8 q A c w hO hn
end Go.Proofs.YtcmoidldalgljaaGreatDoor

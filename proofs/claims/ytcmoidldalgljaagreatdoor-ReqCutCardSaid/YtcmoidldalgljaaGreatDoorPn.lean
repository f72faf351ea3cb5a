/-
  Contract: req.Encode. Printed by gen_encode.py.
-/
import Derived.Test.YtcmoidldalgljaaGreatDoorPm
import Derived.Test.YtcmoidldalgljaaGreatDoorPk
set_option linter.unusedVariables false
set_option linter.unusedSimpArgs false
namespace Go.Proofs.YtcmoidldalgljaaGreatDoor
open Go.RowKit
open Hen

namespace Hen
def encF (h : List Bool) (q : Rq) : List UInt8 :=
  (if h.getD 0 false then textB q.tenant.data.toList else []) ++ (if h.getD 1 false then textB q.col.data.toList else []) ++ (if h.getD 2 false then textB q.uid.data.toList else []) ++
  (if h.getD 3 false then textB q.card.data.toList else []) ++ (if h.getD 4 false then condB q.ck q.cv else []) ++ (if h.getD 5 false then numB q.ops.length ++ q.ops.flatMap opB else []) ++
  (if h.getD 6 false then numB q.tok else []) ++ (if h.getD 7 false then numB q.most else []) ++ (if h.getD 8 false then numB q.ticks else [])
def encB (q : Rq) : List UInt8 := encF (hasL q.k) q
end Hen
/-- Texts and numbers of a size that is met. -/
structure Small (q : Rq) : Prop where
  tenant : q.tenant.size ≤ 1073741824
  col : q.col.size ≤ 1073741824
  uid : q.uid.size ≤ 1073741824
  card : q.card.size ≤ 1073741824
  ck : q.ck ≤ 9223372036854775807
  cv : q.cv ≤ 9223372036854775807
  tok : q.tok ≤ 9223372036854775807
  most : q.most ≤ 9223372036854775807
  ticks : q.ticks ≤ 9223372036854775807
  ops : q.ops.length ≤ 64
  each : ∀ k, k < q.ops.length → q.ops[k]!.uid.size ≤ 1073741824 ∧ q.ops[k]!.card.size ≤ 1073741824 ∧ q.ops[k]!.ck ≤ 9223372036854775807 ∧ q.ops[k]!.cv ≤ 9223372036854775807
theorem Small.fits {q : Rq} (h : Small q) : Fits q where
  tenant := Nat.le_trans h.tenant (by omega)
  col := Nat.le_trans h.col (by omega)
  uid := Nat.le_trans h.uid (by omega)
  card := Nat.le_trans h.card (by omega)
  ops := Nat.le_trans h.ops (by omega)
  each := fun k hk => ⟨Nat.le_trans (h.each k hk).1 (by omega), Nat.le_trans (h.each k hk).2.1 (by omega)⟩
theorem opB_len (o : Opx) (hu : o.uid.size ≤ 1073741824) (hc : o.card.size ≤ 1073741824) : (opB o).length ≤ 2200000000 := by
  have h1 := textB_len o.uid _ hu
  have h2 := textB_len o.card _ hc
  have h3 := numB_len 0
  have h4 := numB_len 1
  have h5 := numB_len o.ck
  have h6 := numB_len o.cv
  unfold opB condB
  split <;> simp only [List.length_append] <;> omega
theorem flat_snoc (l : List Opx) (k : Nat) (h : k < l.length) : (l.take (k + 1)).flatMap opB = (l.take k).flatMap opB ++ opB l[k]! := by
  rw [List.take_succ_eq_append_getElem h, List.flatMap_append, getElem!_pos l k h]
  simp
def EncPost (E : Int) (l : List UInt8) (w : World) (e : Ending) (w' : World) : Prop := ∃ v', e = .returned (.tuple #[v', .int .i64 E]) ∧ (E = 0 → Row w' w.heap.size v' l) ∧ (E ≠ 0 → v' = .slice none 0 0) ∧ Below w.heap.size w w'

set_option maxHeartbeats 4000000 in
set_option maxRecDepth 100000 in
theorem encode_bad (q : Rq) (A : Option Addr) (c : Nat) (w : World) (hO : OpsAt w A q.ops) (hS : Small q) (hG : GL w) (hE : checkE q ≠ 0) :
    Calls Tryz.prog 13 #[q.val A c] w (EncPost (checkE q) (encB q) w) := by
  have cC := fun W (hW : OpsAt W A q.ops) (hg : GL W) => check_q_calls q A c W hW hS.fits hg
  generalize encB q = L
  generalize checkE q = E at cC hE ⊢
  obtain ⟨k, tenant, col, uid, card, ck, cv, ops, tok, most, ticks⟩ := q
  obtain ⟨n, hN⟩ : ∃ n, n = ops.length := ⟨_, rfl⟩
  simp only [Rq.val, ← hN] at cC ⊢
  have HO := Lib.hid hO
  have HG := Lib.hid hG
  have CC := Lib.hid cC
  have HE := Lib.hid hE
  have e1 : (E != 0) = true := bne_iff_ne.2 hE
  have hb0 := (Below.refl w.heap.size w).alloc (Nat.le_refl _) (.cells #[.int .i64 k, .string tenant, .string col, .string uid, .string card, .int .i64 ck, .int .i64 cv, .slice A n c, .int .i64 tok, .int .i64 most, .int .i64 ticks] 26)
  clear hO hG cC hE hS hN
  go_enter Tryz.func13, Tryz.ntmps13
  go_wp2_with fail
  refine (CC.out _ (HO.out.below hb0) (HG.out.below hb0)).mono ?_
  rintro e w1 ⟨rfl, hb1⟩
  obtain ⟨hP, hc⟩ := boxed hb1
  clear hc hb1
  go_wp2
  go_ret2
  exact ⟨_, rfl, fun h => absurd h HE.out, fun _ => rfl, hP.below⟩

set_option maxHeartbeats 8000000 in
set_option maxRecDepth 100000 in
theorem encode_0 (q : Rq) (A : Option Addr) (c : Nat) (w : World) (hO : OpsAt w A q.ops) (hS : Small q) (hG : GL w) (hE : checkE q = 0) (hh : hasL q.k = [true, false, false, false, false, false, false, false, false]) :
    Calls Tryz.prog 13 #[q.val A c] w (EncPost (checkE q) (encB q) w) := by
  have cC := fun W (hW : OpsAt W A q.ops) (hg : GL W) => check_q_calls q A c W hW hS.fits hg
  have cF := fun W => fields_calls q.k W
  have hL : encB q = encF [true, false, false, false, false, false, false, false, false] q := by unfold encB; rw [hh]
  rw [hE] at cC ⊢
  simp only [hh, List.map] at cF
  rw [hL]
  clear hL hE hh
  obtain ⟨k, tenant, col, uid, card, ck, cv, ops, tok, most, ticks⟩ := q
  obtain ⟨n, hN⟩ : ∃ n, n = ops.length := ⟨_, rfl⟩
  obtain ⟨s0, s1, s2, s3, s4, s5, s6, s7, s8, s9, s10⟩ := hS
  simp only at s0 s1 s2 s3 s4 s5 s6 s7 s8
  have t0 := textB_len tenant _ s0
  have t1 := textB_len col _ s1
  have t2 := textB_len uid _ s2
  have t3 := textB_len card _ s3
  have u0 := numB_len ck
  have u1 := numB_len cv
  have u2 := numB_len tok
  have u3 := numB_len most
  have u4 := numB_len ticks
  have u5 := numB_len n
  have u6 : (condB ck cv).length ≤ 18 := by unfold condB; rw [List.length_append]; omega
  simp only [Rq.val, ← hN] at cC cF s9 s10 ⊢
  have C0 := Lib.hid fun v W (hW : Row W w.heap.size v ([])) => ptext_calls w.heap.size v ([]) tenant W hW (by omega) (by simp only [List.length_append, List.length_nil]; omega)
  have HO := Lib.hid hO
  have HG := Lib.hid hG
  have CC := Lib.hid cC
  have CF := Lib.hid cF
  have HN := Lib.hid hN
  have HS := Lib.hid s10
  have hb0 := (Below.refl w.heap.size w).alloc (Nat.le_refl _) (.cells #[.int .i64 k, .string tenant, .string col, .string uid, .string card, .int .i64 ck, .int .i64 cv, .slice A n c, .int .i64 tok, .int .i64 most, .int .i64 ticks] 26)
  clear hO hG cC cF hN s0 s1 s2 s3 s4 s5 s6 s7 s8 s10 t0 t1 t2 t3 u0 u1 u2 u3 u4 u5 u6
  go_enter Tryz.func13, Tryz.ntmps13
  go_wp2_with fail
  refine (CC.out _ (HO.out.below hb0) (HG.out.below hb0)).mono ?_
  rintro e w1 ⟨rfl, hb1⟩
  have hbw := below_step hb0 hb0.size hb1
  have hBa := (Box.new w #[.int .i64 k, .string tenant, .string col, .string uid, .string card, .int .i64 ck, .int .i64 cv, .slice A n c, .int .i64 tok, .int .i64 most, .int .i64 ticks] 26).step hb1
  have hz1 := hBa.1
  obtain ⟨q0, q1, q2, q3, q4, q5, q6, q7, q8, q9, q10⟩ := Box.tuple11 hBa
  clear hb0 hb1
  go_wp2_with fail
  refine (CF.out _).mono ?_
  rintro e w2 ⟨rfl, hb2⟩
  have hBb := Box.new w2 #[.bool true, .bool false, .bool false, .bool false, .bool false, .bool false, .bool false, .bool false, .bool false] 77
  have hBa := (hBa.step hb2).alloc (.cells #[.bool true, .bool false, .bool false, .bool false, .bool false, .bool false, .bool false, .bool false, .bool false] 77)
  have hbw := (below_step hbw hbw.size hb2).alloc (by have := hbw.size; have := hb2.size; omega) (.cells #[.bool true, .bool false, .bool false, .bool false, .bool false, .bool false, .bool false, .bool false, .bool false] 77)
  have hz2 := hb2.size
  have hr := Row.nil_ (w2.alloc (.cells #[.bool true, .bool false, .bool false, .bool false, .bool false, .bool false, .bool false, .bool false, .bool false] 77)) w.heap.size
  clear q0 q1 q2 q3 q4 q5 q6 q7 q8 q9 q10
  obtain ⟨q0, q1, q2, q3, q4, q5, q6, q7, q8, q9, q10⟩ := Box.tuple11 hBa
  obtain ⟨h0, h1, h2, h3, h4, h5, h6, h7, h8⟩ := Box.tuple9 hBb
  clear hb2
  go_wp2_with fail
  refine (C0.out _ _ hr).mono ?_
  rintro e w3 ⟨v0, rfl, hr0, hbx⟩
  have hBa := hBa.step hbx
  have hBb := hBb.step hbx
  have hzw := hbw.size
  have hbw := below_step hbw hzw hbx
  have hr := Row.low (B' := w.heap.size) hr0 hzw
  clear q0 q1 q2 q3 q4 q5 q6 q7 q8 q9 q10 h0 h1 h2 h3 h4 h5 h6 h7 h8 hbx hr0
  obtain ⟨q0, q1, q2, q3, q4, q5, q6, q7, q8, q9, q10⟩ := Box.tuple11 hBa
  obtain ⟨h0, h1, h2, h3, h4, h5, h6, h7, h8⟩ := Box.tuple9 hBb
  go_wp2
  go_ret2
  exact ⟨_, rfl, fun _ => by unfold encF; simpa using hr, fun h => absurd rfl h, hbw⟩

set_option maxHeartbeats 8000000 in
set_option maxRecDepth 100000 in
theorem encode_1 (q : Rq) (A : Option Addr) (c : Nat) (w : World) (hO : OpsAt w A q.ops) (hS : Small q) (hG : GL w) (hE : checkE q = 0) (hh : hasL q.k = [false, true, false, false, false, false, false, false, false]) :
    Calls Tryz.prog 13 #[q.val A c] w (EncPost (checkE q) (encB q) w) := by
  have cC := fun W (hW : OpsAt W A q.ops) (hg : GL W) => check_q_calls q A c W hW hS.fits hg
  have cF := fun W => fields_calls q.k W
  have hL : encB q = encF [false, true, false, false, false, false, false, false, false] q := by unfold encB; rw [hh]
  rw [hE] at cC ⊢
  simp only [hh, List.map] at cF
  rw [hL]
  clear hL hE hh
  obtain ⟨k, tenant, col, uid, card, ck, cv, ops, tok, most, ticks⟩ := q
  obtain ⟨n, hN⟩ : ∃ n, n = ops.length := ⟨_, rfl⟩
  obtain ⟨s0, s1, s2, s3, s4, s5, s6, s7, s8, s9, s10⟩ := hS
  simp only at s0 s1 s2 s3 s4 s5 s6 s7 s8
  have t0 := textB_len tenant _ s0
  have t1 := textB_len col _ s1
  have t2 := textB_len uid _ s2
  have t3 := textB_len card _ s3
  have u0 := numB_len ck
  have u1 := numB_len cv
  have u2 := numB_len tok
  have u3 := numB_len most
  have u4 := numB_len ticks
  have u5 := numB_len n
  have u6 : (condB ck cv).length ≤ 18 := by unfold condB; rw [List.length_append]; omega
  simp only [Rq.val, ← hN] at cC cF s9 s10 ⊢
  have C0 := Lib.hid fun v W (hW : Row W w.heap.size v ([])) => ptext_calls w.heap.size v ([]) col W hW (by omega) (by simp only [List.length_append, List.length_nil]; omega)
  have HO := Lib.hid hO
  have HG := Lib.hid hG
  have CC := Lib.hid cC
  have CF := Lib.hid cF
  have HN := Lib.hid hN
  have HS := Lib.hid s10
  have hb0 := (Below.refl w.heap.size w).alloc (Nat.le_refl _) (.cells #[.int .i64 k, .string tenant, .string col, .string uid, .string card, .int .i64 ck, .int .i64 cv, .slice A n c, .int .i64 tok, .int .i64 most, .int .i64 ticks] 26)
  clear hO hG cC cF hN s0 s1 s2 s3 s4 s5 s6 s7 s8 s10 t0 t1 t2 t3 u0 u1 u2 u3 u4 u5 u6
  go_enter Tryz.func13, Tryz.ntmps13
  go_wp2_with fail
  refine (CC.out _ (HO.out.below hb0) (HG.out.below hb0)).mono ?_
  rintro e w1 ⟨rfl, hb1⟩
  have hbw := below_step hb0 hb0.size hb1
  have hBa := (Box.new w #[.int .i64 k, .string tenant, .string col, .string uid, .string card, .int .i64 ck, .int .i64 cv, .slice A n c, .int .i64 tok, .int .i64 most, .int .i64 ticks] 26).step hb1
  have hz1 := hBa.1
  obtain ⟨q0, q1, q2, q3, q4, q5, q6, q7, q8, q9, q10⟩ := Box.tuple11 hBa
  clear hb0 hb1
  go_wp2_with fail
  refine (CF.out _).mono ?_
  rintro e w2 ⟨rfl, hb2⟩
  have hBb := Box.new w2 #[.bool false, .bool true, .bool false, .bool false, .bool false, .bool false, .bool false, .bool false, .bool false] 77
  have hBa := (hBa.step hb2).alloc (.cells #[.bool false, .bool true, .bool false, .bool false, .bool false, .bool false, .bool false, .bool false, .bool false] 77)
  have hbw := (below_step hbw hbw.size hb2).alloc (by have := hbw.size; have := hb2.size; omega) (.cells #[.bool false, .bool true, .bool false, .bool false, .bool false, .bool false, .bool false, .bool false, .bool false] 77)
  have hz2 := hb2.size
  have hr := Row.nil_ (w2.alloc (.cells #[.bool false, .bool true, .bool false, .bool false, .bool false, .bool false, .bool false, .bool false, .bool false] 77)) w.heap.size
  clear q0 q1 q2 q3 q4 q5 q6 q7 q8 q9 q10
  obtain ⟨q0, q1, q2, q3, q4, q5, q6, q7, q8, q9, q10⟩ := Box.tuple11 hBa
  obtain ⟨h0, h1, h2, h3, h4, h5, h6, h7, h8⟩ := Box.tuple9 hBb
  clear hb2
  go_wp2_with fail
  refine (C0.out _ _ hr).mono ?_
  rintro e w3 ⟨v0, rfl, hr0, hbx⟩
  have hBa := hBa.step hbx
  have hBb := hBb.step hbx
  have hzw := hbw.size
  have hbw := below_step hbw hzw hbx
  have hr := Row.low (B' := w.heap.size) hr0 hzw
  clear q0 q1 q2 q3 q4 q5 q6 q7 q8 q9 q10 h0 h1 h2 h3 h4 h5 h6 h7 h8 hbx hr0
  obtain ⟨q0, q1, q2, q3, q4, q5, q6, q7, q8, q9, q10⟩ := Box.tuple11 hBa
  obtain ⟨h0, h1, h2, h3, h4, h5, h6, h7, h8⟩ := Box.tuple9 hBb
  go_wp2
  go_ret2
  exact ⟨_, rfl, fun _ => by unfold encF; simpa using hr, fun h => absurd rfl h, hbw⟩

set_option maxHeartbeats 8000000 in
set_option maxRecDepth 100000 in
theorem encode_2 (q : Rq) (A : Option Addr) (c : Nat) (w : World) (hO : OpsAt w A q.ops) (hS : Small q) (hG : GL w) (hE : checkE q = 0) (hh : hasL q.k = [false, true, true, true, true, false, false, false, false]) :
    Calls Tryz.prog 13 #[q.val A c] w (EncPost (checkE q) (encB q) w) := by
  have cC := fun W (hW : OpsAt W A q.ops) (hg : GL W) => check_q_calls q A c W hW hS.fits hg
  have cF := fun W => fields_calls q.k W
  have hL : encB q = encF [false, true, true, true, true, false, false, false, false] q := by unfold encB; rw [hh]
  rw [hE] at cC ⊢
  simp only [hh, List.map] at cF
  rw [hL]
  clear hL hE hh
  obtain ⟨k, tenant, col, uid, card, ck, cv, ops, tok, most, ticks⟩ := q
  obtain ⟨n, hN⟩ : ∃ n, n = ops.length := ⟨_, rfl⟩
  obtain ⟨s0, s1, s2, s3, s4, s5, s6, s7, s8, s9, s10⟩ := hS
  simp only at s0 s1 s2 s3 s4 s5 s6 s7 s8
  have t0 := textB_len tenant _ s0
  have t1 := textB_len col _ s1
  have t2 := textB_len uid _ s2
  have t3 := textB_len card _ s3
  have u0 := numB_len ck
  have u1 := numB_len cv
  have u2 := numB_len tok
  have u3 := numB_len most
  have u4 := numB_len ticks
  have u5 := numB_len n
  have u6 : (condB ck cv).length ≤ 18 := by unfold condB; rw [List.length_append]; omega
  simp only [Rq.val, ← hN] at cC cF s9 s10 ⊢
  have C0 := Lib.hid fun v W (hW : Row W w.heap.size v ([])) => ptext_calls w.heap.size v ([]) col W hW (by omega) (by simp only [List.length_append, List.length_nil]; omega)
  have C1 := Lib.hid fun v W (hW : Row W w.heap.size v ([] ++ textB col.data.toList)) => ptext_calls w.heap.size v ([] ++ textB col.data.toList) uid W hW (by omega) (by simp only [List.length_append, List.length_nil]; omega)
  have C2 := Lib.hid fun v W (hW : Row W w.heap.size v ([] ++ textB col.data.toList ++ textB uid.data.toList)) => ptext_calls w.heap.size v ([] ++ textB col.data.toList ++ textB uid.data.toList) card W hW (by omega) (by simp only [List.length_append, List.length_nil]; omega)
  have C3 := Lib.hid fun v W (hW : Row W w.heap.size v ([] ++ textB col.data.toList ++ textB uid.data.toList ++ textB card.data.toList)) => cond_calls w.heap.size v ([] ++ textB col.data.toList ++ textB uid.data.toList ++ textB card.data.toList) ck cv W hW s4 s5 (by simp only [List.length_append, List.length_nil]; omega)
  have HO := Lib.hid hO
  have HG := Lib.hid hG
  have CC := Lib.hid cC
  have CF := Lib.hid cF
  have HN := Lib.hid hN
  have HS := Lib.hid s10
  have hb0 := (Below.refl w.heap.size w).alloc (Nat.le_refl _) (.cells #[.int .i64 k, .string tenant, .string col, .string uid, .string card, .int .i64 ck, .int .i64 cv, .slice A n c, .int .i64 tok, .int .i64 most, .int .i64 ticks] 26)
  clear hO hG cC cF hN s0 s1 s2 s3 s4 s5 s6 s7 s8 s10 t0 t1 t2 t3 u0 u1 u2 u3 u4 u5 u6
  go_enter Tryz.func13, Tryz.ntmps13
  go_wp2_with fail
  refine (CC.out _ (HO.out.below hb0) (HG.out.below hb0)).mono ?_
  rintro e w1 ⟨rfl, hb1⟩
  have hbw := below_step hb0 hb0.size hb1
  have hBa := (Box.new w #[.int .i64 k, .string tenant, .string col, .string uid, .string card, .int .i64 ck, .int .i64 cv, .slice A n c, .int .i64 tok, .int .i64 most, .int .i64 ticks] 26).step hb1
  have hz1 := hBa.1
  obtain ⟨q0, q1, q2, q3, q4, q5, q6, q7, q8, q9, q10⟩ := Box.tuple11 hBa
  clear hb0 hb1
  go_wp2_with fail
  refine (CF.out _).mono ?_
  rintro e w2 ⟨rfl, hb2⟩
  have hBb := Box.new w2 #[.bool false, .bool true, .bool true, .bool true, .bool true, .bool false, .bool false, .bool false, .bool false] 77
  have hBa := (hBa.step hb2).alloc (.cells #[.bool false, .bool true, .bool true, .bool true, .bool true, .bool false, .bool false, .bool false, .bool false] 77)
  have hbw := (below_step hbw hbw.size hb2).alloc (by have := hbw.size; have := hb2.size; omega) (.cells #[.bool false, .bool true, .bool true, .bool true, .bool true, .bool false, .bool false, .bool false, .bool false] 77)
  have hz2 := hb2.size
  have hr := Row.nil_ (w2.alloc (.cells #[.bool false, .bool true, .bool true, .bool true, .bool true, .bool false, .bool false, .bool false, .bool false] 77)) w.heap.size
  clear q0 q1 q2 q3 q4 q5 q6 q7 q8 q9 q10
  obtain ⟨q0, q1, q2, q3, q4, q5, q6, q7, q8, q9, q10⟩ := Box.tuple11 hBa
  obtain ⟨h0, h1, h2, h3, h4, h5, h6, h7, h8⟩ := Box.tuple9 hBb
  clear hb2
  go_wp2_with fail
  refine (C0.out _ _ hr).mono ?_
  rintro e w3 ⟨v0, rfl, hr0, hbx⟩
  have hBa := hBa.step hbx
  have hBb := hBb.step hbx
  have hzw := hbw.size
  have hbw := below_step hbw hzw hbx
  have hr := Row.low (B' := w.heap.size) hr0 hzw
  clear q0 q1 q2 q3 q4 q5 q6 q7 q8 q9 q10 h0 h1 h2 h3 h4 h5 h6 h7 h8 hbx hr0
  obtain ⟨q0, q1, q2, q3, q4, q5, q6, q7, q8, q9, q10⟩ := Box.tuple11 hBa
  obtain ⟨h0, h1, h2, h3, h4, h5, h6, h7, h8⟩ := Box.tuple9 hBb
  go_wp2_with fail
  refine (C1.out _ _ hr).mono ?_
  rintro e w4 ⟨v1, rfl, hr1, hbx⟩
  have hBa := hBa.step hbx
  have hBb := hBb.step hbx
  have hzw := hbw.size
  have hbw := below_step hbw hzw hbx
  have hr := Row.low (B' := w.heap.size) hr1 hzw
  clear q0 q1 q2 q3 q4 q5 q6 q7 q8 q9 q10 h0 h1 h2 h3 h4 h5 h6 h7 h8 hbx hr1
  obtain ⟨q0, q1, q2, q3, q4, q5, q6, q7, q8, q9, q10⟩ := Box.tuple11 hBa
  obtain ⟨h0, h1, h2, h3, h4, h5, h6, h7, h8⟩ := Box.tuple9 hBb
  go_wp2_with fail
  refine (C2.out _ _ hr).mono ?_
  rintro e w5 ⟨v2, rfl, hr2, hbx⟩
  have hBa := hBa.step hbx
  have hBb := hBb.step hbx
  have hzw := hbw.size
  have hbw := below_step hbw hzw hbx
  have hr := Row.low (B' := w.heap.size) hr2 hzw
  clear q0 q1 q2 q3 q4 q5 q6 q7 q8 q9 q10 h0 h1 h2 h3 h4 h5 h6 h7 h8 hbx hr2
  obtain ⟨q0, q1, q2, q3, q4, q5, q6, q7, q8, q9, q10⟩ := Box.tuple11 hBa
  obtain ⟨h0, h1, h2, h3, h4, h5, h6, h7, h8⟩ := Box.tuple9 hBb
  go_wp2_with fail
  refine (C3.out _ _ hr).mono ?_
  rintro e w6 ⟨v3, rfl, hr3, hbx⟩
  have hBa := hBa.step hbx
  have hBb := hBb.step hbx
  have hzw := hbw.size
  have hbw := below_step hbw hzw hbx
  have hr := Row.low (B' := w.heap.size) hr3 hzw
  clear q0 q1 q2 q3 q4 q5 q6 q7 q8 q9 q10 h0 h1 h2 h3 h4 h5 h6 h7 h8 hbx hr3
  obtain ⟨q0, q1, q2, q3, q4, q5, q6, q7, q8, q9, q10⟩ := Box.tuple11 hBa
  obtain ⟨h0, h1, h2, h3, h4, h5, h6, h7, h8⟩ := Box.tuple9 hBb
  go_wp2
  go_ret2
  exact ⟨_, rfl, fun _ => by unfold encF; simpa using hr, fun h => absurd rfl h, hbw⟩

set_option maxHeartbeats 8000000 in
set_option maxRecDepth 100000 in
theorem encode_3 (q : Rq) (A : Option Addr) (c : Nat) (w : World) (hO : OpsAt w A q.ops) (hS : Small q) (hG : GL w) (hE : checkE q = 0) (hh : hasL q.k = [false, true, true, false, true, false, false, false, false]) :
    Calls Tryz.prog 13 #[q.val A c] w (EncPost (checkE q) (encB q) w) := by
  have cC := fun W (hW : OpsAt W A q.ops) (hg : GL W) => check_q_calls q A c W hW hS.fits hg
  have cF := fun W => fields_calls q.k W
  have hL : encB q = encF [false, true, true, false, true, false, false, false, false] q := by unfold encB; rw [hh]
  rw [hE] at cC ⊢
  simp only [hh, List.map] at cF
  rw [hL]
  clear hL hE hh
  obtain ⟨k, tenant, col, uid, card, ck, cv, ops, tok, most, ticks⟩ := q
  obtain ⟨n, hN⟩ : ∃ n, n = ops.length := ⟨_, rfl⟩
  obtain ⟨s0, s1, s2, s3, s4, s5, s6, s7, s8, s9, s10⟩ := hS
  simp only at s0 s1 s2 s3 s4 s5 s6 s7 s8
  have t0 := textB_len tenant _ s0
  have t1 := textB_len col _ s1
  have t2 := textB_len uid _ s2
  have t3 := textB_len card _ s3
  have u0 := numB_len ck
  have u1 := numB_len cv
  have u2 := numB_len tok
  have u3 := numB_len most
  have u4 := numB_len ticks
  have u5 := numB_len n
  have u6 : (condB ck cv).length ≤ 18 := by unfold condB; rw [List.length_append]; omega
  simp only [Rq.val, ← hN] at cC cF s9 s10 ⊢
  have C0 := Lib.hid fun v W (hW : Row W w.heap.size v ([])) => ptext_calls w.heap.size v ([]) col W hW (by omega) (by simp only [List.length_append, List.length_nil]; omega)
  have C1 := Lib.hid fun v W (hW : Row W w.heap.size v ([] ++ textB col.data.toList)) => ptext_calls w.heap.size v ([] ++ textB col.data.toList) uid W hW (by omega) (by simp only [List.length_append, List.length_nil]; omega)
  have C2 := Lib.hid fun v W (hW : Row W w.heap.size v ([] ++ textB col.data.toList ++ textB uid.data.toList)) => cond_calls w.heap.size v ([] ++ textB col.data.toList ++ textB uid.data.toList) ck cv W hW s4 s5 (by simp only [List.length_append, List.length_nil]; omega)
  have HO := Lib.hid hO
  have HG := Lib.hid hG
  have CC := Lib.hid cC
  have CF := Lib.hid cF
  have HN := Lib.hid hN
  have HS := Lib.hid s10
  have hb0 := (Below.refl w.heap.size w).alloc (Nat.le_refl _) (.cells #[.int .i64 k, .string tenant, .string col, .string uid, .string card, .int .i64 ck, .int .i64 cv, .slice A n c, .int .i64 tok, .int .i64 most, .int .i64 ticks] 26)
  clear hO hG cC cF hN s0 s1 s2 s3 s4 s5 s6 s7 s8 s10 t0 t1 t2 t3 u0 u1 u2 u3 u4 u5 u6
  go_enter Tryz.func13, Tryz.ntmps13
  go_wp2_with fail
  refine (CC.out _ (HO.out.below hb0) (HG.out.below hb0)).mono ?_
  rintro e w1 ⟨rfl, hb1⟩
  have hbw := below_step hb0 hb0.size hb1
  have hBa := (Box.new w #[.int .i64 k, .string tenant, .string col, .string uid, .string card, .int .i64 ck, .int .i64 cv, .slice A n c, .int .i64 tok, .int .i64 most, .int .i64 ticks] 26).step hb1
  have hz1 := hBa.1
  obtain ⟨q0, q1, q2, q3, q4, q5, q6, q7, q8, q9, q10⟩ := Box.tuple11 hBa
  clear hb0 hb1
  go_wp2_with fail
  refine (CF.out _).mono ?_
  rintro e w2 ⟨rfl, hb2⟩
  have hBb := Box.new w2 #[.bool false, .bool true, .bool true, .bool false, .bool true, .bool false, .bool false, .bool false, .bool false] 77
  have hBa := (hBa.step hb2).alloc (.cells #[.bool false, .bool true, .bool true, .bool false, .bool true, .bool false, .bool false, .bool false, .bool false] 77)
  have hbw := (below_step hbw hbw.size hb2).alloc (by have := hbw.size; have := hb2.size; omega) (.cells #[.bool false, .bool true, .bool true, .bool false, .bool true, .bool false, .bool false, .bool false, .bool false] 77)
  have hz2 := hb2.size
  have hr := Row.nil_ (w2.alloc (.cells #[.bool false, .bool true, .bool true, .bool false, .bool true, .bool false, .bool false, .bool false, .bool false] 77)) w.heap.size
  clear q0 q1 q2 q3 q4 q5 q6 q7 q8 q9 q10
  obtain ⟨q0, q1, q2, q3, q4, q5, q6, q7, q8, q9, q10⟩ := Box.tuple11 hBa
  obtain ⟨h0, h1, h2, h3, h4, h5, h6, h7, h8⟩ := Box.tuple9 hBb
  clear hb2
  go_wp2_with fail
  refine (C0.out _ _ hr).mono ?_
  rintro e w3 ⟨v0, rfl, hr0, hbx⟩
  have hBa := hBa.step hbx
  have hBb := hBb.step hbx
  have hzw := hbw.size
  have hbw := below_step hbw hzw hbx
  have hr := Row.low (B' := w.heap.size) hr0 hzw
  clear q0 q1 q2 q3 q4 q5 q6 q7 q8 q9 q10 h0 h1 h2 h3 h4 h5 h6 h7 h8 hbx hr0
  obtain ⟨q0, q1, q2, q3, q4, q5, q6, q7, q8, q9, q10⟩ := Box.tuple11 hBa
  obtain ⟨h0, h1, h2, h3, h4, h5, h6, h7, h8⟩ := Box.tuple9 hBb
  go_wp2_with fail
  refine (C1.out _ _ hr).mono ?_
  rintro e w4 ⟨v1, rfl, hr1, hbx⟩
  have hBa := hBa.step hbx
  have hBb := hBb.step hbx
  have hzw := hbw.size
  have hbw := below_step hbw hzw hbx
  have hr := Row.low (B' := w.heap.size) hr1 hzw
  clear q0 q1 q2 q3 q4 q5 q6 q7 q8 q9 q10 h0 h1 h2 h3 h4 h5 h6 h7 h8 hbx hr1
  obtain ⟨q0, q1, q2, q3, q4, q5, q6, q7, q8, q9, q10⟩ := Box.tuple11 hBa
  obtain ⟨h0, h1, h2, h3, h4, h5, h6, h7, h8⟩ := Box.tuple9 hBb
  go_wp2_with fail
  refine (C2.out _ _ hr).mono ?_
  rintro e w5 ⟨v2, rfl, hr2, hbx⟩
  have hBa := hBa.step hbx
  have hBb := hBb.step hbx
  have hzw := hbw.size
  have hbw := below_step hbw hzw hbx
  have hr := Row.low (B' := w.heap.size) hr2 hzw
  clear q0 q1 q2 q3 q4 q5 q6 q7 q8 q9 q10 h0 h1 h2 h3 h4 h5 h6 h7 h8 hbx hr2
  obtain ⟨q0, q1, q2, q3, q4, q5, q6, q7, q8, q9, q10⟩ := Box.tuple11 hBa
  obtain ⟨h0, h1, h2, h3, h4, h5, h6, h7, h8⟩ := Box.tuple9 hBb
  go_wp2
  go_ret2
  exact ⟨_, rfl, fun _ => by unfold encF; simpa using hr, fun h => absurd rfl h, hbw⟩

set_option maxHeartbeats 8000000 in
set_option maxRecDepth 100000 in
theorem encode_4 (q : Rq) (A : Option Addr) (c : Nat) (w : World) (hO : OpsAt w A q.ops) (hS : Small q) (hG : GL w) (hE : checkE q = 0) (hh : hasL q.k = [false, true, true, false, false, false, false, false, false]) :
    Calls Tryz.prog 13 #[q.val A c] w (EncPost (checkE q) (encB q) w) := by
  have cC := fun W (hW : OpsAt W A q.ops) (hg : GL W) => check_q_calls q A c W hW hS.fits hg
  have cF := fun W => fields_calls q.k W
  have hL : encB q = encF [false, true, true, false, false, false, false, false, false] q := by unfold encB; rw [hh]
  rw [hE] at cC ⊢
  simp only [hh, List.map] at cF
  rw [hL]
  clear hL hE hh
  obtain ⟨k, tenant, col, uid, card, ck, cv, ops, tok, most, ticks⟩ := q
  obtain ⟨n, hN⟩ : ∃ n, n = ops.length := ⟨_, rfl⟩
  obtain ⟨s0, s1, s2, s3, s4, s5, s6, s7, s8, s9, s10⟩ := hS
  simp only at s0 s1 s2 s3 s4 s5 s6 s7 s8
  have t0 := textB_len tenant _ s0
  have t1 := textB_len col _ s1
  have t2 := textB_len uid _ s2
  have t3 := textB_len card _ s3
  have u0 := numB_len ck
  have u1 := numB_len cv
  have u2 := numB_len tok
  have u3 := numB_len most
  have u4 := numB_len ticks
  have u5 := numB_len n
  have u6 : (condB ck cv).length ≤ 18 := by unfold condB; rw [List.length_append]; omega
  simp only [Rq.val, ← hN] at cC cF s9 s10 ⊢
  have C0 := Lib.hid fun v W (hW : Row W w.heap.size v ([])) => ptext_calls w.heap.size v ([]) col W hW (by omega) (by simp only [List.length_append, List.length_nil]; omega)
  have C1 := Lib.hid fun v W (hW : Row W w.heap.size v ([] ++ textB col.data.toList)) => ptext_calls w.heap.size v ([] ++ textB col.data.toList) uid W hW (by omega) (by simp only [List.length_append, List.length_nil]; omega)
  have HO := Lib.hid hO
  have HG := Lib.hid hG
  have CC := Lib.hid cC
  have CF := Lib.hid cF
  have HN := Lib.hid hN
  have HS := Lib.hid s10
  have hb0 := (Below.refl w.heap.size w).alloc (Nat.le_refl _) (.cells #[.int .i64 k, .string tenant, .string col, .string uid, .string card, .int .i64 ck, .int .i64 cv, .slice A n c, .int .i64 tok, .int .i64 most, .int .i64 ticks] 26)
  clear hO hG cC cF hN s0 s1 s2 s3 s4 s5 s6 s7 s8 s10 t0 t1 t2 t3 u0 u1 u2 u3 u4 u5 u6
  go_enter Tryz.func13, Tryz.ntmps13
  go_wp2_with fail
  refine (CC.out _ (HO.out.below hb0) (HG.out.below hb0)).mono ?_
  rintro e w1 ⟨rfl, hb1⟩
  have hbw := below_step hb0 hb0.size hb1
  have hBa := (Box.new w #[.int .i64 k, .string tenant, .string col, .string uid, .string card, .int .i64 ck, .int .i64 cv, .slice A n c, .int .i64 tok, .int .i64 most, .int .i64 ticks] 26).step hb1
  have hz1 := hBa.1
  obtain ⟨q0, q1, q2, q3, q4, q5, q6, q7, q8, q9, q10⟩ := Box.tuple11 hBa
  clear hb0 hb1
  go_wp2_with fail
  refine (CF.out _).mono ?_
  rintro e w2 ⟨rfl, hb2⟩
  have hBb := Box.new w2 #[.bool false, .bool true, .bool true, .bool false, .bool false, .bool false, .bool false, .bool false, .bool false] 77
  have hBa := (hBa.step hb2).alloc (.cells #[.bool false, .bool true, .bool true, .bool false, .bool false, .bool false, .bool false, .bool false, .bool false] 77)
  have hbw := (below_step hbw hbw.size hb2).alloc (by have := hbw.size; have := hb2.size; omega) (.cells #[.bool false, .bool true, .bool true, .bool false, .bool false, .bool false, .bool false, .bool false, .bool false] 77)
  have hz2 := hb2.size
  have hr := Row.nil_ (w2.alloc (.cells #[.bool false, .bool true, .bool true, .bool false, .bool false, .bool false, .bool false, .bool false, .bool false] 77)) w.heap.size
  clear q0 q1 q2 q3 q4 q5 q6 q7 q8 q9 q10
  obtain ⟨q0, q1, q2, q3, q4, q5, q6, q7, q8, q9, q10⟩ := Box.tuple11 hBa
  obtain ⟨h0, h1, h2, h3, h4, h5, h6, h7, h8⟩ := Box.tuple9 hBb
  clear hb2
  go_wp2_with fail
  refine (C0.out _ _ hr).mono ?_
  rintro e w3 ⟨v0, rfl, hr0, hbx⟩
  have hBa := hBa.step hbx
  have hBb := hBb.step hbx
  have hzw := hbw.size
  have hbw := below_step hbw hzw hbx
  have hr := Row.low (B' := w.heap.size) hr0 hzw
  clear q0 q1 q2 q3 q4 q5 q6 q7 q8 q9 q10 h0 h1 h2 h3 h4 h5 h6 h7 h8 hbx hr0
  obtain ⟨q0, q1, q2, q3, q4, q5, q6, q7, q8, q9, q10⟩ := Box.tuple11 hBa
  obtain ⟨h0, h1, h2, h3, h4, h5, h6, h7, h8⟩ := Box.tuple9 hBb
  go_wp2_with fail
  refine (C1.out _ _ hr).mono ?_
  rintro e w4 ⟨v1, rfl, hr1, hbx⟩
  have hBa := hBa.step hbx
  have hBb := hBb.step hbx
  have hzw := hbw.size
  have hbw := below_step hbw hzw hbx
  have hr := Row.low (B' := w.heap.size) hr1 hzw
  clear q0 q1 q2 q3 q4 q5 q6 q7 q8 q9 q10 h0 h1 h2 h3 h4 h5 h6 h7 h8 hbx hr1
  obtain ⟨q0, q1, q2, q3, q4, q5, q6, q7, q8, q9, q10⟩ := Box.tuple11 hBa
  obtain ⟨h0, h1, h2, h3, h4, h5, h6, h7, h8⟩ := Box.tuple9 hBb
  go_wp2
  go_ret2
  exact ⟨_, rfl, fun _ => by unfold encF; simpa using hr, fun h => absurd rfl h, hbw⟩

set_option maxHeartbeats 8000000 in
set_option maxRecDepth 100000 in
theorem encode_5 (q : Rq) (A : Option Addr) (c : Nat) (w : World) (hO : OpsAt w A q.ops) (hS : Small q) (hG : GL w) (hE : checkE q = 0) (hh : hasL q.k = [false, true, false, false, false, true, false, false, false]) :
    Calls Tryz.prog 13 #[q.val A c] w (EncPost (checkE q) (encB q) w) := by
  have cC := fun W (hW : OpsAt W A q.ops) (hg : GL W) => check_q_calls q A c W hW hS.fits hg
  have cF := fun W => fields_calls q.k W
  have hL : encB q = encF [false, true, false, false, false, true, false, false, false] q := by unfold encB; rw [hh]
  rw [hE] at cC ⊢
  simp only [hh, List.map] at cF
  rw [hL]
  clear hL hE hh
  obtain ⟨k, tenant, col, uid, card, ck, cv, ops, tok, most, ticks⟩ := q
  obtain ⟨n, hN⟩ : ∃ n, n = ops.length := ⟨_, rfl⟩
  obtain ⟨s0, s1, s2, s3, s4, s5, s6, s7, s8, s9, s10⟩ := hS
  simp only at s0 s1 s2 s3 s4 s5 s6 s7 s8
  have t0 := textB_len tenant _ s0
  have t1 := textB_len col _ s1
  have t2 := textB_len uid _ s2
  have t3 := textB_len card _ s3
  have u0 := numB_len ck
  have u1 := numB_len cv
  have u2 := numB_len tok
  have u3 := numB_len most
  have u4 := numB_len ticks
  have u5 := numB_len n
  have u6 : (condB ck cv).length ≤ 18 := by unfold condB; rw [List.length_append]; omega
  simp only [Rq.val, ← hN] at cC cF s9 s10 ⊢
  have C0 := Lib.hid fun v W (hW : Row W w.heap.size v ([])) => ptext_calls w.heap.size v ([]) col W hW (by omega) (by simp only [List.length_append, List.length_nil]; omega)
  have C1 := Lib.hid fun v W (hW : Row W w.heap.size v ([] ++ textB col.data.toList)) => num_calls w.heap.size v ([] ++ textB col.data.toList) n W hW (by omega) (by simp only [List.length_append, List.length_nil]; omega)
  have HL := Lib.hid (show ([] ++ textB col.data.toList ++ numB n).length ≤ 8589934592 by simp only [List.length_append, List.length_nil]; omega)
  have HO := Lib.hid hO
  have HG := Lib.hid hG
  have CC := Lib.hid cC
  have CF := Lib.hid cF
  have HN := Lib.hid hN
  have HS := Lib.hid s10
  have hb0 := (Below.refl w.heap.size w).alloc (Nat.le_refl _) (.cells #[.int .i64 k, .string tenant, .string col, .string uid, .string card, .int .i64 ck, .int .i64 cv, .slice A n c, .int .i64 tok, .int .i64 most, .int .i64 ticks] 26)
  clear hO hG cC cF hN s0 s1 s2 s3 s4 s5 s6 s7 s8 s10 t0 t1 t2 t3 u0 u1 u2 u3 u4 u5 u6
  go_enter Tryz.func13, Tryz.ntmps13
  go_wp2_with fail
  refine (CC.out _ (HO.out.below hb0) (HG.out.below hb0)).mono ?_
  rintro e w1 ⟨rfl, hb1⟩
  have hbw := below_step hb0 hb0.size hb1
  have hBa := (Box.new w #[.int .i64 k, .string tenant, .string col, .string uid, .string card, .int .i64 ck, .int .i64 cv, .slice A n c, .int .i64 tok, .int .i64 most, .int .i64 ticks] 26).step hb1
  have hz1 := hBa.1
  obtain ⟨q0, q1, q2, q3, q4, q5, q6, q7, q8, q9, q10⟩ := Box.tuple11 hBa
  clear hb0 hb1
  go_wp2_with fail
  refine (CF.out _).mono ?_
  rintro e w2 ⟨rfl, hb2⟩
  have hBb := Box.new w2 #[.bool false, .bool true, .bool false, .bool false, .bool false, .bool true, .bool false, .bool false, .bool false] 77
  have hBa := (hBa.step hb2).alloc (.cells #[.bool false, .bool true, .bool false, .bool false, .bool false, .bool true, .bool false, .bool false, .bool false] 77)
  have hbw := (below_step hbw hbw.size hb2).alloc (by have := hbw.size; have := hb2.size; omega) (.cells #[.bool false, .bool true, .bool false, .bool false, .bool false, .bool true, .bool false, .bool false, .bool false] 77)
  have hz2 := hb2.size
  have hr := Row.nil_ (w2.alloc (.cells #[.bool false, .bool true, .bool false, .bool false, .bool false, .bool true, .bool false, .bool false, .bool false] 77)) w.heap.size
  clear q0 q1 q2 q3 q4 q5 q6 q7 q8 q9 q10
  obtain ⟨q0, q1, q2, q3, q4, q5, q6, q7, q8, q9, q10⟩ := Box.tuple11 hBa
  obtain ⟨h0, h1, h2, h3, h4, h5, h6, h7, h8⟩ := Box.tuple9 hBb
  clear hb2
  go_wp2_with fail
  refine (C0.out _ _ hr).mono ?_
  rintro e w3 ⟨v0, rfl, hr0, hbx⟩
  have hBa := hBa.step hbx
  have hBb := hBb.step hbx
  have hzw := hbw.size
  have hbw := below_step hbw hzw hbx
  have hr := Row.low (B' := w.heap.size) hr0 hzw
  clear q0 q1 q2 q3 q4 q5 q6 q7 q8 q9 q10 h0 h1 h2 h3 h4 h5 h6 h7 h8 hbx hr0
  obtain ⟨q0, q1, q2, q3, q4, q5, q6, q7, q8, q9, q10⟩ := Box.tuple11 hBa
  obtain ⟨h0, h1, h2, h3, h4, h5, h6, h7, h8⟩ := Box.tuple9 hBb
  go_wp2_with fail
  refine (C1.out _ _ hr).mono ?_
  rintro e w4 ⟨v1, rfl, hr1, hbx⟩
  have hBa := hBa.step hbx
  have hBb := hBb.step hbx
  have hzw := hbw.size
  have hbw := below_step hbw hzw hbx
  have hr := Row.low (B' := w.heap.size) hr1 hzw
  clear q0 q1 q2 q3 q4 q5 q6 q7 q8 q9 q10 h0 h1 h2 h3 h4 h5 h6 h7 h8 hbx hr1
  obtain ⟨q0, q1, q2, q3, q4, q5, q6, q7, q8, q9, q10⟩ := Box.tuple11 hBa
  obtain ⟨h0, h1, h2, h3, h4, h5, h6, h7, h8⟩ := Box.tuple9 hBb
  have OC := Lib.hid fun k (hk : k < n) v l W (hW : Row W w.heap.size v l) (hl : l.length ≤ 274877906944) => op_calls w.heap.size v l ops[k]! W hW (HS.out k hk).1 (HS.out k hk).2.1 (HS.out k hk).2.2.1 (HS.out k hk).2.2.2 hl
  have HBB := Lib.hid hBb
  have HRR := Lib.hid hr
  have HBW := Lib.hid hbw
  have hz4 := hbw.size
  have hzz := hBb.1
  clear hBa hBb hr C0 C1
  generalize hLL : ([] ++ textB col.data.toList ++ numB n : List UInt8) = LL at HL HRR
  go_wp2
  go_loopw [6, 57] (fun v i wr => ∃ k : Nat, k ≤ n ∧ i = .int .i64 k ∧ Hid (Row wr w.heap.size v (LL ++ (ops.take k).flatMap opB)) ∧ Below w.heap.size w wr ∧ Hid (Box wr w2.heap.size #[.bool false, .bool true, .bool false, .bool false, .bool false, .bool true, .bool false, .bool false, .bool false].toList) ∧ w2.heap.size < wr.heap.size ∧ Hid ((LL ++ (ops.take k).flatMap opB).length ≤ 8589934592 + k * 2200000000)) (fun _ i _ => n - (intOf i).toNat)
  case atStart => exact ⟨0, Nat.zero_le _, rfl, by unfold Hid; simpa using HRR.out, HBW.out, HBB.out, hzz, by unfold Hid; simpa using HL.out⟩
  case round =>
    obtain ⟨k, hk, rfl, hr, hb, hB, hzr, hlen⟩ := hrel
    by_cases hlt : k < n
    · have hltO : k < ops.length := by rw [← HN.out]; exact hlt
      have hsn := flat_snoc ops k hltO
      have hcall := fun v W (hW : Row W w.heap.size v (LL ++ (ops.take k).flatMap opB)) => OC.out k hlt v _ W hW (by have := hlen.out; omega)
      have hol := opB_len ops[k]! (HS.out k hlt).1 (HS.out k hlt).2.1
      obtain ⟨x, hx⟩ : ∃ x, ops[k]! = x := ⟨_, rfl⟩
      obtain ⟨ad, hA, hl, c0, c1, c2, c3, c4⟩ := (HO.out.below hb).at_ k hltO x hx
      subst hA
      rw [hx] at hsn hcall hol
      have b1 : (k : Int) < n := by omega
      have hz := hb.size
      have hrx := hr.out.below ((Below.refl _ _).alloc (Nat.le_refl _) (.cells #[.bool x.del, .string x.uid, .string x.card, .int .i64 x.ck, .int .i64 x.cv] 40))
      have hcc := hcall _ _ hrx
      have HS2 := Lib.hid hsn
      have HOL := Lib.hid hol
      clear hsn hcall hol hx hrx
      go_wp2_with fail
      refine hcc.mono ?_
      rintro e w5 ⟨v5, rfl, hr5, hb5⟩
      have hz5 : wr.heap.size + 1 ≤ w5.heap.size := by have := hb5.size; simpa using this
      have hbf := below_step (hb.alloc hb.size _) (by simp; omega) hb5
      have hr6 := Row.low (B' := w.heap.size) hr5 (by simp; omega)
      have hB6 := (hB.out.alloc (.cells #[.bool x.del, .string x.uid, .string x.card, .int .i64 x.ck, .int .i64 x.cv] 40)).step hb5
      clear hcc hb5 hr5
      go_wp2
      go_round
      case rel =>
        refine ⟨k + 1, by omega, by go_num, ?_, hbf, hB6, by omega, ?_⟩
        · unfold Hid; rw [HS2.out, ← List.append_assoc]; exact hr6
        · unfold Hid; rw [HS2.out, ← List.append_assoc, List.length_append]; have := hlen.out; have := HOL.out; omega
      case measure => simp [intOf]; omega
    · obtain rfl : k = n := by omega
      have hfin := hr.out
      rw [List.take_of_length_le (by rw [HN.out]; omega), ← hLL] at hfin
      obtain ⟨h0, h1, h2, h3, h4, h5, h6, h7, h8⟩ := Box.tuple9 hB.out
      have HFI := Lib.hid hfin
      clear hfin hr hlen
      go_wp2
      go_ret2
      exact ⟨_, rfl, fun _ => by unfold encF; simp only [HN.out] at HFI ⊢; simpa using HFI.out, fun h => absurd rfl h, hb⟩

set_option maxHeartbeats 8000000 in
set_option maxRecDepth 100000 in
theorem encode_6 (q : Rq) (A : Option Addr) (c : Nat) (w : World) (hO : OpsAt w A q.ops) (hS : Small q) (hG : GL w) (hE : checkE q = 0) (hh : hasL q.k = [false, true, false, false, false, false, true, true, false]) :
    Calls Tryz.prog 13 #[q.val A c] w (EncPost (checkE q) (encB q) w) := by
  have cC := fun W (hW : OpsAt W A q.ops) (hg : GL W) => check_q_calls q A c W hW hS.fits hg
  have cF := fun W => fields_calls q.k W
  have hL : encB q = encF [false, true, false, false, false, false, true, true, false] q := by unfold encB; rw [hh]
  rw [hE] at cC ⊢
  simp only [hh, List.map] at cF
  rw [hL]
  clear hL hE hh
  obtain ⟨k, tenant, col, uid, card, ck, cv, ops, tok, most, ticks⟩ := q
  obtain ⟨n, hN⟩ : ∃ n, n = ops.length := ⟨_, rfl⟩
  obtain ⟨s0, s1, s2, s3, s4, s5, s6, s7, s8, s9, s10⟩ := hS
  simp only at s0 s1 s2 s3 s4 s5 s6 s7 s8
  have t0 := textB_len tenant _ s0
  have t1 := textB_len col _ s1
  have t2 := textB_len uid _ s2
  have t3 := textB_len card _ s3
  have u0 := numB_len ck
  have u1 := numB_len cv
  have u2 := numB_len tok
  have u3 := numB_len most
  have u4 := numB_len ticks
  have u5 := numB_len n
  have u6 : (condB ck cv).length ≤ 18 := by unfold condB; rw [List.length_append]; omega
  simp only [Rq.val, ← hN] at cC cF s9 s10 ⊢
  have C0 := Lib.hid fun v W (hW : Row W w.heap.size v ([])) => ptext_calls w.heap.size v ([]) col W hW (by omega) (by simp only [List.length_append, List.length_nil]; omega)
  have C1 := Lib.hid fun v W (hW : Row W w.heap.size v ([] ++ textB col.data.toList)) => num_calls w.heap.size v ([] ++ textB col.data.toList) tok W hW s6 (by simp only [List.length_append, List.length_nil]; omega)
  have C2 := Lib.hid fun v W (hW : Row W w.heap.size v ([] ++ textB col.data.toList ++ numB tok)) => num_calls w.heap.size v ([] ++ textB col.data.toList ++ numB tok) most W hW s7 (by simp only [List.length_append, List.length_nil]; omega)
  have HO := Lib.hid hO
  have HG := Lib.hid hG
  have CC := Lib.hid cC
  have CF := Lib.hid cF
  have HN := Lib.hid hN
  have HS := Lib.hid s10
  have hb0 := (Below.refl w.heap.size w).alloc (Nat.le_refl _) (.cells #[.int .i64 k, .string tenant, .string col, .string uid, .string card, .int .i64 ck, .int .i64 cv, .slice A n c, .int .i64 tok, .int .i64 most, .int .i64 ticks] 26)
  clear hO hG cC cF hN s0 s1 s2 s3 s4 s5 s6 s7 s8 s10 t0 t1 t2 t3 u0 u1 u2 u3 u4 u5 u6
  go_enter Tryz.func13, Tryz.ntmps13
  go_wp2_with fail
  refine (CC.out _ (HO.out.below hb0) (HG.out.below hb0)).mono ?_
  rintro e w1 ⟨rfl, hb1⟩
  have hbw := below_step hb0 hb0.size hb1
  have hBa := (Box.new w #[.int .i64 k, .string tenant, .string col, .string uid, .string card, .int .i64 ck, .int .i64 cv, .slice A n c, .int .i64 tok, .int .i64 most, .int .i64 ticks] 26).step hb1
  have hz1 := hBa.1
  obtain ⟨q0, q1, q2, q3, q4, q5, q6, q7, q8, q9, q10⟩ := Box.tuple11 hBa
  clear hb0 hb1
  go_wp2_with fail
  refine (CF.out _).mono ?_
  rintro e w2 ⟨rfl, hb2⟩
  have hBb := Box.new w2 #[.bool false, .bool true, .bool false, .bool false, .bool false, .bool false, .bool true, .bool true, .bool false] 77
  have hBa := (hBa.step hb2).alloc (.cells #[.bool false, .bool true, .bool false, .bool false, .bool false, .bool false, .bool true, .bool true, .bool false] 77)
  have hbw := (below_step hbw hbw.size hb2).alloc (by have := hbw.size; have := hb2.size; omega) (.cells #[.bool false, .bool true, .bool false, .bool false, .bool false, .bool false, .bool true, .bool true, .bool false] 77)
  have hz2 := hb2.size
  have hr := Row.nil_ (w2.alloc (.cells #[.bool false, .bool true, .bool false, .bool false, .bool false, .bool false, .bool true, .bool true, .bool false] 77)) w.heap.size
  clear q0 q1 q2 q3 q4 q5 q6 q7 q8 q9 q10
  obtain ⟨q0, q1, q2, q3, q4, q5, q6, q7, q8, q9, q10⟩ := Box.tuple11 hBa
  obtain ⟨h0, h1, h2, h3, h4, h5, h6, h7, h8⟩ := Box.tuple9 hBb
  clear hb2
  go_wp2_with fail
  refine (C0.out _ _ hr).mono ?_
  rintro e w3 ⟨v0, rfl, hr0, hbx⟩
  have hBa := hBa.step hbx
  have hBb := hBb.step hbx
  have hzw := hbw.size
  have hbw := below_step hbw hzw hbx
  have hr := Row.low (B' := w.heap.size) hr0 hzw
  clear q0 q1 q2 q3 q4 q5 q6 q7 q8 q9 q10 h0 h1 h2 h3 h4 h5 h6 h7 h8 hbx hr0
  obtain ⟨q0, q1, q2, q3, q4, q5, q6, q7, q8, q9, q10⟩ := Box.tuple11 hBa
  obtain ⟨h0, h1, h2, h3, h4, h5, h6, h7, h8⟩ := Box.tuple9 hBb
  go_wp2_with fail
  refine (C1.out _ _ hr).mono ?_
  rintro e w4 ⟨v1, rfl, hr1, hbx⟩
  have hBa := hBa.step hbx
  have hBb := hBb.step hbx
  have hzw := hbw.size
  have hbw := below_step hbw hzw hbx
  have hr := Row.low (B' := w.heap.size) hr1 hzw
  clear q0 q1 q2 q3 q4 q5 q6 q7 q8 q9 q10 h0 h1 h2 h3 h4 h5 h6 h7 h8 hbx hr1
  obtain ⟨q0, q1, q2, q3, q4, q5, q6, q7, q8, q9, q10⟩ := Box.tuple11 hBa
  obtain ⟨h0, h1, h2, h3, h4, h5, h6, h7, h8⟩ := Box.tuple9 hBb
  go_wp2_with fail
  refine (C2.out _ _ hr).mono ?_
  rintro e w5 ⟨v2, rfl, hr2, hbx⟩
  have hBa := hBa.step hbx
  have hBb := hBb.step hbx
  have hzw := hbw.size
  have hbw := below_step hbw hzw hbx
  have hr := Row.low (B' := w.heap.size) hr2 hzw
  clear q0 q1 q2 q3 q4 q5 q6 q7 q8 q9 q10 h0 h1 h2 h3 h4 h5 h6 h7 h8 hbx hr2
  obtain ⟨q0, q1, q2, q3, q4, q5, q6, q7, q8, q9, q10⟩ := Box.tuple11 hBa
  obtain ⟨h0, h1, h2, h3, h4, h5, h6, h7, h8⟩ := Box.tuple9 hBb
  go_wp2
  go_ret2
  exact ⟨_, rfl, fun _ => by unfold encF; simpa using hr, fun h => absurd rfl h, hbw⟩

set_option maxHeartbeats 8000000 in
set_option maxRecDepth 100000 in
theorem encode_7 (q : Rq) (A : Option Addr) (c : Nat) (w : World) (hO : OpsAt w A q.ops) (hS : Small q) (hG : GL w) (hE : checkE q = 0) (hh : hasL q.k = [false, true, false, false, false, false, true, false, true]) :
    Calls Tryz.prog 13 #[q.val A c] w (EncPost (checkE q) (encB q) w) := by
  have cC := fun W (hW : OpsAt W A q.ops) (hg : GL W) => check_q_calls q A c W hW hS.fits hg
  have cF := fun W => fields_calls q.k W
  have hL : encB q = encF [false, true, false, false, false, false, true, false, true] q := by unfold encB; rw [hh]
  rw [hE] at cC ⊢
  simp only [hh, List.map] at cF
  rw [hL]
  clear hL hE hh
  obtain ⟨k, tenant, col, uid, card, ck, cv, ops, tok, most, ticks⟩ := q
  obtain ⟨n, hN⟩ : ∃ n, n = ops.length := ⟨_, rfl⟩
  obtain ⟨s0, s1, s2, s3, s4, s5, s6, s7, s8, s9, s10⟩ := hS
  simp only at s0 s1 s2 s3 s4 s5 s6 s7 s8
  have t0 := textB_len tenant _ s0
  have t1 := textB_len col _ s1
  have t2 := textB_len uid _ s2
  have t3 := textB_len card _ s3
  have u0 := numB_len ck
  have u1 := numB_len cv
  have u2 := numB_len tok
  have u3 := numB_len most
  have u4 := numB_len ticks
  have u5 := numB_len n
  have u6 : (condB ck cv).length ≤ 18 := by unfold condB; rw [List.length_append]; omega
  simp only [Rq.val, ← hN] at cC cF s9 s10 ⊢
  have C0 := Lib.hid fun v W (hW : Row W w.heap.size v ([])) => ptext_calls w.heap.size v ([]) col W hW (by omega) (by simp only [List.length_append, List.length_nil]; omega)
  have C1 := Lib.hid fun v W (hW : Row W w.heap.size v ([] ++ textB col.data.toList)) => num_calls w.heap.size v ([] ++ textB col.data.toList) tok W hW s6 (by simp only [List.length_append, List.length_nil]; omega)
  have C2 := Lib.hid fun v W (hW : Row W w.heap.size v ([] ++ textB col.data.toList ++ numB tok)) => num_calls w.heap.size v ([] ++ textB col.data.toList ++ numB tok) ticks W hW s8 (by simp only [List.length_append, List.length_nil]; omega)
  have HO := Lib.hid hO
  have HG := Lib.hid hG
  have CC := Lib.hid cC
  have CF := Lib.hid cF
  have HN := Lib.hid hN
  have HS := Lib.hid s10
  have hb0 := (Below.refl w.heap.size w).alloc (Nat.le_refl _) (.cells #[.int .i64 k, .string tenant, .string col, .string uid, .string card, .int .i64 ck, .int .i64 cv, .slice A n c, .int .i64 tok, .int .i64 most, .int .i64 ticks] 26)
  clear hO hG cC cF hN s0 s1 s2 s3 s4 s5 s6 s7 s8 s10 t0 t1 t2 t3 u0 u1 u2 u3 u4 u5 u6
  go_enter Tryz.func13, Tryz.ntmps13
  go_wp2_with fail
  refine (CC.out _ (HO.out.below hb0) (HG.out.below hb0)).mono ?_
  rintro e w1 ⟨rfl, hb1⟩
  have hbw := below_step hb0 hb0.size hb1
  have hBa := (Box.new w #[.int .i64 k, .string tenant, .string col, .string uid, .string card, .int .i64 ck, .int .i64 cv, .slice A n c, .int .i64 tok, .int .i64 most, .int .i64 ticks] 26).step hb1
  have hz1 := hBa.1
  obtain ⟨q0, q1, q2, q3, q4, q5, q6, q7, q8, q9, q10⟩ := Box.tuple11 hBa
  clear hb0 hb1
  go_wp2_with fail
  refine (CF.out _).mono ?_
  rintro e w2 ⟨rfl, hb2⟩
  have hBb := Box.new w2 #[.bool false, .bool true, .bool false, .bool false, .bool false, .bool false, .bool true, .bool false, .bool true] 77
  have hBa := (hBa.step hb2).alloc (.cells #[.bool false, .bool true, .bool false, .bool false, .bool false, .bool false, .bool true, .bool false, .bool true] 77)
  have hbw := (below_step hbw hbw.size hb2).alloc (by have := hbw.size; have := hb2.size; omega) (.cells #[.bool false, .bool true, .bool false, .bool false, .bool false, .bool false, .bool true, .bool false, .bool true] 77)
  have hz2 := hb2.size
  have hr := Row.nil_ (w2.alloc (.cells #[.bool false, .bool true, .bool false, .bool false, .bool false, .bool false, .bool true, .bool false, .bool true] 77)) w.heap.size
  clear q0 q1 q2 q3 q4 q5 q6 q7 q8 q9 q10
  obtain ⟨q0, q1, q2, q3, q4, q5, q6, q7, q8, q9, q10⟩ := Box.tuple11 hBa
  obtain ⟨h0, h1, h2, h3, h4, h5, h6, h7, h8⟩ := Box.tuple9 hBb
  clear hb2
  go_wp2_with fail
  refine (C0.out _ _ hr).mono ?_
  rintro e w3 ⟨v0, rfl, hr0, hbx⟩
  have hBa := hBa.step hbx
  have hBb := hBb.step hbx
  have hzw := hbw.size
  have hbw := below_step hbw hzw hbx
  have hr := Row.low (B' := w.heap.size) hr0 hzw
  clear q0 q1 q2 q3 q4 q5 q6 q7 q8 q9 q10 h0 h1 h2 h3 h4 h5 h6 h7 h8 hbx hr0
  obtain ⟨q0, q1, q2, q3, q4, q5, q6, q7, q8, q9, q10⟩ := Box.tuple11 hBa
  obtain ⟨h0, h1, h2, h3, h4, h5, h6, h7, h8⟩ := Box.tuple9 hBb
  go_wp2_with fail
  refine (C1.out _ _ hr).mono ?_
  rintro e w4 ⟨v1, rfl, hr1, hbx⟩
  have hBa := hBa.step hbx
  have hBb := hBb.step hbx
  have hzw := hbw.size
  have hbw := below_step hbw hzw hbx
  have hr := Row.low (B' := w.heap.size) hr1 hzw
  clear q0 q1 q2 q3 q4 q5 q6 q7 q8 q9 q10 h0 h1 h2 h3 h4 h5 h6 h7 h8 hbx hr1
  obtain ⟨q0, q1, q2, q3, q4, q5, q6, q7, q8, q9, q10⟩ := Box.tuple11 hBa
  obtain ⟨h0, h1, h2, h3, h4, h5, h6, h7, h8⟩ := Box.tuple9 hBb
  go_wp2_with fail
  refine (C2.out _ _ hr).mono ?_
  rintro e w5 ⟨v2, rfl, hr2, hbx⟩
  have hBa := hBa.step hbx
  have hBb := hBb.step hbx
  have hzw := hbw.size
  have hbw := below_step hbw hzw hbx
  have hr := Row.low (B' := w.heap.size) hr2 hzw
  clear q0 q1 q2 q3 q4 q5 q6 q7 q8 q9 q10 h0 h1 h2 h3 h4 h5 h6 h7 h8 hbx hr2
  obtain ⟨q0, q1, q2, q3, q4, q5, q6, q7, q8, q9, q10⟩ := Box.tuple11 hBa
  obtain ⟨h0, h1, h2, h3, h4, h5, h6, h7, h8⟩ := Box.tuple9 hBb
  go_wp2
  go_ret2
  exact ⟨_, rfl, fun _ => by unfold encF; simpa using hr, fun h => absurd rfl h, hbw⟩

set_option maxHeartbeats 8000000 in
set_option maxRecDepth 100000 in
theorem encode_8 (q : Rq) (A : Option Addr) (c : Nat) (w : World) (hO : OpsAt w A q.ops) (hS : Small q) (hG : GL w) (hE : checkE q = 0) (hh : hasL q.k = [false, false, false, false, false, false, false, false, false]) :
    Calls Tryz.prog 13 #[q.val A c] w (EncPost (checkE q) (encB q) w) := by
  have cC := fun W (hW : OpsAt W A q.ops) (hg : GL W) => check_q_calls q A c W hW hS.fits hg
  have cF := fun W => fields_calls q.k W
  have hL : encB q = encF [false, false, false, false, false, false, false, false, false] q := by unfold encB; rw [hh]
  rw [hE] at cC ⊢
  simp only [hh, List.map] at cF
  rw [hL]
  clear hL hE hh
  obtain ⟨k, tenant, col, uid, card, ck, cv, ops, tok, most, ticks⟩ := q
  obtain ⟨n, hN⟩ : ∃ n, n = ops.length := ⟨_, rfl⟩
  obtain ⟨s0, s1, s2, s3, s4, s5, s6, s7, s8, s9, s10⟩ := hS
  simp only at s0 s1 s2 s3 s4 s5 s6 s7 s8
  have t0 := textB_len tenant _ s0
  have t1 := textB_len col _ s1
  have t2 := textB_len uid _ s2
  have t3 := textB_len card _ s3
  have u0 := numB_len ck
  have u1 := numB_len cv
  have u2 := numB_len tok
  have u3 := numB_len most
  have u4 := numB_len ticks
  have u5 := numB_len n
  have u6 : (condB ck cv).length ≤ 18 := by unfold condB; rw [List.length_append]; omega
  simp only [Rq.val, ← hN] at cC cF s9 s10 ⊢
  have HO := Lib.hid hO
  have HG := Lib.hid hG
  have CC := Lib.hid cC
  have CF := Lib.hid cF
  have HN := Lib.hid hN
  have HS := Lib.hid s10
  have hb0 := (Below.refl w.heap.size w).alloc (Nat.le_refl _) (.cells #[.int .i64 k, .string tenant, .string col, .string uid, .string card, .int .i64 ck, .int .i64 cv, .slice A n c, .int .i64 tok, .int .i64 most, .int .i64 ticks] 26)
  clear hO hG cC cF hN s0 s1 s2 s3 s4 s5 s6 s7 s8 s10 t0 t1 t2 t3 u0 u1 u2 u3 u4 u5 u6
  go_enter Tryz.func13, Tryz.ntmps13
  go_wp2_with fail
  refine (CC.out _ (HO.out.below hb0) (HG.out.below hb0)).mono ?_
  rintro e w1 ⟨rfl, hb1⟩
  have hbw := below_step hb0 hb0.size hb1
  have hBa := (Box.new w #[.int .i64 k, .string tenant, .string col, .string uid, .string card, .int .i64 ck, .int .i64 cv, .slice A n c, .int .i64 tok, .int .i64 most, .int .i64 ticks] 26).step hb1
  have hz1 := hBa.1
  obtain ⟨q0, q1, q2, q3, q4, q5, q6, q7, q8, q9, q10⟩ := Box.tuple11 hBa
  clear hb0 hb1
  go_wp2_with fail
  refine (CF.out _).mono ?_
  rintro e w2 ⟨rfl, hb2⟩
  have hBb := Box.new w2 #[.bool false, .bool false, .bool false, .bool false, .bool false, .bool false, .bool false, .bool false, .bool false] 77
  have hBa := (hBa.step hb2).alloc (.cells #[.bool false, .bool false, .bool false, .bool false, .bool false, .bool false, .bool false, .bool false, .bool false] 77)
  have hbw := (below_step hbw hbw.size hb2).alloc (by have := hbw.size; have := hb2.size; omega) (.cells #[.bool false, .bool false, .bool false, .bool false, .bool false, .bool false, .bool false, .bool false, .bool false] 77)
  have hz2 := hb2.size
  have hr := Row.nil_ (w2.alloc (.cells #[.bool false, .bool false, .bool false, .bool false, .bool false, .bool false, .bool false, .bool false, .bool false] 77)) w.heap.size
  clear q0 q1 q2 q3 q4 q5 q6 q7 q8 q9 q10
  obtain ⟨q0, q1, q2, q3, q4, q5, q6, q7, q8, q9, q10⟩ := Box.tuple11 hBa
  obtain ⟨h0, h1, h2, h3, h4, h5, h6, h7, h8⟩ := Box.tuple9 hBb
  clear hb2
  go_wp2
  go_ret2
  exact ⟨_, rfl, fun _ => by unfold encF; simpa using hr, fun h => absurd rfl h, hbw⟩

theorem encode_calls (q : Rq) (A : Option Addr) (c : Nat) (w : World) (hO : OpsAt w A q.ops) (hS : Small q) (hG : GL w) :
    Calls Tryz.prog 13 #[q.val A c] w (EncPost (checkE q) (encB q) w) := by
  by_cases hE : checkE q = 0
  · have hh : hasL q.k = [true, false, false, false, false, false, false, false, false] ∨ hasL q.k = [false, true, false, false, false, false, false, false, false] ∨ hasL q.k = [false, true, true, true, true, false, false, false, false] ∨ hasL q.k = [false, true, true, false, true, false, false, false, false] ∨ hasL q.k = [false, true, true, false, false, false, false, false, false] ∨ hasL q.k = [false, true, false, false, false, true, false, false, false] ∨ hasL q.k = [false, true, false, false, false, false, true, true, false] ∨ hasL q.k = [false, true, false, false, false, false, true, false, true] ∨ hasL q.k = [false, false, false, false, false, false, false, false, false] := by
      unfold hasL
      (repeat' split)
      all_goals simp
    rcases hh with h | h | h | h | h | h | h | h | h
    · exact encode_0 q A c w hO hS hG hE h
    · exact encode_1 q A c w hO hS hG hE h
    · exact encode_2 q A c w hO hS hG hE h
    · exact encode_3 q A c w hO hS hG hE h
    · exact encode_4 q A c w hO hS hG hE h
    · exact encode_5 q A c w hO hS hG hE h
    · exact encode_6 q A c w hO hS hG hE h
    · exact encode_7 q A c w hO hS hG hE h
    · exact encode_8 q A c w hO hS hG hE h
  · exact encode_bad q A c w hO hS hG hE
end Go.Proofs.YtcmoidldalgljaaGreatDoor

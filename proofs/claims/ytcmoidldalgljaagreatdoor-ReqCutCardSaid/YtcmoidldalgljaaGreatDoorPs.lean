/-
  Contract: req.Decode. Printed by gen_decode.py.
-/
import Derived.Test.YtcmoidldalgljaaGreatDoorPr
set_option linter.unusedVariables false
set_option linter.unusedSimpArgs false
namespace Go.Proofs.YtcmoidldalgljaaGreatDoor
open Go.RowKit
open Hen

set_option maxHeartbeats 16000000 in
set_option maxRecDepth 100000 in
theorem decode_0 (k : Int) (v : Value) (l : List UInt8) (w : World) (hR : Src w v l) (hl : l.length ≤ 1099511627776) (hG : GL w) (hk : isK k = true) (hh : hasL k = [true, false, false, false, false, false, false, false, false]) :
    Calls Tryz.prog 14 #[.int .i64 k, v] w (DecPost k l w) := by
  have cI := fun W => is_calls k W
  have cF := fun W => fields_calls k W
  have cR := fun W (hW : Src W v l) => read_calls v l W hW hl
  rw [hk] at cI
  simp only [hh, List.map] at cF
  have hE : decE k l = if (decF [true, false, false, false, false, false, false, false, false] k l ⟨0, 0, false⟩).2.bad = true ∨ (decF [true, false, false, false, false, false, false, false, false] k l ⟨0, 0, false⟩).2.e ≠ 0 ∨ (decF [true, false, false, false, false, false, false, false, false] k l ⟨0, 0, false⟩).2.p < l.length then 1 else checkE (decF [true, false, false, false, false, false, false, false, false] k l ⟨0, 0, false⟩).1 := by unfold decE; rw [if_neg (by simp [hk]), hh]
  have hQ : decR k l = if decE k l = 0 then (decF [true, false, false, false, false, false, false, false, false] k l ⟨0, 0, false⟩).1 else zeroQ := by unfold decR; rw [hh]
  unfold DecPost
  generalize decE k l = E at hE hQ ⊢
  generalize decR k l = Q at hQ ⊢
  have i0 : In ⟨0, 0, false⟩ := Nat.zero_le _
  obtain ⟨s0, hs0⟩ : ∃ s : St, s = ⟨0, 0, false⟩ := ⟨_, rfl⟩
  have hD : decF [true, false, false, false, false, false, false, false, false] k l s0 = (⟨k, ⟨(textQ l s0).1.toArray⟩, ⟨([] : List UInt8).toArray⟩, ⟨([] : List UInt8).toArray⟩, ⟨([] : List UInt8).toArray⟩, ((0 : Nat) : Int), ((0 : Nat) : Int), [], ((0 : Nat) : Int), ((0 : Nat) : Int), ((0 : Nat) : Int)⟩, (textQ l s0).2) := rfl
  rw [← hs0] at hE hQ i0
  rw [hD] at hE hQ
  clear hD hk hh
  have c0 := fun W x r g c (h : XS W x r g c l s0) => xtextQ h i0 hl
  have i1 := textQ_in i0 hl
  have n0 := textQ_len l s0
  generalize textQ l s0 = T at c0 i1 n0 hE hQ
  obtain ⟨t0, s1⟩ := T
  simp only at c0 i1 n0 hE hQ
  rw [hs0] at c0
  have hway : (s1.bad = true ∧ E = 1) ∨ (s1.bad = false ∧ s1.e ≠ 0 ∧ E = 1) ∨ (s1.bad = false ∧ s1.e = 0 ∧ s1.p < l.length ∧ E = 1) ∨ (s1.bad = false ∧ s1.e = 0 ∧ l.length ≤ s1.p ∧ E = checkE ⟨k, ⟨t0.toArray⟩, ⟨([] : List UInt8).toArray⟩, ⟨([] : List UInt8).toArray⟩, ⟨([] : List UInt8).toArray⟩, 0, 0, [], 0, 0, 0⟩) := by
    by_cases a : s1.bad = true
    · exact .inl ⟨a, by rw [hE, if_pos (.inl a)]⟩
    · have a1 : s1.bad = false := by simpa using a
      by_cases b : s1.e = 0
      · by_cases d : s1.p < l.length
        · exact .inr (.inr (.inl ⟨a1, b, d, by rw [hE, if_pos (.inr (.inr d))]⟩))
        · exact .inr (.inr (.inr ⟨a1, b, by omega, hE.trans (if_neg (fun h => h.elim a fun h => h.elim (fun h => h b) d))⟩))
      · exact .inr (.inl ⟨a1, b, by rw [hE, if_pos (.inr (.inl b))]⟩)
  clear hE
  have HW := Lib.hid hway
  have HQ := Lib.hid hQ
  have HR := Lib.hid hR
  have HG := Lib.hid hG
  have CI := Lib.hid cI
  have CF := Lib.hid cF
  have CR := Lib.hid cR
  have HS := Lib.hid hs0
  have C0 := Lib.hid c0
  have N0 := Lib.hid n0
  have IL := Lib.hid i1
  clear hway hQ hR hG cI cF cR hs0 c0 n0 i0 i1
  have hb0 := (Below.refl w.heap.size w).alloc (Nat.le_refl _) (.cells #[.int .i64 0, .string ⟨#[]⟩, .string ⟨#[]⟩, .string ⟨#[]⟩, .string ⟨#[]⟩, .int .i64 0, .int .i64 0, .slice none 0 0, .int .i64 0, .int .i64 0, .int .i64 0] 26)
  have bb0 := Box.new w #[.int .i64 0, .string ⟨#[]⟩, .string ⟨#[]⟩, .string ⟨#[]⟩, .string ⟨#[]⟩, .int .i64 0, .int .i64 0, .slice none 0 0, .int .i64 0, .int .i64 0, .int .i64 0] 26
  have hR0 := HR.out.alloc (.cells #[.int .i64 0, .string ⟨#[]⟩, .string ⟨#[]⟩, .string ⟨#[]⟩, .string ⟨#[]⟩, .int .i64 0, .int .i64 0, .slice none 0 0, .int .i64 0, .int .i64 0, .int .i64 0] 26)
  go_enter Tryz.func14, Tryz.ntmps14
  go_wp2_with fail
  refine (CI.out _).mono ?_
  rintro e w1 ⟨rfl, rfl⟩
  go_wp2_with fail
  refine (CF.out _).mono ?_
  rintro e w1 ⟨rfl, hb1⟩
  have bb1 := (bb0.step hb1).alloc (.cells #[.bool true, .bool false, .bool false, .bool false, .bool false, .bool false, .bool false, .bool false, .bool false] 77)
  have hh1 := Box.new w1 #[.bool true, .bool false, .bool false, .bool false, .bool false, .bool false, .bool false, .bool false, .bool false] 77
  have hbw1 := (below_step hb0 hb0.size hb1).alloc (by have := hb0.size; have := hb1.size; omega) (.cells #[.bool true, .bool false, .bool false, .bool false, .bool false, .bool false, .bool false, .bool false, .bool false] 77)
  have hR1 := (hR0.below hb1).alloc (.cells #[.bool true, .bool false, .bool false, .bool false, .bool false, .bool false, .bool false, .bool false, .bool false] 77)
  have hz1 := hb1.size
  go_wp2_with fail
  refine (CR.out _ hR1).mono ?_
  rintro e w2 ⟨r, g, c, rfl, hrd, hgr, hgg, hb2⟩
  have D := DX.start (w0 := w) (k := k) hrd (bb1.step hb2) (hh1.step hb2) (below_step hbw1 hbw1.size hb2) (Nat.le_refl _) (by simp at hz1; omega) (by simp at hgr; omega) (by simp at hgg; omega)
  obtain ⟨x, hx⟩ : ∃ x, x = w2.heap.size := ⟨_, rfl⟩
  obtain ⟨q, hq⟩ : ∃ q, q = x + 1 := ⟨_, rfl⟩
  clear hb0 bb0 hR0 bb1 hh1 hbw1 hR1 hb1 hrd hb2
  obtain ⟨u0, u1, u2, u3, u4, u5, u6, u7, u8⟩ := Box.tuple9 D.hbox
  have qx0 := D.xs.box.cell 0 rfl
  go_wp2_with fail
  refine (C0.out _ _ _ _ _ D.xs).mono ?_
  rintro e v0 ⟨rfl, hx0, hk0⟩
  have D := D.call hx0 hk0
  clear u0 u1 u2 u3 u4 u5 u6 u7 u8 qx0 hx0 hk0
  obtain ⟨u0, u1, u2, u3, u4, u5, u6, u7, u8⟩ := Box.tuple9 D.hbox
  have qx0 := D.xs.box.cell 0 rfl
  have a0_0 := D.qbox.cell 1 rfl
  have b0_0 := D.qbox.free 1 (v := .string ⟨#[]⟩) rfl
  have D := D.set 1 (by simp) (.string ⟨t0.toArray⟩)
  clear u0 u1 u2 u3 u4 u5 u6 u7 u8 qx0
  obtain ⟨u0, u1, u2, u3, u4, u5, u6, u7, u8⟩ := Box.tuple9 D.hbox
  have qx0 := D.xs.box.cell 0 rfl
  have qx1 := D.xs.box.cell 1 rfl
  rcases HW.out with ⟨a, hE⟩ | ⟨a, b, hE⟩ | ⟨a, b, d, hE⟩ | ⟨a, b, d, hE⟩
  · rw [a] at qx1
    have HE := Lib.hid hE
    have z0 := D.bbox.cell 0 rfl
    have z1 := D.bbox.cell 1 rfl
    have z2 := D.bbox.cell 2 rfl
    have z3 := D.bbox.cell 3 rfl
    have z4 := D.bbox.cell 4 rfl
    have z5 := D.bbox.cell 5 rfl
    have z6 := D.bbox.cell 6 rfl
    have z7 := D.bbox.cell 7 rfl
    have z8 := D.bbox.cell 8 rfl
    have z9 := D.bbox.cell 9 rfl
    have z10 := D.bbox.cell 10 rfl
    have y0 := D.bbox.free 0 (v := .int .i64 0) rfl
    have y1 := D.bbox.free 1 (v := .string ⟨#[]⟩) rfl
    have y2 := D.bbox.free 2 (v := .string ⟨#[]⟩) rfl
    have y3 := D.bbox.free 3 (v := .string ⟨#[]⟩) rfl
    have y4 := D.bbox.free 4 (v := .string ⟨#[]⟩) rfl
    have y5 := D.bbox.free 5 (v := .int .i64 0) rfl
    have y6 := D.bbox.free 6 (v := .int .i64 0) rfl
    have y7 := D.bbox.free 7 (v := .slice none 0 0) rfl
    have y8 := D.bbox.free 8 (v := .int .i64 0) rfl
    have y9 := D.bbox.free 9 (v := .int .i64 0) rfl
    have y10 := D.bbox.free 10 (v := .int .i64 0) rfl
    clear a hE
    go_wp2
    obtain ⟨hF, hB⟩ := box_fill D.bbox D.below D.lb (.int .i64 0) (.string ⟨#[]⟩) (.string ⟨#[]⟩) (.string ⟨#[]⟩) (.string ⟨#[]⟩) (.int .i64 0) (.int .i64 0) (.slice none 0 0) (.int .i64 0) (.int .i64 0) (.int .i64 0)
    have e0 := hF.cell 0 rfl
    have e1 := hF.cell 1 rfl
    have e2 := hF.cell 2 rfl
    have e3 := hF.cell 3 rfl
    have e4 := hF.cell 4 rfl
    have e5 := hF.cell 5 rfl
    have e6 := hF.cell 6 rfl
    have e7 := hF.cell 7 rfl
    have e8 := hF.cell 8 rfl
    have e9 := hF.cell 9 rfl
    have e10 := hF.cell 10 rfl
    refine bodyPost_ret (v := .tuple #[.agg #[.int .i64 0, .string ⟨#[]⟩, .string ⟨#[]⟩, .string ⟨#[]⟩, .string ⟨#[]⟩, .int .i64 0, .int .i64 0, .slice none 0 0, .int .i64 0, .int .i64 0, .int .i64 0], .int .i64 1]) (by simp [results, Tryz.results14, go_sem, e0, e1, e2, e3, e4, e5, e6, e7, e8, e9, e10]) rfl ⟨none, 0, ?_, ?_, hB⟩
    · rw [HQ.out, HE.out, if_neg (by decide)]; rfl
    · rw [HQ.out, HE.out, if_neg (by decide)]; exact OpsAt.nil_ _ _
  · rw [a] at qx1
    have HE := Lib.hid hE
    have cE := rerr_calls _ _ _ _ _ _ _ D.xs.rd
    have e1 : (s1.e != 0) = true := bne_iff_ne.2 b
    have CE := Lib.hid cE
    clear a b hE cE
    go_wp2_with fail
    refine CE.out.mono ?_
    rintro e w5 ⟨rfl, rfl⟩
    have z0 := D.bbox.cell 0 rfl
    have z1 := D.bbox.cell 1 rfl
    have z2 := D.bbox.cell 2 rfl
    have z3 := D.bbox.cell 3 rfl
    have z4 := D.bbox.cell 4 rfl
    have z5 := D.bbox.cell 5 rfl
    have z6 := D.bbox.cell 6 rfl
    have z7 := D.bbox.cell 7 rfl
    have z8 := D.bbox.cell 8 rfl
    have z9 := D.bbox.cell 9 rfl
    have z10 := D.bbox.cell 10 rfl
    have y0 := D.bbox.free 0 (v := .int .i64 0) rfl
    have y1 := D.bbox.free 1 (v := .string ⟨#[]⟩) rfl
    have y2 := D.bbox.free 2 (v := .string ⟨#[]⟩) rfl
    have y3 := D.bbox.free 3 (v := .string ⟨#[]⟩) rfl
    have y4 := D.bbox.free 4 (v := .string ⟨#[]⟩) rfl
    have y5 := D.bbox.free 5 (v := .int .i64 0) rfl
    have y6 := D.bbox.free 6 (v := .int .i64 0) rfl
    have y7 := D.bbox.free 7 (v := .slice none 0 0) rfl
    have y8 := D.bbox.free 8 (v := .int .i64 0) rfl
    have y9 := D.bbox.free 9 (v := .int .i64 0) rfl
    have y10 := D.bbox.free 10 (v := .int .i64 0) rfl
    go_wp2
    obtain ⟨hF, hB⟩ := box_fill D.bbox D.below D.lb (.int .i64 0) (.string ⟨#[]⟩) (.string ⟨#[]⟩) (.string ⟨#[]⟩) (.string ⟨#[]⟩) (.int .i64 0) (.int .i64 0) (.slice none 0 0) (.int .i64 0) (.int .i64 0) (.int .i64 0)
    have e0 := hF.cell 0 rfl
    have e1 := hF.cell 1 rfl
    have e2 := hF.cell 2 rfl
    have e3 := hF.cell 3 rfl
    have e4 := hF.cell 4 rfl
    have e5 := hF.cell 5 rfl
    have e6 := hF.cell 6 rfl
    have e7 := hF.cell 7 rfl
    have e8 := hF.cell 8 rfl
    have e9 := hF.cell 9 rfl
    have e10 := hF.cell 10 rfl
    refine bodyPost_ret (v := .tuple #[.agg #[.int .i64 0, .string ⟨#[]⟩, .string ⟨#[]⟩, .string ⟨#[]⟩, .string ⟨#[]⟩, .int .i64 0, .int .i64 0, .slice none 0 0, .int .i64 0, .int .i64 0, .int .i64 0], .int .i64 1]) (by simp [results, Tryz.results14, go_sem, e0, e1, e2, e3, e4, e5, e6, e7, e8, e9, e10]) rfl ⟨none, 0, ?_, ?_, hB⟩
    · rw [HQ.out, HE.out, if_neg (by decide)]; rfl
    · rw [HQ.out, HE.out, if_neg (by decide)]; exact OpsAt.nil_ _ _
  · rw [a] at qx1
    have HE := Lib.hid hE
    have cE := rerr_calls _ _ _ _ _ _ _ D.xs.rd
    have cL := rleft_calls _ _ _ _ _ _ _ D.xs.rd hl IL.out
    rw [b] at cE
    try simp only at cE cL qx1
    have CE := Lib.hid cE
    have CL := Lib.hid cL
    clear a b hE cE cL
    go_wp2_with fail
    refine CE.out.mono ?_
    rintro e w5 ⟨rfl, rfl⟩
    go_wp2_with fail
    refine CL.out.mono ?_
    rintro e w5 ⟨rfl, nn, rfl⟩
    have D := D.drewN nn
    have z0 := D.bbox.cell 0 rfl
    have z1 := D.bbox.cell 1 rfl
    have z2 := D.bbox.cell 2 rfl
    have z3 := D.bbox.cell 3 rfl
    have z4 := D.bbox.cell 4 rfl
    have z5 := D.bbox.cell 5 rfl
    have z6 := D.bbox.cell 6 rfl
    have z7 := D.bbox.cell 7 rfl
    have z8 := D.bbox.cell 8 rfl
    have z9 := D.bbox.cell 9 rfl
    have z10 := D.bbox.cell 10 rfl
    have y0 := D.bbox.free 0 (v := .int .i64 0) rfl
    have y1 := D.bbox.free 1 (v := .string ⟨#[]⟩) rfl
    have y2 := D.bbox.free 2 (v := .string ⟨#[]⟩) rfl
    have y3 := D.bbox.free 3 (v := .string ⟨#[]⟩) rfl
    have y4 := D.bbox.free 4 (v := .string ⟨#[]⟩) rfl
    have y5 := D.bbox.free 5 (v := .int .i64 0) rfl
    have y6 := D.bbox.free 6 (v := .int .i64 0) rfl
    have y7 := D.bbox.free 7 (v := .slice none 0 0) rfl
    have y8 := D.bbox.free 8 (v := .int .i64 0) rfl
    have y9 := D.bbox.free 9 (v := .int .i64 0) rfl
    have y10 := D.bbox.free 10 (v := .int .i64 0) rfl
    go_wp2
    obtain ⟨hF, hB⟩ := box_fill D.bbox D.below D.lb (.int .i64 0) (.string ⟨#[]⟩) (.string ⟨#[]⟩) (.string ⟨#[]⟩) (.string ⟨#[]⟩) (.int .i64 0) (.int .i64 0) (.slice none 0 0) (.int .i64 0) (.int .i64 0) (.int .i64 0)
    have e0 := hF.cell 0 rfl
    have e1 := hF.cell 1 rfl
    have e2 := hF.cell 2 rfl
    have e3 := hF.cell 3 rfl
    have e4 := hF.cell 4 rfl
    have e5 := hF.cell 5 rfl
    have e6 := hF.cell 6 rfl
    have e7 := hF.cell 7 rfl
    have e8 := hF.cell 8 rfl
    have e9 := hF.cell 9 rfl
    have e10 := hF.cell 10 rfl
    refine bodyPost_ret (v := .tuple #[.agg #[.int .i64 0, .string ⟨#[]⟩, .string ⟨#[]⟩, .string ⟨#[]⟩, .string ⟨#[]⟩, .int .i64 0, .int .i64 0, .slice none 0 0, .int .i64 0, .int .i64 0, .int .i64 0], .int .i64 1]) (by simp [results, Tryz.results14, go_sem, e0, e1, e2, e3, e4, e5, e6, e7, e8, e9, e10]) rfl ⟨none, 0, ?_, ?_, hB⟩
    · rw [HQ.out, HE.out, if_neg (by decide)]; rfl
    · rw [HQ.out, HE.out, if_neg (by decide)]; exact OpsAt.nil_ _ _
  · rw [a] at qx1
    have cE := rerr_calls _ _ _ _ _ _ _ D.xs.rd
    have cL := rleft_calls _ _ _ _ _ _ _ D.xs.rd hl IL.out
    rw [b] at cE
    try simp only at cE cL qx1
    have CE := Lib.hid cE
    have CL := Lib.hid cL
    have hfit : Fits ⟨k, ⟨t0.toArray⟩, ⟨([] : List UInt8).toArray⟩, ⟨([] : List UInt8).toArray⟩, ⟨([] : List UInt8).toArray⟩, 0, 0, [], 0, 0, 0⟩ := by
      refine ⟨?_, ?_, ?_, ?_, ?_, ?_⟩
      · rw [size_ofL]; have := N0.out; omega
      · rw [size_ofL]; simp
      · rw [size_ofL]; simp
      · rw [size_ofL]; simp
      · simp
      · intro k hk; simp at hk
    have cC := fun W (hW : OpsAt W none []) (hg : GL W) => check_q_calls ⟨k, ⟨t0.toArray⟩, ⟨([] : List UInt8).toArray⟩, ⟨([] : List UInt8).toArray⟩, ⟨([] : List UInt8).toArray⟩, 0, 0, [], 0, 0, 0⟩ none 0 W hW hfit hg
    rw [← hE] at cC
    simp only [Rq.val, List.length_nil] at cC
    have CC := Lib.hid cC
    have HE := Lib.hid hE
    clear a b hE cE cL cC hfit
    go_wp2_with fail
    refine CE.out.mono ?_
    rintro e w5 ⟨rfl, rfl⟩
    go_wp2_with fail
    refine CL.out.mono ?_
    rintro e w5 ⟨rfl, nn, rfl⟩
    have D := D.drewN nn
    have q0 := D.qbox.cell 0 rfl
    have q1 := D.qbox.cell 1 rfl
    have q2 := D.qbox.cell 2 rfl
    have q3 := D.qbox.cell 3 rfl
    have q4 := D.qbox.cell 4 rfl
    have q5 := D.qbox.cell 5 rfl
    have q6 := D.qbox.cell 6 rfl
    have q7 := D.qbox.cell 7 rfl
    have q8 := D.qbox.cell 8 rfl
    have q9 := D.qbox.cell 9 rfl
    have q10 := D.qbox.cell 10 rfl
    go_wp2_with fail
    refine (CC.out _ (OpsAt.nil_ _ _) (HG.out.below D.below)).mono ?_
    rintro e w6 ⟨rfl, hb6⟩
    have D := D.step hb6
    clear q0 q1 q2 q3 q4 q5 q6 q7 q8 q9 q10
    have q0 := D.qbox.cell 0 rfl
    have q1 := D.qbox.cell 1 rfl
    have q2 := D.qbox.cell 2 rfl
    have q3 := D.qbox.cell 3 rfl
    have q4 := D.qbox.cell 4 rfl
    have q5 := D.qbox.cell 5 rfl
    have q6 := D.qbox.cell 6 rfl
    have q7 := D.qbox.cell 7 rfl
    have q8 := D.qbox.cell 8 rfl
    have q9 := D.qbox.cell 9 rfl
    have q10 := D.qbox.cell 10 rfl
    have z0 := D.bbox.cell 0 rfl
    have z1 := D.bbox.cell 1 rfl
    have z2 := D.bbox.cell 2 rfl
    have z3 := D.bbox.cell 3 rfl
    have z4 := D.bbox.cell 4 rfl
    have z5 := D.bbox.cell 5 rfl
    have z6 := D.bbox.cell 6 rfl
    have z7 := D.bbox.cell 7 rfl
    have z8 := D.bbox.cell 8 rfl
    have z9 := D.bbox.cell 9 rfl
    have z10 := D.bbox.cell 10 rfl
    have y0 := D.bbox.free 0 (v := .int .i64 0) rfl
    have y1 := D.bbox.free 1 (v := .string ⟨#[]⟩) rfl
    have y2 := D.bbox.free 2 (v := .string ⟨#[]⟩) rfl
    have y3 := D.bbox.free 3 (v := .string ⟨#[]⟩) rfl
    have y4 := D.bbox.free 4 (v := .string ⟨#[]⟩) rfl
    have y5 := D.bbox.free 5 (v := .int .i64 0) rfl
    have y6 := D.bbox.free 6 (v := .int .i64 0) rfl
    have y7 := D.bbox.free 7 (v := .slice none 0 0) rfl
    have y8 := D.bbox.free 8 (v := .int .i64 0) rfl
    have y9 := D.bbox.free 9 (v := .int .i64 0) rfl
    have y10 := D.bbox.free 10 (v := .int .i64 0) rfl
    by_cases h0 : E = 0
    · have HQ2 := Lib.hid (HQ.out.trans (if_pos h0))
      have e0 : (E != 0) = false := by rw [h0]; rfl
      have H0 := Lib.hid h0
      clear h0 HE HQ
      go_wp2
      clear e0
      obtain ⟨hF, hB⟩ := box_fill D.bbox D.below D.lb (.int .i64 k) (.string ⟨t0.toArray⟩) (.string ⟨#[]⟩) (.string ⟨#[]⟩) (.string ⟨#[]⟩) (.int .i64 0) (.int .i64 0) (.slice none 0 0) (.int .i64 0) (.int .i64 0) (.int .i64 0)
      have e0 := hF.cell 0 rfl
      have e1 := hF.cell 1 rfl
      have e2 := hF.cell 2 rfl
      have e3 := hF.cell 3 rfl
      have e4 := hF.cell 4 rfl
      have e5 := hF.cell 5 rfl
      have e6 := hF.cell 6 rfl
      have e7 := hF.cell 7 rfl
      have e8 := hF.cell 8 rfl
      have e9 := hF.cell 9 rfl
      have e10 := hF.cell 10 rfl
      refine bodyPost_ret (v := .tuple #[.agg #[.int .i64 k, .string ⟨t0.toArray⟩, .string ⟨#[]⟩, .string ⟨#[]⟩, .string ⟨#[]⟩, .int .i64 0, .int .i64 0, .slice none 0 0, .int .i64 0, .int .i64 0, .int .i64 0], .int .i64 0]) (by simp [results, Tryz.results14, go_sem, e0, e1, e2, e3, e4, e5, e6, e7, e8, e9, e10]) rfl ⟨none, 0, ?_, ?_, hB⟩
      · rw [HQ2.out, H0.out]; rfl
      · rw [HQ2.out]; exact OpsAt.nil_ _ _
    · have HQ2 := Lib.hid (HQ.out.trans (if_neg h0))
      have e0 : (E != 0) = true := bne_iff_ne.2 h0
      clear h0 HE HQ
      go_wp2
      clear e0
      obtain ⟨hF, hB⟩ := box_fill D.bbox D.below D.lb (.int .i64 0) (.string ⟨#[]⟩) (.string ⟨#[]⟩) (.string ⟨#[]⟩) (.string ⟨#[]⟩) (.int .i64 0) (.int .i64 0) (.slice none 0 0) (.int .i64 0) (.int .i64 0) (.int .i64 0)
      have e0 := hF.cell 0 rfl
      have e1 := hF.cell 1 rfl
      have e2 := hF.cell 2 rfl
      have e3 := hF.cell 3 rfl
      have e4 := hF.cell 4 rfl
      have e5 := hF.cell 5 rfl
      have e6 := hF.cell 6 rfl
      have e7 := hF.cell 7 rfl
      have e8 := hF.cell 8 rfl
      have e9 := hF.cell 9 rfl
      have e10 := hF.cell 10 rfl
      refine bodyPost_ret (v := .tuple #[.agg #[.int .i64 0, .string ⟨#[]⟩, .string ⟨#[]⟩, .string ⟨#[]⟩, .string ⟨#[]⟩, .int .i64 0, .int .i64 0, .slice none 0 0, .int .i64 0, .int .i64 0, .int .i64 0], .int .i64 E]) (by simp [results, Tryz.results14, go_sem, e0, e1, e2, e3, e4, e5, e6, e7, e8, e9, e10]) rfl ⟨none, 0, ?_, ?_, hB⟩
      · rw [HQ2.out]; rfl
      · rw [HQ2.out]; exact OpsAt.nil_ _ _

set_option maxHeartbeats 16000000 in
set_option maxRecDepth 100000 in
theorem decode_1 (k : Int) (v : Value) (l : List UInt8) (w : World) (hR : Src w v l) (hl : l.length ≤ 1099511627776) (hG : GL w) (hk : isK k = true) (hh : hasL k = [false, true, false, false, false, false, false, false, false]) :
    Calls Tryz.prog 14 #[.int .i64 k, v] w (DecPost k l w) := by
  have cI := fun W => is_calls k W
  have cF := fun W => fields_calls k W
  have cR := fun W (hW : Src W v l) => read_calls v l W hW hl
  rw [hk] at cI
  simp only [hh, List.map] at cF
  have hE : decE k l = if (decF [false, true, false, false, false, false, false, false, false] k l ⟨0, 0, false⟩).2.bad = true ∨ (decF [false, true, false, false, false, false, false, false, false] k l ⟨0, 0, false⟩).2.e ≠ 0 ∨ (decF [false, true, false, false, false, false, false, false, false] k l ⟨0, 0, false⟩).2.p < l.length then 1 else checkE (decF [false, true, false, false, false, false, false, false, false] k l ⟨0, 0, false⟩).1 := by unfold decE; rw [if_neg (by simp [hk]), hh]
  have hQ : decR k l = if decE k l = 0 then (decF [false, true, false, false, false, false, false, false, false] k l ⟨0, 0, false⟩).1 else zeroQ := by unfold decR; rw [hh]
  unfold DecPost
  generalize decE k l = E at hE hQ ⊢
  generalize decR k l = Q at hQ ⊢
  have i0 : In ⟨0, 0, false⟩ := Nat.zero_le _
  obtain ⟨s0, hs0⟩ : ∃ s : St, s = ⟨0, 0, false⟩ := ⟨_, rfl⟩
  have hD : decF [false, true, false, false, false, false, false, false, false] k l s0 = (⟨k, ⟨([] : List UInt8).toArray⟩, ⟨(textQ l s0).1.toArray⟩, ⟨([] : List UInt8).toArray⟩, ⟨([] : List UInt8).toArray⟩, ((0 : Nat) : Int), ((0 : Nat) : Int), [], ((0 : Nat) : Int), ((0 : Nat) : Int), ((0 : Nat) : Int)⟩, (textQ l s0).2) := rfl
  rw [← hs0] at hE hQ i0
  rw [hD] at hE hQ
  clear hD hk hh
  have c0 := fun W x r g c (h : XS W x r g c l s0) => xtextQ h i0 hl
  have i1 := textQ_in i0 hl
  have n0 := textQ_len l s0
  generalize textQ l s0 = T at c0 i1 n0 hE hQ
  obtain ⟨t0, s1⟩ := T
  simp only at c0 i1 n0 hE hQ
  rw [hs0] at c0
  have hway : (s1.bad = true ∧ E = 1) ∨ (s1.bad = false ∧ s1.e ≠ 0 ∧ E = 1) ∨ (s1.bad = false ∧ s1.e = 0 ∧ s1.p < l.length ∧ E = 1) ∨ (s1.bad = false ∧ s1.e = 0 ∧ l.length ≤ s1.p ∧ E = checkE ⟨k, ⟨([] : List UInt8).toArray⟩, ⟨t0.toArray⟩, ⟨([] : List UInt8).toArray⟩, ⟨([] : List UInt8).toArray⟩, 0, 0, [], 0, 0, 0⟩) := by
    by_cases a : s1.bad = true
    · exact .inl ⟨a, by rw [hE, if_pos (.inl a)]⟩
    · have a1 : s1.bad = false := by simpa using a
      by_cases b : s1.e = 0
      · by_cases d : s1.p < l.length
        · exact .inr (.inr (.inl ⟨a1, b, d, by rw [hE, if_pos (.inr (.inr d))]⟩))
        · exact .inr (.inr (.inr ⟨a1, b, by omega, hE.trans (if_neg (fun h => h.elim a fun h => h.elim (fun h => h b) d))⟩))
      · exact .inr (.inl ⟨a1, b, by rw [hE, if_pos (.inr (.inl b))]⟩)
  clear hE
  have HW := Lib.hid hway
  have HQ := Lib.hid hQ
  have HR := Lib.hid hR
  have HG := Lib.hid hG
  have CI := Lib.hid cI
  have CF := Lib.hid cF
  have CR := Lib.hid cR
  have HS := Lib.hid hs0
  have C0 := Lib.hid c0
  have N0 := Lib.hid n0
  have IL := Lib.hid i1
  clear hway hQ hR hG cI cF cR hs0 c0 n0 i0 i1
  have hb0 := (Below.refl w.heap.size w).alloc (Nat.le_refl _) (.cells #[.int .i64 0, .string ⟨#[]⟩, .string ⟨#[]⟩, .string ⟨#[]⟩, .string ⟨#[]⟩, .int .i64 0, .int .i64 0, .slice none 0 0, .int .i64 0, .int .i64 0, .int .i64 0] 26)
  have bb0 := Box.new w #[.int .i64 0, .string ⟨#[]⟩, .string ⟨#[]⟩, .string ⟨#[]⟩, .string ⟨#[]⟩, .int .i64 0, .int .i64 0, .slice none 0 0, .int .i64 0, .int .i64 0, .int .i64 0] 26
  have hR0 := HR.out.alloc (.cells #[.int .i64 0, .string ⟨#[]⟩, .string ⟨#[]⟩, .string ⟨#[]⟩, .string ⟨#[]⟩, .int .i64 0, .int .i64 0, .slice none 0 0, .int .i64 0, .int .i64 0, .int .i64 0] 26)
  go_enter Tryz.func14, Tryz.ntmps14
  go_wp2_with fail
  refine (CI.out _).mono ?_
  rintro e w1 ⟨rfl, rfl⟩
  go_wp2_with fail
  refine (CF.out _).mono ?_
  rintro e w1 ⟨rfl, hb1⟩
  have bb1 := (bb0.step hb1).alloc (.cells #[.bool false, .bool true, .bool false, .bool false, .bool false, .bool false, .bool false, .bool false, .bool false] 77)
  have hh1 := Box.new w1 #[.bool false, .bool true, .bool false, .bool false, .bool false, .bool false, .bool false, .bool false, .bool false] 77
  have hbw1 := (below_step hb0 hb0.size hb1).alloc (by have := hb0.size; have := hb1.size; omega) (.cells #[.bool false, .bool true, .bool false, .bool false, .bool false, .bool false, .bool false, .bool false, .bool false] 77)
  have hR1 := (hR0.below hb1).alloc (.cells #[.bool false, .bool true, .bool false, .bool false, .bool false, .bool false, .bool false, .bool false, .bool false] 77)
  have hz1 := hb1.size
  go_wp2_with fail
  refine (CR.out _ hR1).mono ?_
  rintro e w2 ⟨r, g, c, rfl, hrd, hgr, hgg, hb2⟩
  have D := DX.start (w0 := w) (k := k) hrd (bb1.step hb2) (hh1.step hb2) (below_step hbw1 hbw1.size hb2) (Nat.le_refl _) (by simp at hz1; omega) (by simp at hgr; omega) (by simp at hgg; omega)
  obtain ⟨x, hx⟩ : ∃ x, x = w2.heap.size := ⟨_, rfl⟩
  obtain ⟨q, hq⟩ : ∃ q, q = x + 1 := ⟨_, rfl⟩
  clear hb0 bb0 hR0 bb1 hh1 hbw1 hR1 hb1 hrd hb2
  obtain ⟨u0, u1, u2, u3, u4, u5, u6, u7, u8⟩ := Box.tuple9 D.hbox
  have qx0 := D.xs.box.cell 0 rfl
  go_wp2_with fail
  refine (C0.out _ _ _ _ _ D.xs).mono ?_
  rintro e v0 ⟨rfl, hx0, hk0⟩
  have D := D.call hx0 hk0
  clear u0 u1 u2 u3 u4 u5 u6 u7 u8 qx0 hx0 hk0
  obtain ⟨u0, u1, u2, u3, u4, u5, u6, u7, u8⟩ := Box.tuple9 D.hbox
  have qx0 := D.xs.box.cell 0 rfl
  have a0_0 := D.qbox.cell 2 rfl
  have b0_0 := D.qbox.free 2 (v := .string ⟨#[]⟩) rfl
  have D := D.set 2 (by simp) (.string ⟨t0.toArray⟩)
  clear u0 u1 u2 u3 u4 u5 u6 u7 u8 qx0
  obtain ⟨u0, u1, u2, u3, u4, u5, u6, u7, u8⟩ := Box.tuple9 D.hbox
  have qx0 := D.xs.box.cell 0 rfl
  have qx1 := D.xs.box.cell 1 rfl
  rcases HW.out with ⟨a, hE⟩ | ⟨a, b, hE⟩ | ⟨a, b, d, hE⟩ | ⟨a, b, d, hE⟩
  · rw [a] at qx1
    have HE := Lib.hid hE
    have z0 := D.bbox.cell 0 rfl
    have z1 := D.bbox.cell 1 rfl
    have z2 := D.bbox.cell 2 rfl
    have z3 := D.bbox.cell 3 rfl
    have z4 := D.bbox.cell 4 rfl
    have z5 := D.bbox.cell 5 rfl
    have z6 := D.bbox.cell 6 rfl
    have z7 := D.bbox.cell 7 rfl
    have z8 := D.bbox.cell 8 rfl
    have z9 := D.bbox.cell 9 rfl
    have z10 := D.bbox.cell 10 rfl
    have y0 := D.bbox.free 0 (v := .int .i64 0) rfl
    have y1 := D.bbox.free 1 (v := .string ⟨#[]⟩) rfl
    have y2 := D.bbox.free 2 (v := .string ⟨#[]⟩) rfl
    have y3 := D.bbox.free 3 (v := .string ⟨#[]⟩) rfl
    have y4 := D.bbox.free 4 (v := .string ⟨#[]⟩) rfl
    have y5 := D.bbox.free 5 (v := .int .i64 0) rfl
    have y6 := D.bbox.free 6 (v := .int .i64 0) rfl
    have y7 := D.bbox.free 7 (v := .slice none 0 0) rfl
    have y8 := D.bbox.free 8 (v := .int .i64 0) rfl
    have y9 := D.bbox.free 9 (v := .int .i64 0) rfl
    have y10 := D.bbox.free 10 (v := .int .i64 0) rfl
    clear a hE
    go_wp2
    obtain ⟨hF, hB⟩ := box_fill D.bbox D.below D.lb (.int .i64 0) (.string ⟨#[]⟩) (.string ⟨#[]⟩) (.string ⟨#[]⟩) (.string ⟨#[]⟩) (.int .i64 0) (.int .i64 0) (.slice none 0 0) (.int .i64 0) (.int .i64 0) (.int .i64 0)
    have e0 := hF.cell 0 rfl
    have e1 := hF.cell 1 rfl
    have e2 := hF.cell 2 rfl
    have e3 := hF.cell 3 rfl
    have e4 := hF.cell 4 rfl
    have e5 := hF.cell 5 rfl
    have e6 := hF.cell 6 rfl
    have e7 := hF.cell 7 rfl
    have e8 := hF.cell 8 rfl
    have e9 := hF.cell 9 rfl
    have e10 := hF.cell 10 rfl
    refine bodyPost_ret (v := .tuple #[.agg #[.int .i64 0, .string ⟨#[]⟩, .string ⟨#[]⟩, .string ⟨#[]⟩, .string ⟨#[]⟩, .int .i64 0, .int .i64 0, .slice none 0 0, .int .i64 0, .int .i64 0, .int .i64 0], .int .i64 1]) (by simp [results, Tryz.results14, go_sem, e0, e1, e2, e3, e4, e5, e6, e7, e8, e9, e10]) rfl ⟨none, 0, ?_, ?_, hB⟩
    · rw [HQ.out, HE.out, if_neg (by decide)]; rfl
    · rw [HQ.out, HE.out, if_neg (by decide)]; exact OpsAt.nil_ _ _
  · rw [a] at qx1
    have HE := Lib.hid hE
    have cE := rerr_calls _ _ _ _ _ _ _ D.xs.rd
    have e1 : (s1.e != 0) = true := bne_iff_ne.2 b
    have CE := Lib.hid cE
    clear a b hE cE
    go_wp2_with fail
    refine CE.out.mono ?_
    rintro e w5 ⟨rfl, rfl⟩
    have z0 := D.bbox.cell 0 rfl
    have z1 := D.bbox.cell 1 rfl
    have z2 := D.bbox.cell 2 rfl
    have z3 := D.bbox.cell 3 rfl
    have z4 := D.bbox.cell 4 rfl
    have z5 := D.bbox.cell 5 rfl
    have z6 := D.bbox.cell 6 rfl
    have z7 := D.bbox.cell 7 rfl
    have z8 := D.bbox.cell 8 rfl
    have z9 := D.bbox.cell 9 rfl
    have z10 := D.bbox.cell 10 rfl
    have y0 := D.bbox.free 0 (v := .int .i64 0) rfl
    have y1 := D.bbox.free 1 (v := .string ⟨#[]⟩) rfl
    have y2 := D.bbox.free 2 (v := .string ⟨#[]⟩) rfl
    have y3 := D.bbox.free 3 (v := .string ⟨#[]⟩) rfl
    have y4 := D.bbox.free 4 (v := .string ⟨#[]⟩) rfl
    have y5 := D.bbox.free 5 (v := .int .i64 0) rfl
    have y6 := D.bbox.free 6 (v := .int .i64 0) rfl
    have y7 := D.bbox.free 7 (v := .slice none 0 0) rfl
    have y8 := D.bbox.free 8 (v := .int .i64 0) rfl
    have y9 := D.bbox.free 9 (v := .int .i64 0) rfl
    have y10 := D.bbox.free 10 (v := .int .i64 0) rfl
    go_wp2
    obtain ⟨hF, hB⟩ := box_fill D.bbox D.below D.lb (.int .i64 0) (.string ⟨#[]⟩) (.string ⟨#[]⟩) (.string ⟨#[]⟩) (.string ⟨#[]⟩) (.int .i64 0) (.int .i64 0) (.slice none 0 0) (.int .i64 0) (.int .i64 0) (.int .i64 0)
    have e0 := hF.cell 0 rfl
    have e1 := hF.cell 1 rfl
    have e2 := hF.cell 2 rfl
    have e3 := hF.cell 3 rfl
    have e4 := hF.cell 4 rfl
    have e5 := hF.cell 5 rfl
    have e6 := hF.cell 6 rfl
    have e7 := hF.cell 7 rfl
    have e8 := hF.cell 8 rfl
    have e9 := hF.cell 9 rfl
    have e10 := hF.cell 10 rfl
    refine bodyPost_ret (v := .tuple #[.agg #[.int .i64 0, .string ⟨#[]⟩, .string ⟨#[]⟩, .string ⟨#[]⟩, .string ⟨#[]⟩, .int .i64 0, .int .i64 0, .slice none 0 0, .int .i64 0, .int .i64 0, .int .i64 0], .int .i64 1]) (by simp [results, Tryz.results14, go_sem, e0, e1, e2, e3, e4, e5, e6, e7, e8, e9, e10]) rfl ⟨none, 0, ?_, ?_, hB⟩
    · rw [HQ.out, HE.out, if_neg (by decide)]; rfl
    · rw [HQ.out, HE.out, if_neg (by decide)]; exact OpsAt.nil_ _ _
  · rw [a] at qx1
    have HE := Lib.hid hE
    have cE := rerr_calls _ _ _ _ _ _ _ D.xs.rd
    have cL := rleft_calls _ _ _ _ _ _ _ D.xs.rd hl IL.out
    rw [b] at cE
    try simp only at cE cL qx1
    have CE := Lib.hid cE
    have CL := Lib.hid cL
    clear a b hE cE cL
    go_wp2_with fail
    refine CE.out.mono ?_
    rintro e w5 ⟨rfl, rfl⟩
    go_wp2_with fail
    refine CL.out.mono ?_
    rintro e w5 ⟨rfl, nn, rfl⟩
    have D := D.drewN nn
    have z0 := D.bbox.cell 0 rfl
    have z1 := D.bbox.cell 1 rfl
    have z2 := D.bbox.cell 2 rfl
    have z3 := D.bbox.cell 3 rfl
    have z4 := D.bbox.cell 4 rfl
    have z5 := D.bbox.cell 5 rfl
    have z6 := D.bbox.cell 6 rfl
    have z7 := D.bbox.cell 7 rfl
    have z8 := D.bbox.cell 8 rfl
    have z9 := D.bbox.cell 9 rfl
    have z10 := D.bbox.cell 10 rfl
    have y0 := D.bbox.free 0 (v := .int .i64 0) rfl
    have y1 := D.bbox.free 1 (v := .string ⟨#[]⟩) rfl
    have y2 := D.bbox.free 2 (v := .string ⟨#[]⟩) rfl
    have y3 := D.bbox.free 3 (v := .string ⟨#[]⟩) rfl
    have y4 := D.bbox.free 4 (v := .string ⟨#[]⟩) rfl
    have y5 := D.bbox.free 5 (v := .int .i64 0) rfl
    have y6 := D.bbox.free 6 (v := .int .i64 0) rfl
    have y7 := D.bbox.free 7 (v := .slice none 0 0) rfl
    have y8 := D.bbox.free 8 (v := .int .i64 0) rfl
    have y9 := D.bbox.free 9 (v := .int .i64 0) rfl
    have y10 := D.bbox.free 10 (v := .int .i64 0) rfl
    go_wp2
    obtain ⟨hF, hB⟩ := box_fill D.bbox D.below D.lb (.int .i64 0) (.string ⟨#[]⟩) (.string ⟨#[]⟩) (.string ⟨#[]⟩) (.string ⟨#[]⟩) (.int .i64 0) (.int .i64 0) (.slice none 0 0) (.int .i64 0) (.int .i64 0) (.int .i64 0)
    have e0 := hF.cell 0 rfl
    have e1 := hF.cell 1 rfl
    have e2 := hF.cell 2 rfl
    have e3 := hF.cell 3 rfl
    have e4 := hF.cell 4 rfl
    have e5 := hF.cell 5 rfl
    have e6 := hF.cell 6 rfl
    have e7 := hF.cell 7 rfl
    have e8 := hF.cell 8 rfl
    have e9 := hF.cell 9 rfl
    have e10 := hF.cell 10 rfl
    refine bodyPost_ret (v := .tuple #[.agg #[.int .i64 0, .string ⟨#[]⟩, .string ⟨#[]⟩, .string ⟨#[]⟩, .string ⟨#[]⟩, .int .i64 0, .int .i64 0, .slice none 0 0, .int .i64 0, .int .i64 0, .int .i64 0], .int .i64 1]) (by simp [results, Tryz.results14, go_sem, e0, e1, e2, e3, e4, e5, e6, e7, e8, e9, e10]) rfl ⟨none, 0, ?_, ?_, hB⟩
    · rw [HQ.out, HE.out, if_neg (by decide)]; rfl
    · rw [HQ.out, HE.out, if_neg (by decide)]; exact OpsAt.nil_ _ _
  · rw [a] at qx1
    have cE := rerr_calls _ _ _ _ _ _ _ D.xs.rd
    have cL := rleft_calls _ _ _ _ _ _ _ D.xs.rd hl IL.out
    rw [b] at cE
    try simp only at cE cL qx1
    have CE := Lib.hid cE
    have CL := Lib.hid cL
    have hfit : Fits ⟨k, ⟨([] : List UInt8).toArray⟩, ⟨t0.toArray⟩, ⟨([] : List UInt8).toArray⟩, ⟨([] : List UInt8).toArray⟩, 0, 0, [], 0, 0, 0⟩ := by
      refine ⟨?_, ?_, ?_, ?_, ?_, ?_⟩
      · rw [size_ofL]; simp
      · rw [size_ofL]; have := N0.out; omega
      · rw [size_ofL]; simp
      · rw [size_ofL]; simp
      · simp
      · intro k hk; simp at hk
    have cC := fun W (hW : OpsAt W none []) (hg : GL W) => check_q_calls ⟨k, ⟨([] : List UInt8).toArray⟩, ⟨t0.toArray⟩, ⟨([] : List UInt8).toArray⟩, ⟨([] : List UInt8).toArray⟩, 0, 0, [], 0, 0, 0⟩ none 0 W hW hfit hg
    rw [← hE] at cC
    simp only [Rq.val, List.length_nil] at cC
    have CC := Lib.hid cC
    have HE := Lib.hid hE
    clear a b hE cE cL cC hfit
    go_wp2_with fail
    refine CE.out.mono ?_
    rintro e w5 ⟨rfl, rfl⟩
    go_wp2_with fail
    refine CL.out.mono ?_
    rintro e w5 ⟨rfl, nn, rfl⟩
    have D := D.drewN nn
    have q0 := D.qbox.cell 0 rfl
    have q1 := D.qbox.cell 1 rfl
    have q2 := D.qbox.cell 2 rfl
    have q3 := D.qbox.cell 3 rfl
    have q4 := D.qbox.cell 4 rfl
    have q5 := D.qbox.cell 5 rfl
    have q6 := D.qbox.cell 6 rfl
    have q7 := D.qbox.cell 7 rfl
    have q8 := D.qbox.cell 8 rfl
    have q9 := D.qbox.cell 9 rfl
    have q10 := D.qbox.cell 10 rfl
    go_wp2_with fail
    refine (CC.out _ (OpsAt.nil_ _ _) (HG.out.below D.below)).mono ?_
    rintro e w6 ⟨rfl, hb6⟩
    have D := D.step hb6
    clear q0 q1 q2 q3 q4 q5 q6 q7 q8 q9 q10
    have q0 := D.qbox.cell 0 rfl
    have q1 := D.qbox.cell 1 rfl
    have q2 := D.qbox.cell 2 rfl
    have q3 := D.qbox.cell 3 rfl
    have q4 := D.qbox.cell 4 rfl
    have q5 := D.qbox.cell 5 rfl
    have q6 := D.qbox.cell 6 rfl
    have q7 := D.qbox.cell 7 rfl
    have q8 := D.qbox.cell 8 rfl
    have q9 := D.qbox.cell 9 rfl
    have q10 := D.qbox.cell 10 rfl
    have z0 := D.bbox.cell 0 rfl
    have z1 := D.bbox.cell 1 rfl
    have z2 := D.bbox.cell 2 rfl
    have z3 := D.bbox.cell 3 rfl
    have z4 := D.bbox.cell 4 rfl
    have z5 := D.bbox.cell 5 rfl
    have z6 := D.bbox.cell 6 rfl
    have z7 := D.bbox.cell 7 rfl
    have z8 := D.bbox.cell 8 rfl
    have z9 := D.bbox.cell 9 rfl
    have z10 := D.bbox.cell 10 rfl
    have y0 := D.bbox.free 0 (v := .int .i64 0) rfl
    have y1 := D.bbox.free 1 (v := .string ⟨#[]⟩) rfl
    have y2 := D.bbox.free 2 (v := .string ⟨#[]⟩) rfl
    have y3 := D.bbox.free 3 (v := .string ⟨#[]⟩) rfl
    have y4 := D.bbox.free 4 (v := .string ⟨#[]⟩) rfl
    have y5 := D.bbox.free 5 (v := .int .i64 0) rfl
    have y6 := D.bbox.free 6 (v := .int .i64 0) rfl
    have y7 := D.bbox.free 7 (v := .slice none 0 0) rfl
    have y8 := D.bbox.free 8 (v := .int .i64 0) rfl
    have y9 := D.bbox.free 9 (v := .int .i64 0) rfl
    have y10 := D.bbox.free 10 (v := .int .i64 0) rfl
    by_cases h0 : E = 0
    · have HQ2 := Lib.hid (HQ.out.trans (if_pos h0))
      have e0 : (E != 0) = false := by rw [h0]; rfl
      have H0 := Lib.hid h0
      clear h0 HE HQ
      go_wp2
      clear e0
      obtain ⟨hF, hB⟩ := box_fill D.bbox D.below D.lb (.int .i64 k) (.string ⟨#[]⟩) (.string ⟨t0.toArray⟩) (.string ⟨#[]⟩) (.string ⟨#[]⟩) (.int .i64 0) (.int .i64 0) (.slice none 0 0) (.int .i64 0) (.int .i64 0) (.int .i64 0)
      have e0 := hF.cell 0 rfl
      have e1 := hF.cell 1 rfl
      have e2 := hF.cell 2 rfl
      have e3 := hF.cell 3 rfl
      have e4 := hF.cell 4 rfl
      have e5 := hF.cell 5 rfl
      have e6 := hF.cell 6 rfl
      have e7 := hF.cell 7 rfl
      have e8 := hF.cell 8 rfl
      have e9 := hF.cell 9 rfl
      have e10 := hF.cell 10 rfl
      refine bodyPost_ret (v := .tuple #[.agg #[.int .i64 k, .string ⟨#[]⟩, .string ⟨t0.toArray⟩, .string ⟨#[]⟩, .string ⟨#[]⟩, .int .i64 0, .int .i64 0, .slice none 0 0, .int .i64 0, .int .i64 0, .int .i64 0], .int .i64 0]) (by simp [results, Tryz.results14, go_sem, e0, e1, e2, e3, e4, e5, e6, e7, e8, e9, e10]) rfl ⟨none, 0, ?_, ?_, hB⟩
      · rw [HQ2.out, H0.out]; rfl
      · rw [HQ2.out]; exact OpsAt.nil_ _ _
    · have HQ2 := Lib.hid (HQ.out.trans (if_neg h0))
      have e0 : (E != 0) = true := bne_iff_ne.2 h0
      clear h0 HE HQ
      go_wp2
      clear e0
      obtain ⟨hF, hB⟩ := box_fill D.bbox D.below D.lb (.int .i64 0) (.string ⟨#[]⟩) (.string ⟨#[]⟩) (.string ⟨#[]⟩) (.string ⟨#[]⟩) (.int .i64 0) (.int .i64 0) (.slice none 0 0) (.int .i64 0) (.int .i64 0) (.int .i64 0)
      have e0 := hF.cell 0 rfl
      have e1 := hF.cell 1 rfl
      have e2 := hF.cell 2 rfl
      have e3 := hF.cell 3 rfl
      have e4 := hF.cell 4 rfl
      have e5 := hF.cell 5 rfl
      have e6 := hF.cell 6 rfl
      have e7 := hF.cell 7 rfl
      have e8 := hF.cell 8 rfl
      have e9 := hF.cell 9 rfl
      have e10 := hF.cell 10 rfl
      refine bodyPost_ret (v := .tuple #[.agg #[.int .i64 0, .string ⟨#[]⟩, .string ⟨#[]⟩, .string ⟨#[]⟩, .string ⟨#[]⟩, .int .i64 0, .int .i64 0, .slice none 0 0, .int .i64 0, .int .i64 0, .int .i64 0], .int .i64 E]) (by simp [results, Tryz.results14, go_sem, e0, e1, e2, e3, e4, e5, e6, e7, e8, e9, e10]) rfl ⟨none, 0, ?_, ?_, hB⟩
      · rw [HQ2.out]; rfl
      · rw [HQ2.out]; exact OpsAt.nil_ _ _

set_option maxHeartbeats 16000000 in
set_option maxRecDepth 100000 in
theorem decode_2 (k : Int) (v : Value) (l : List UInt8) (w : World) (hR : Src w v l) (hl : l.length ≤ 1099511627776) (hG : GL w) (hk : isK k = true) (hh : hasL k = [false, true, true, true, true, false, false, false, false]) :
    Calls Tryz.prog 14 #[.int .i64 k, v] w (DecPost k l w) := by
  have cI := fun W => is_calls k W
  have cF := fun W => fields_calls k W
  have cR := fun W (hW : Src W v l) => read_calls v l W hW hl
  rw [hk] at cI
  simp only [hh, List.map] at cF
  have hE : decE k l = if (decF [false, true, true, true, true, false, false, false, false] k l ⟨0, 0, false⟩).2.bad = true ∨ (decF [false, true, true, true, true, false, false, false, false] k l ⟨0, 0, false⟩).2.e ≠ 0 ∨ (decF [false, true, true, true, true, false, false, false, false] k l ⟨0, 0, false⟩).2.p < l.length then 1 else checkE (decF [false, true, true, true, true, false, false, false, false] k l ⟨0, 0, false⟩).1 := by unfold decE; rw [if_neg (by simp [hk]), hh]
  have hQ : decR k l = if decE k l = 0 then (decF [false, true, true, true, true, false, false, false, false] k l ⟨0, 0, false⟩).1 else zeroQ := by unfold decR; rw [hh]
  unfold DecPost
  generalize decE k l = E at hE hQ ⊢
  generalize decR k l = Q at hQ ⊢
  have i0 : In ⟨0, 0, false⟩ := Nat.zero_le _
  obtain ⟨s0, hs0⟩ : ∃ s : St, s = ⟨0, 0, false⟩ := ⟨_, rfl⟩
  have hD : decF [false, true, true, true, true, false, false, false, false] k l s0 = (⟨k, ⟨([] : List UInt8).toArray⟩, ⟨(textQ l s0).1.toArray⟩, ⟨(textQ l (textQ l s0).2).1.toArray⟩, ⟨(textQ l (textQ l (textQ l s0).2).2).1.toArray⟩, ((condQ l (textQ l (textQ l (textQ l s0).2).2).2).1.1 : Int), ((condQ l (textQ l (textQ l (textQ l s0).2).2).2).1.2 : Int), [], ((0 : Nat) : Int), ((0 : Nat) : Int), ((0 : Nat) : Int)⟩, (condQ l (textQ l (textQ l (textQ l s0).2).2).2).2) := rfl
  rw [← hs0] at hE hQ i0
  rw [hD] at hE hQ
  clear hD hk hh
  have c0 := fun W x r g c (h : XS W x r g c l s0) => xtextQ h i0 hl
  have i1 := textQ_in i0 hl
  have n0 := textQ_len l s0
  generalize textQ l s0 = T at c0 i1 n0 hE hQ
  obtain ⟨t0, s1⟩ := T
  simp only at c0 i1 n0 hE hQ
  have c1 := fun W x r g c (h : XS W x r g c l s1) => xtextQ h i1 hl
  have i2 := textQ_in i1 hl
  have n1 := textQ_len l s1
  generalize textQ l s1 = T at c1 i2 n1 hE hQ
  obtain ⟨t1, s2⟩ := T
  simp only at c1 i2 n1 hE hQ
  have c2 := fun W x r g c (h : XS W x r g c l s2) => xtextQ h i2 hl
  have i3 := textQ_in i2 hl
  have n2 := textQ_len l s2
  generalize textQ l s2 = T at c2 i3 n2 hE hQ
  obtain ⟨t2, s3⟩ := T
  simp only at c2 i3 n2 hE hQ
  have c3 := fun W x r g c (h : XS W x r g c l s3) => xcondQ h i3 hl
  have i4 := condQ_in i3 hl
  generalize condQ l s3 = T at c3 i4 hE hQ
  obtain ⟨⟨ya, yb⟩, s4⟩ := T
  simp only at c3 i4 hE hQ
  rw [hs0] at c0
  have hway : (s4.bad = true ∧ E = 1) ∨ (s4.bad = false ∧ s4.e ≠ 0 ∧ E = 1) ∨ (s4.bad = false ∧ s4.e = 0 ∧ s4.p < l.length ∧ E = 1) ∨ (s4.bad = false ∧ s4.e = 0 ∧ l.length ≤ s4.p ∧ E = checkE ⟨k, ⟨([] : List UInt8).toArray⟩, ⟨t0.toArray⟩, ⟨t1.toArray⟩, ⟨t2.toArray⟩, (ya : Int), (yb : Int), [], 0, 0, 0⟩) := by
    by_cases a : s4.bad = true
    · exact .inl ⟨a, by rw [hE, if_pos (.inl a)]⟩
    · have a1 : s4.bad = false := by simpa using a
      by_cases b : s4.e = 0
      · by_cases d : s4.p < l.length
        · exact .inr (.inr (.inl ⟨a1, b, d, by rw [hE, if_pos (.inr (.inr d))]⟩))
        · exact .inr (.inr (.inr ⟨a1, b, by omega, hE.trans (if_neg (fun h => h.elim a fun h => h.elim (fun h => h b) d))⟩))
      · exact .inr (.inl ⟨a1, b, by rw [hE, if_pos (.inr (.inl b))]⟩)
  clear hE
  have HW := Lib.hid hway
  have HQ := Lib.hid hQ
  have HR := Lib.hid hR
  have HG := Lib.hid hG
  have CI := Lib.hid cI
  have CF := Lib.hid cF
  have CR := Lib.hid cR
  have HS := Lib.hid hs0
  have C0 := Lib.hid c0
  have N0 := Lib.hid n0
  have C1 := Lib.hid c1
  have N1 := Lib.hid n1
  have C2 := Lib.hid c2
  have N2 := Lib.hid n2
  have C3 := Lib.hid c3
  have IL := Lib.hid i4
  clear hway hQ hR hG cI cF cR hs0 c0 n0 c1 n1 c2 n2 c3 i0 i1 i2 i3 i4
  have hb0 := (Below.refl w.heap.size w).alloc (Nat.le_refl _) (.cells #[.int .i64 0, .string ⟨#[]⟩, .string ⟨#[]⟩, .string ⟨#[]⟩, .string ⟨#[]⟩, .int .i64 0, .int .i64 0, .slice none 0 0, .int .i64 0, .int .i64 0, .int .i64 0] 26)
  have bb0 := Box.new w #[.int .i64 0, .string ⟨#[]⟩, .string ⟨#[]⟩, .string ⟨#[]⟩, .string ⟨#[]⟩, .int .i64 0, .int .i64 0, .slice none 0 0, .int .i64 0, .int .i64 0, .int .i64 0] 26
  have hR0 := HR.out.alloc (.cells #[.int .i64 0, .string ⟨#[]⟩, .string ⟨#[]⟩, .string ⟨#[]⟩, .string ⟨#[]⟩, .int .i64 0, .int .i64 0, .slice none 0 0, .int .i64 0, .int .i64 0, .int .i64 0] 26)
  go_enter Tryz.func14, Tryz.ntmps14
  go_wp2_with fail
  refine (CI.out _).mono ?_
  rintro e w1 ⟨rfl, rfl⟩
  go_wp2_with fail
  refine (CF.out _).mono ?_
  rintro e w1 ⟨rfl, hb1⟩
  have bb1 := (bb0.step hb1).alloc (.cells #[.bool false, .bool true, .bool true, .bool true, .bool true, .bool false, .bool false, .bool false, .bool false] 77)
  have hh1 := Box.new w1 #[.bool false, .bool true, .bool true, .bool true, .bool true, .bool false, .bool false, .bool false, .bool false] 77
  have hbw1 := (below_step hb0 hb0.size hb1).alloc (by have := hb0.size; have := hb1.size; omega) (.cells #[.bool false, .bool true, .bool true, .bool true, .bool true, .bool false, .bool false, .bool false, .bool false] 77)
  have hR1 := (hR0.below hb1).alloc (.cells #[.bool false, .bool true, .bool true, .bool true, .bool true, .bool false, .bool false, .bool false, .bool false] 77)
  have hz1 := hb1.size
  go_wp2_with fail
  refine (CR.out _ hR1).mono ?_
  rintro e w2 ⟨r, g, c, rfl, hrd, hgr, hgg, hb2⟩
  have D := DX.start (w0 := w) (k := k) hrd (bb1.step hb2) (hh1.step hb2) (below_step hbw1 hbw1.size hb2) (Nat.le_refl _) (by simp at hz1; omega) (by simp at hgr; omega) (by simp at hgg; omega)
  obtain ⟨x, hx⟩ : ∃ x, x = w2.heap.size := ⟨_, rfl⟩
  obtain ⟨q, hq⟩ : ∃ q, q = x + 1 := ⟨_, rfl⟩
  clear hb0 bb0 hR0 bb1 hh1 hbw1 hR1 hb1 hrd hb2
  obtain ⟨u0, u1, u2, u3, u4, u5, u6, u7, u8⟩ := Box.tuple9 D.hbox
  have qx0 := D.xs.box.cell 0 rfl
  go_wp2_with fail
  refine (C0.out _ _ _ _ _ D.xs).mono ?_
  rintro e v0 ⟨rfl, hx0, hk0⟩
  have D := D.call hx0 hk0
  clear u0 u1 u2 u3 u4 u5 u6 u7 u8 qx0 hx0 hk0
  obtain ⟨u0, u1, u2, u3, u4, u5, u6, u7, u8⟩ := Box.tuple9 D.hbox
  have qx0 := D.xs.box.cell 0 rfl
  have a0_0 := D.qbox.cell 2 rfl
  have b0_0 := D.qbox.free 2 (v := .string ⟨#[]⟩) rfl
  have D := D.set 2 (by simp) (.string ⟨t0.toArray⟩)
  clear u0 u1 u2 u3 u4 u5 u6 u7 u8 qx0
  obtain ⟨u0, u1, u2, u3, u4, u5, u6, u7, u8⟩ := Box.tuple9 D.hbox
  have qx0 := D.xs.box.cell 0 rfl
  go_wp2_with fail
  refine (C1.out _ _ _ _ _ D.xs).mono ?_
  rintro e v1 ⟨rfl, hx1, hk1⟩
  have D := D.call hx1 hk1
  clear u0 u1 u2 u3 u4 u5 u6 u7 u8 qx0 hx1 hk1
  obtain ⟨u0, u1, u2, u3, u4, u5, u6, u7, u8⟩ := Box.tuple9 D.hbox
  have qx0 := D.xs.box.cell 0 rfl
  have a1_0 := D.qbox.cell 3 rfl
  have b1_0 := D.qbox.free 3 (v := .string ⟨#[]⟩) rfl
  have D := D.set 3 (by simp) (.string ⟨t1.toArray⟩)
  clear u0 u1 u2 u3 u4 u5 u6 u7 u8 qx0
  obtain ⟨u0, u1, u2, u3, u4, u5, u6, u7, u8⟩ := Box.tuple9 D.hbox
  have qx0 := D.xs.box.cell 0 rfl
  go_wp2_with fail
  refine (C2.out _ _ _ _ _ D.xs).mono ?_
  rintro e v2 ⟨rfl, hx2, hk2⟩
  have D := D.call hx2 hk2
  clear u0 u1 u2 u3 u4 u5 u6 u7 u8 qx0 hx2 hk2
  obtain ⟨u0, u1, u2, u3, u4, u5, u6, u7, u8⟩ := Box.tuple9 D.hbox
  have qx0 := D.xs.box.cell 0 rfl
  have a2_0 := D.qbox.cell 4 rfl
  have b2_0 := D.qbox.free 4 (v := .string ⟨#[]⟩) rfl
  have D := D.set 4 (by simp) (.string ⟨t2.toArray⟩)
  clear u0 u1 u2 u3 u4 u5 u6 u7 u8 qx0
  obtain ⟨u0, u1, u2, u3, u4, u5, u6, u7, u8⟩ := Box.tuple9 D.hbox
  have qx0 := D.xs.box.cell 0 rfl
  go_wp2_with fail
  refine (C3.out _ _ _ _ _ D.xs).mono ?_
  rintro e v3 ⟨rfl, hx3, hk3⟩
  have D := D.call hx3 hk3
  clear u0 u1 u2 u3 u4 u5 u6 u7 u8 qx0 hx3 hk3
  obtain ⟨u0, u1, u2, u3, u4, u5, u6, u7, u8⟩ := Box.tuple9 D.hbox
  have qx0 := D.xs.box.cell 0 rfl
  have a3_0 := D.qbox.cell 5 rfl
  have b3_0 := D.qbox.free 5 (v := .int .i64 0) rfl
  have a3_1 := D.qbox.cell 6 rfl
  have b3_1 := D.qbox.free 6 (v := .int .i64 0) rfl
  have D := D.set 5 (by simp) (.int .i64 ya)
  have a3x_0 := D.qbox.cell 6 rfl
  have b3x_0 := D.qbox.free 6 (v := .int .i64 0) rfl
  have D := D.set 6 (by simp) (.int .i64 yb)
  clear u0 u1 u2 u3 u4 u5 u6 u7 u8 qx0
  obtain ⟨u0, u1, u2, u3, u4, u5, u6, u7, u8⟩ := Box.tuple9 D.hbox
  have qx0 := D.xs.box.cell 0 rfl
  have qx1 := D.xs.box.cell 1 rfl
  rcases HW.out with ⟨a, hE⟩ | ⟨a, b, hE⟩ | ⟨a, b, d, hE⟩ | ⟨a, b, d, hE⟩
  · rw [a] at qx1
    have HE := Lib.hid hE
    have z0 := D.bbox.cell 0 rfl
    have z1 := D.bbox.cell 1 rfl
    have z2 := D.bbox.cell 2 rfl
    have z3 := D.bbox.cell 3 rfl
    have z4 := D.bbox.cell 4 rfl
    have z5 := D.bbox.cell 5 rfl
    have z6 := D.bbox.cell 6 rfl
    have z7 := D.bbox.cell 7 rfl
    have z8 := D.bbox.cell 8 rfl
    have z9 := D.bbox.cell 9 rfl
    have z10 := D.bbox.cell 10 rfl
    have y0 := D.bbox.free 0 (v := .int .i64 0) rfl
    have y1 := D.bbox.free 1 (v := .string ⟨#[]⟩) rfl
    have y2 := D.bbox.free 2 (v := .string ⟨#[]⟩) rfl
    have y3 := D.bbox.free 3 (v := .string ⟨#[]⟩) rfl
    have y4 := D.bbox.free 4 (v := .string ⟨#[]⟩) rfl
    have y5 := D.bbox.free 5 (v := .int .i64 0) rfl
    have y6 := D.bbox.free 6 (v := .int .i64 0) rfl
    have y7 := D.bbox.free 7 (v := .slice none 0 0) rfl
    have y8 := D.bbox.free 8 (v := .int .i64 0) rfl
    have y9 := D.bbox.free 9 (v := .int .i64 0) rfl
    have y10 := D.bbox.free 10 (v := .int .i64 0) rfl
    clear a hE
    go_wp2
    obtain ⟨hF, hB⟩ := box_fill D.bbox D.below D.lb (.int .i64 0) (.string ⟨#[]⟩) (.string ⟨#[]⟩) (.string ⟨#[]⟩) (.string ⟨#[]⟩) (.int .i64 0) (.int .i64 0) (.slice none 0 0) (.int .i64 0) (.int .i64 0) (.int .i64 0)
    have e0 := hF.cell 0 rfl
    have e1 := hF.cell 1 rfl
    have e2 := hF.cell 2 rfl
    have e3 := hF.cell 3 rfl
    have e4 := hF.cell 4 rfl
    have e5 := hF.cell 5 rfl
    have e6 := hF.cell 6 rfl
    have e7 := hF.cell 7 rfl
    have e8 := hF.cell 8 rfl
    have e9 := hF.cell 9 rfl
    have e10 := hF.cell 10 rfl
    refine bodyPost_ret (v := .tuple #[.agg #[.int .i64 0, .string ⟨#[]⟩, .string ⟨#[]⟩, .string ⟨#[]⟩, .string ⟨#[]⟩, .int .i64 0, .int .i64 0, .slice none 0 0, .int .i64 0, .int .i64 0, .int .i64 0], .int .i64 1]) (by simp [results, Tryz.results14, go_sem, e0, e1, e2, e3, e4, e5, e6, e7, e8, e9, e10]) rfl ⟨none, 0, ?_, ?_, hB⟩
    · rw [HQ.out, HE.out, if_neg (by decide)]; rfl
    · rw [HQ.out, HE.out, if_neg (by decide)]; exact OpsAt.nil_ _ _
  · rw [a] at qx1
    have HE := Lib.hid hE
    have cE := rerr_calls _ _ _ _ _ _ _ D.xs.rd
    have e1 : (s4.e != 0) = true := bne_iff_ne.2 b
    have CE := Lib.hid cE
    clear a b hE cE
    go_wp2_with fail
    refine CE.out.mono ?_
    rintro e w5 ⟨rfl, rfl⟩
    have z0 := D.bbox.cell 0 rfl
    have z1 := D.bbox.cell 1 rfl
    have z2 := D.bbox.cell 2 rfl
    have z3 := D.bbox.cell 3 rfl
    have z4 := D.bbox.cell 4 rfl
    have z5 := D.bbox.cell 5 rfl
    have z6 := D.bbox.cell 6 rfl
    have z7 := D.bbox.cell 7 rfl
    have z8 := D.bbox.cell 8 rfl
    have z9 := D.bbox.cell 9 rfl
    have z10 := D.bbox.cell 10 rfl
    have y0 := D.bbox.free 0 (v := .int .i64 0) rfl
    have y1 := D.bbox.free 1 (v := .string ⟨#[]⟩) rfl
    have y2 := D.bbox.free 2 (v := .string ⟨#[]⟩) rfl
    have y3 := D.bbox.free 3 (v := .string ⟨#[]⟩) rfl
    have y4 := D.bbox.free 4 (v := .string ⟨#[]⟩) rfl
    have y5 := D.bbox.free 5 (v := .int .i64 0) rfl
    have y6 := D.bbox.free 6 (v := .int .i64 0) rfl
    have y7 := D.bbox.free 7 (v := .slice none 0 0) rfl
    have y8 := D.bbox.free 8 (v := .int .i64 0) rfl
    have y9 := D.bbox.free 9 (v := .int .i64 0) rfl
    have y10 := D.bbox.free 10 (v := .int .i64 0) rfl
    go_wp2
    obtain ⟨hF, hB⟩ := box_fill D.bbox D.below D.lb (.int .i64 0) (.string ⟨#[]⟩) (.string ⟨#[]⟩) (.string ⟨#[]⟩) (.string ⟨#[]⟩) (.int .i64 0) (.int .i64 0) (.slice none 0 0) (.int .i64 0) (.int .i64 0) (.int .i64 0)
    have e0 := hF.cell 0 rfl
    have e1 := hF.cell 1 rfl
    have e2 := hF.cell 2 rfl
    have e3 := hF.cell 3 rfl
    have e4 := hF.cell 4 rfl
    have e5 := hF.cell 5 rfl
    have e6 := hF.cell 6 rfl
    have e7 := hF.cell 7 rfl
    have e8 := hF.cell 8 rfl
    have e9 := hF.cell 9 rfl
    have e10 := hF.cell 10 rfl
    refine bodyPost_ret (v := .tuple #[.agg #[.int .i64 0, .string ⟨#[]⟩, .string ⟨#[]⟩, .string ⟨#[]⟩, .string ⟨#[]⟩, .int .i64 0, .int .i64 0, .slice none 0 0, .int .i64 0, .int .i64 0, .int .i64 0], .int .i64 1]) (by simp [results, Tryz.results14, go_sem, e0, e1, e2, e3, e4, e5, e6, e7, e8, e9, e10]) rfl ⟨none, 0, ?_, ?_, hB⟩
    · rw [HQ.out, HE.out, if_neg (by decide)]; rfl
    · rw [HQ.out, HE.out, if_neg (by decide)]; exact OpsAt.nil_ _ _
  · rw [a] at qx1
    have HE := Lib.hid hE
    have cE := rerr_calls _ _ _ _ _ _ _ D.xs.rd
    have cL := rleft_calls _ _ _ _ _ _ _ D.xs.rd hl IL.out
    rw [b] at cE
    try simp only at cE cL qx1
    have CE := Lib.hid cE
    have CL := Lib.hid cL
    clear a b hE cE cL
    go_wp2_with fail
    refine CE.out.mono ?_
    rintro e w5 ⟨rfl, rfl⟩
    go_wp2_with fail
    refine CL.out.mono ?_
    rintro e w5 ⟨rfl, nn, rfl⟩
    have D := D.drewN nn
    have z0 := D.bbox.cell 0 rfl
    have z1 := D.bbox.cell 1 rfl
    have z2 := D.bbox.cell 2 rfl
    have z3 := D.bbox.cell 3 rfl
    have z4 := D.bbox.cell 4 rfl
    have z5 := D.bbox.cell 5 rfl
    have z6 := D.bbox.cell 6 rfl
    have z7 := D.bbox.cell 7 rfl
    have z8 := D.bbox.cell 8 rfl
    have z9 := D.bbox.cell 9 rfl
    have z10 := D.bbox.cell 10 rfl
    have y0 := D.bbox.free 0 (v := .int .i64 0) rfl
    have y1 := D.bbox.free 1 (v := .string ⟨#[]⟩) rfl
    have y2 := D.bbox.free 2 (v := .string ⟨#[]⟩) rfl
    have y3 := D.bbox.free 3 (v := .string ⟨#[]⟩) rfl
    have y4 := D.bbox.free 4 (v := .string ⟨#[]⟩) rfl
    have y5 := D.bbox.free 5 (v := .int .i64 0) rfl
    have y6 := D.bbox.free 6 (v := .int .i64 0) rfl
    have y7 := D.bbox.free 7 (v := .slice none 0 0) rfl
    have y8 := D.bbox.free 8 (v := .int .i64 0) rfl
    have y9 := D.bbox.free 9 (v := .int .i64 0) rfl
    have y10 := D.bbox.free 10 (v := .int .i64 0) rfl
    go_wp2
    obtain ⟨hF, hB⟩ := box_fill D.bbox D.below D.lb (.int .i64 0) (.string ⟨#[]⟩) (.string ⟨#[]⟩) (.string ⟨#[]⟩) (.string ⟨#[]⟩) (.int .i64 0) (.int .i64 0) (.slice none 0 0) (.int .i64 0) (.int .i64 0) (.int .i64 0)
    have e0 := hF.cell 0 rfl
    have e1 := hF.cell 1 rfl
    have e2 := hF.cell 2 rfl
    have e3 := hF.cell 3 rfl
    have e4 := hF.cell 4 rfl
    have e5 := hF.cell 5 rfl
    have e6 := hF.cell 6 rfl
    have e7 := hF.cell 7 rfl
    have e8 := hF.cell 8 rfl
    have e9 := hF.cell 9 rfl
    have e10 := hF.cell 10 rfl
    refine bodyPost_ret (v := .tuple #[.agg #[.int .i64 0, .string ⟨#[]⟩, .string ⟨#[]⟩, .string ⟨#[]⟩, .string ⟨#[]⟩, .int .i64 0, .int .i64 0, .slice none 0 0, .int .i64 0, .int .i64 0, .int .i64 0], .int .i64 1]) (by simp [results, Tryz.results14, go_sem, e0, e1, e2, e3, e4, e5, e6, e7, e8, e9, e10]) rfl ⟨none, 0, ?_, ?_, hB⟩
    · rw [HQ.out, HE.out, if_neg (by decide)]; rfl
    · rw [HQ.out, HE.out, if_neg (by decide)]; exact OpsAt.nil_ _ _
  · rw [a] at qx1
    have cE := rerr_calls _ _ _ _ _ _ _ D.xs.rd
    have cL := rleft_calls _ _ _ _ _ _ _ D.xs.rd hl IL.out
    rw [b] at cE
    try simp only at cE cL qx1
    have CE := Lib.hid cE
    have CL := Lib.hid cL
    have hfit : Fits ⟨k, ⟨([] : List UInt8).toArray⟩, ⟨t0.toArray⟩, ⟨t1.toArray⟩, ⟨t2.toArray⟩, (ya : Int), (yb : Int), [], 0, 0, 0⟩ := by
      refine ⟨?_, ?_, ?_, ?_, ?_, ?_⟩
      · rw [size_ofL]; simp
      · rw [size_ofL]; have := N0.out; omega
      · rw [size_ofL]; have := N1.out; omega
      · rw [size_ofL]; have := N2.out; omega
      · simp
      · intro k hk; simp at hk
    have cC := fun W (hW : OpsAt W none []) (hg : GL W) => check_q_calls ⟨k, ⟨([] : List UInt8).toArray⟩, ⟨t0.toArray⟩, ⟨t1.toArray⟩, ⟨t2.toArray⟩, (ya : Int), (yb : Int), [], 0, 0, 0⟩ none 0 W hW hfit hg
    rw [← hE] at cC
    simp only [Rq.val, List.length_nil] at cC
    have CC := Lib.hid cC
    have HE := Lib.hid hE
    clear a b hE cE cL cC hfit
    go_wp2_with fail
    refine CE.out.mono ?_
    rintro e w5 ⟨rfl, rfl⟩
    go_wp2_with fail
    refine CL.out.mono ?_
    rintro e w5 ⟨rfl, nn, rfl⟩
    have D := D.drewN nn
    have q0 := D.qbox.cell 0 rfl
    have q1 := D.qbox.cell 1 rfl
    have q2 := D.qbox.cell 2 rfl
    have q3 := D.qbox.cell 3 rfl
    have q4 := D.qbox.cell 4 rfl
    have q5 := D.qbox.cell 5 rfl
    have q6 := D.qbox.cell 6 rfl
    have q7 := D.qbox.cell 7 rfl
    have q8 := D.qbox.cell 8 rfl
    have q9 := D.qbox.cell 9 rfl
    have q10 := D.qbox.cell 10 rfl
    go_wp2_with fail
    refine (CC.out _ (OpsAt.nil_ _ _) (HG.out.below D.below)).mono ?_
    rintro e w6 ⟨rfl, hb6⟩
    have D := D.step hb6
    clear q0 q1 q2 q3 q4 q5 q6 q7 q8 q9 q10
    have q0 := D.qbox.cell 0 rfl
    have q1 := D.qbox.cell 1 rfl
    have q2 := D.qbox.cell 2 rfl
    have q3 := D.qbox.cell 3 rfl
    have q4 := D.qbox.cell 4 rfl
    have q5 := D.qbox.cell 5 rfl
    have q6 := D.qbox.cell 6 rfl
    have q7 := D.qbox.cell 7 rfl
    have q8 := D.qbox.cell 8 rfl
    have q9 := D.qbox.cell 9 rfl
    have q10 := D.qbox.cell 10 rfl
    have z0 := D.bbox.cell 0 rfl
    have z1 := D.bbox.cell 1 rfl
    have z2 := D.bbox.cell 2 rfl
    have z3 := D.bbox.cell 3 rfl
    have z4 := D.bbox.cell 4 rfl
    have z5 := D.bbox.cell 5 rfl
    have z6 := D.bbox.cell 6 rfl
    have z7 := D.bbox.cell 7 rfl
    have z8 := D.bbox.cell 8 rfl
    have z9 := D.bbox.cell 9 rfl
    have z10 := D.bbox.cell 10 rfl
    have y0 := D.bbox.free 0 (v := .int .i64 0) rfl
    have y1 := D.bbox.free 1 (v := .string ⟨#[]⟩) rfl
    have y2 := D.bbox.free 2 (v := .string ⟨#[]⟩) rfl
    have y3 := D.bbox.free 3 (v := .string ⟨#[]⟩) rfl
    have y4 := D.bbox.free 4 (v := .string ⟨#[]⟩) rfl
    have y5 := D.bbox.free 5 (v := .int .i64 0) rfl
    have y6 := D.bbox.free 6 (v := .int .i64 0) rfl
    have y7 := D.bbox.free 7 (v := .slice none 0 0) rfl
    have y8 := D.bbox.free 8 (v := .int .i64 0) rfl
    have y9 := D.bbox.free 9 (v := .int .i64 0) rfl
    have y10 := D.bbox.free 10 (v := .int .i64 0) rfl
    by_cases h0 : E = 0
    · have HQ2 := Lib.hid (HQ.out.trans (if_pos h0))
      have e0 : (E != 0) = false := by rw [h0]; rfl
      have H0 := Lib.hid h0
      clear h0 HE HQ
      go_wp2
      clear e0
      obtain ⟨hF, hB⟩ := box_fill D.bbox D.below D.lb (.int .i64 k) (.string ⟨#[]⟩) (.string ⟨t0.toArray⟩) (.string ⟨t1.toArray⟩) (.string ⟨t2.toArray⟩) (.int .i64 ya) (.int .i64 yb) (.slice none 0 0) (.int .i64 0) (.int .i64 0) (.int .i64 0)
      have e0 := hF.cell 0 rfl
      have e1 := hF.cell 1 rfl
      have e2 := hF.cell 2 rfl
      have e3 := hF.cell 3 rfl
      have e4 := hF.cell 4 rfl
      have e5 := hF.cell 5 rfl
      have e6 := hF.cell 6 rfl
      have e7 := hF.cell 7 rfl
      have e8 := hF.cell 8 rfl
      have e9 := hF.cell 9 rfl
      have e10 := hF.cell 10 rfl
      refine bodyPost_ret (v := .tuple #[.agg #[.int .i64 k, .string ⟨#[]⟩, .string ⟨t0.toArray⟩, .string ⟨t1.toArray⟩, .string ⟨t2.toArray⟩, .int .i64 ya, .int .i64 yb, .slice none 0 0, .int .i64 0, .int .i64 0, .int .i64 0], .int .i64 0]) (by simp [results, Tryz.results14, go_sem, e0, e1, e2, e3, e4, e5, e6, e7, e8, e9, e10]) rfl ⟨none, 0, ?_, ?_, hB⟩
      · rw [HQ2.out, H0.out]; rfl
      · rw [HQ2.out]; exact OpsAt.nil_ _ _
    · have HQ2 := Lib.hid (HQ.out.trans (if_neg h0))
      have e0 : (E != 0) = true := bne_iff_ne.2 h0
      clear h0 HE HQ
      go_wp2
      clear e0
      obtain ⟨hF, hB⟩ := box_fill D.bbox D.below D.lb (.int .i64 0) (.string ⟨#[]⟩) (.string ⟨#[]⟩) (.string ⟨#[]⟩) (.string ⟨#[]⟩) (.int .i64 0) (.int .i64 0) (.slice none 0 0) (.int .i64 0) (.int .i64 0) (.int .i64 0)
      have e0 := hF.cell 0 rfl
      have e1 := hF.cell 1 rfl
      have e2 := hF.cell 2 rfl
      have e3 := hF.cell 3 rfl
      have e4 := hF.cell 4 rfl
      have e5 := hF.cell 5 rfl
      have e6 := hF.cell 6 rfl
      have e7 := hF.cell 7 rfl
      have e8 := hF.cell 8 rfl
      have e9 := hF.cell 9 rfl
      have e10 := hF.cell 10 rfl
      refine bodyPost_ret (v := .tuple #[.agg #[.int .i64 0, .string ⟨#[]⟩, .string ⟨#[]⟩, .string ⟨#[]⟩, .string ⟨#[]⟩, .int .i64 0, .int .i64 0, .slice none 0 0, .int .i64 0, .int .i64 0, .int .i64 0], .int .i64 E]) (by simp [results, Tryz.results14, go_sem, e0, e1, e2, e3, e4, e5, e6, e7, e8, e9, e10]) rfl ⟨none, 0, ?_, ?_, hB⟩
      · rw [HQ2.out]; rfl
      · rw [HQ2.out]; exact OpsAt.nil_ _ _
end Go.Proofs.YtcmoidldalgljaaGreatDoor

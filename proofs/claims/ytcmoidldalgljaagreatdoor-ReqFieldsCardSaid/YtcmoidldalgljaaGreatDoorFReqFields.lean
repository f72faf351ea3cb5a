/-
  The statement ReqFields: for every input the law returns true, and each argument reads afterwards as it read before; the row's listed variables (tables of Go's library) start as the program's text lays them, which the card ties.
-/
import Derived.Test.YtcmoidldalgljaaGreatDoorPw
set_option linter.unusedVariables false
set_option linter.unusedSimpArgs false
namespace Go.Proofs.YtcmoidldalgljaaGreatDoor
open Go.RowKit
open Hen

set_option maxHeartbeats 16000000 in
set_option maxRecDepth 100000 in
theorem reqFields_calls (q : Rq) (A : Option Addr) (c : Nat) (which : Int) (w : World) (hO : OpsAt w A q.ops) (hS : Sizes q) (hG : GL w) :
    Calls Tryz.prog 4 #[q.val A c, .int .i64 which] w fun e w' => e = .returned (.bool true) ∧ Below w.heap.size w w' := by
  have cF := fun W (hg : GL W) => first12_calls W hg
  have cL := fun W (hW : OpsAt W A q.ops) => light_of A c W hW hS
  have hm := i64_and255 which
  obtain ⟨m, hmn⟩ : ∃ m : Nat, which % 256 = m := ⟨(which % 256).toNat, by omega⟩
  rw [hmn] at hm
  have hml : m < 256 := by omega
  have hway : lightB q = false ∨ (lightB q = true ∧ checkE q ≠ 0) ∨ (lightB q = true ∧ checkE q = 0 ∧ (m : Int) % 4 = 0) ∨ (lightB q = true ∧ checkE q = 0 ∧ (m : Int) % 4 = 1) ∨ (lightB q = true ∧ checkE q = 0 ∧ (m : Int) % 4 = 2) ∨ (lightB q = true ∧ checkE q = 0 ∧ (m : Int) % 4 = 3) := by
    cases lightB q with
    | false => exact .inl rfl
    | true =>
      by_cases h0 : checkE q = 0
      · simp [h0]; omega
      · simp [h0]
  have cC := fun (hl : lightB q = true) W (hW : OpsAt W A q.ops) (hg : GL W) => check_q_calls q A c W hW (lightB_small hl hS).fits hg
  have cP := fun (p : Rq) (hp : p.ops = q.ops) (hf : Fits p) W (hW : OpsAt W A q.ops) (hg : GL W) => check_q_calls p A c W (by rw [hp]; exact hW) hf hg
  have d0 := fields_0 q
  have d1 := fields_1 q
  have d2 := fields_2 q
  have d3 := fields_3 q
  have fit := fun hl : lightB q = true => (lightB_small hl hS).fits
  generalize lightB q = L at cL hway cC fit
  generalize checkE q = E at hway cC d0 d1 d2
  obtain ⟨k, tenant, col, uid, card, ck, cv, ops, tok, most, ticks⟩ := q
  obtain ⟨n, hN⟩ : ∃ n, n = ops.length := ⟨_, rfl⟩
  simp only [Rq.val, ← hN] at cL cC cP d0 d1 d2 d3 ⊢
  have HO := Lib.hid hO
  have HG := Lib.hid hG
  have CF := Lib.hid cF
  have CL := Lib.hid cL
  have CC := Lib.hid cC
  have CP := Lib.hid cP
  have HN := Lib.hid hN
  have FIT := Lib.hid fit
  have D0 := Lib.hid d0
  have D1 := Lib.hid d1
  have D2 := Lib.hid d2
  have D3 := Lib.hid d3
  have HW := Lib.hid hway
  clear hO hG cF cL cC cP hN hS d0 d1 d2 d3 fit hway hmn
  have hb0 := (Below.refl w.heap.size w).alloc (Nat.le_refl _) (.cells #[.int .i64 k, .string tenant, .string col, .string uid, .string card, .int .i64 ck, .int .i64 cv, .slice A n c, .int .i64 tok, .int .i64 most, .int .i64 ticks] 26)
  have hB0 := Box.new w #[.int .i64 k, .string tenant, .string col, .string uid, .string card, .int .i64 ck, .int .i64 cv, .slice A n c, .int .i64 tok, .int .i64 most, .int .i64 ticks] 26
  go_enter Tryz.func4, Tryz.ntmps4
  go_wp2_with fail
  refine (CF.out _ (HG.out.below hb0)).mono ?_
  rintro e w1 ⟨rfl, hb1⟩
  have hbw1 := below_step hb0 hb0.size hb1
  have hB1 := hB0.step hb1
  obtain ⟨q0, q1, q2, q3, q4, q5, q6, q7, q8, q9, q10⟩ := Box.tuple11 hB1
  clear hb0 hB0 hb1
  go_wp2_with fail
  refine (CL.out _ (HO.out.below hbw1)).mono ?_
  rintro e w2 ⟨rfl, hb2⟩
  have hbw2 := below_step hbw1 hbw1.size hb2
  have hB2 := hB1.step hb2
  clear q0 q1 q2 q3 q4 q5 q6 q7 q8 q9 q10
  obtain ⟨q0, q1, q2, q3, q4, q5, q6, q7, q8, q9, q10⟩ := Box.tuple11 hB2
  clear hbw1 hB1 hb2
  rcases HW.out with hL | ⟨hL, hE⟩ | ⟨hL, hE, h4⟩ | ⟨hL, hE, h4⟩ | ⟨hL, hE, h4⟩ | ⟨hL, hE, h4⟩
  · subst hL
    go_wp2_with fail
    refine (CF.out _ (HG.out.below hbw2)).mono ?_
    rintro e w3 ⟨rfl, hb3⟩
    go_wp2
    go_ret
    exact ⟨rfl, below_step hbw2 hbw2.size hb3⟩
  · have CC1 := Lib.hid (CC.out hL)
    have e0 : (E != 0) = true := bne_iff_ne.2 hE
    subst hL
    clear CC hE
    go_wp2_with fail
    refine (CC1.out _ (HO.out.below hbw2) (HG.out.below hbw2)).mono ?_
    rintro e w3 ⟨rfl, hb3⟩
    have hbw3 := below_step hbw2 hbw2.size hb3
    go_wp2_with fail
    refine (CF.out _ (HG.out.below hbw3)).mono ?_
    rintro e w4 ⟨rfl, hb4⟩
    go_wp2
    go_ret
    exact ⟨rfl, below_step hbw3 hbw3.size hb4⟩
  all_goals
    have CC1 := Lib.hid (CC.out hL)
    have FT := FIT.out hL
    subst hL
    subst hE
    clear CC FIT
    go_wp2_with fail
    refine (CC1.out _ (HO.out.below hbw2) (HG.out.below hbw2)).mono ?_
    rintro e w3 ⟨rfl, hb3⟩
    have hbw3 := below_step hbw2 hbw2.size hb3
    have hB3 := hB2.step hb3
    clear q0 q1 q2 q3 q4 q5 q6 q7 q8 q9 q10
    obtain ⟨q0, q1, q2, q3, q4, q5, q6, q7, q8, q9, q10⟩ := Box.tuple11 hB3
    clear hbw2 hB2 hb3
    go_wp2_with fail
  · have hbp := hbw3.alloc hbw3.size (.cells #[.int .i64 k, .string ⟨#[122, 101, 100]⟩, .string ⟨#[122, 101, 100]⟩, .string uid, .string card, .int .i64 ck, .int .i64 cv, .slice A n c, .int .i64 tok, .int .i64 most, .int .i64 ticks] 26)
    have cp := CP.out ⟨k, zedS, zedS, uid, card, ck, cv, ops, tok, most, ticks⟩ rfl ⟨(show zedS.size ≤ 140737488355327 by decide), (show zedS.size ≤ 140737488355327 by decide), FT.uid, FT.card, FT.ops, FT.each⟩ _ (HO.out.below hbp) (HG.out.below hbp)
    rw [D0.out trivial] at cp
    simp only [← HN.out] at cp
    refine cp.mono ?_
    rintro e w4 ⟨rfl, hb4⟩
    go_wp2
    go_ret
    exact ⟨rfl, below_step hbp hbp.size hb4⟩
  · have hbp := hbw3.alloc hbw3.size (.cells #[.int .i64 k, .string tenant, .string col, .string ⟨#[122, 101, 100]⟩, .string card, .int .i64 ck, .int .i64 cv, .slice A n c, .int .i64 5, .int .i64 most, .int .i64 ticks] 26)
    have cp := CP.out ⟨k, tenant, col, zedS, card, ck, cv, ops, 5, most, ticks⟩ rfl ⟨FT.tenant, FT.col, (show zedS.size ≤ 140737488355327 by decide), FT.card, FT.ops, FT.each⟩ _ (HO.out.below hbp) (HG.out.below hbp)
    rw [D1.out trivial] at cp
    simp only [← HN.out] at cp
    refine cp.mono ?_
    rintro e w4 ⟨rfl, hb4⟩
    go_wp2
    go_ret
    exact ⟨rfl, below_step hbp hbp.size hb4⟩
  · have hbp := hbw3.alloc hbw3.size (.cells #[.int .i64 k, .string tenant, .string col, .string uid, .string card, .int .i64 ck, .int .i64 cv, .slice A n c, .int .i64 tok, .int .i64 5, .int .i64 5] 26)
    have cp := CP.out ⟨k, tenant, col, uid, card, ck, cv, ops, tok, 5, 5⟩ rfl ⟨FT.tenant, FT.col, FT.uid, FT.card, FT.ops, FT.each⟩ _ (HO.out.below hbp) (HG.out.below hbp)
    rw [D2.out trivial] at cp
    simp only [← HN.out] at cp
    refine cp.mono ?_
    rintro e w4 ⟨rfl, hb4⟩
    go_wp2
    go_ret
    exact ⟨rfl, below_step hbp hbp.size hb4⟩
  · have hbp := hbw3.alloc hbw3.size (.cells #[.int .i64 77, .string tenant, .string col, .string uid, .string card, .int .i64 ck, .int .i64 cv, .slice A n c, .int .i64 tok, .int .i64 most, .int .i64 ticks] 26)
    have cp := CP.out ⟨77, tenant, col, uid, card, ck, cv, ops, tok, most, ticks⟩ rfl ⟨FT.tenant, FT.col, FT.uid, FT.card, FT.ops, FT.each⟩ _ (HO.out.below hbp) (HG.out.below hbp)
    rw [D3.out] at cp
    simp only [← HN.out] at cp
    refine cp.mono ?_
    rintro e w4 ⟨rfl, hb4⟩
    go_wp2
    go_ret
    exact ⟨rfl, below_step hbp hbp.size hb4⟩
end Go.Proofs.YtcmoidldalgljaaGreatDoor
set_option linter.unusedVariables false
set_option linter.unusedSimpArgs false
namespace Go.Proofs.YtcmoidldalgljaaGreatDoor
open Go.RowKit Go.ChangeShapes Go.WideShapes Go.ChangeAt Go.Deep
open Hen

set_option maxRecDepth 100000 in
set_option maxHeartbeats 4000000 in
theorem reqFields_lifted (os : Os) (started : os.Started) (H : Type) (enc : TypeId × Value → H) :
    ReturnsInHanded {} Tryz.checked os 4 .any (fun w args => (Rows.reqFieldsSpec.pre enc Tryz.prog Tryz.f4 [] false w args ∧ laidMetH Tryz.prog laid5 w) ∧ sizedMet enc Tryz.prog Tryz.f4 (OpenSpec.ofChange Rows.reqFieldsSpec) false w args)
      (Rows.reqFieldsSpec.post enc Tryz.prog Tryz.f4 false true false false) := by
  refine wrap (C := Tryz.checked) (X := fun w _ => laidMetH Tryz.prog laid5 w) (fun _ _ _ hh h => h.of_heap hh) own started (by kernel_rfl) Tryz.func4
    (ChangeSpec.witness_shaped (enc := enc) (C := Tryz.checked) (os := os) (X := fun w _ => laidMetH Tryz.prog laid5 w) false (World.laidAll Tryz.prog os laid5) #[.agg #[.int .i64 0, .string ⟨#[]⟩, .string ⟨#[]⟩, .string ⟨#[]⟩, .string ⟨#[]⟩, .int .i64 0, .int .i64 0, .slice none 0 0, .int .i64 0, .int .i64 0, .int .i64 0], .int .i64 0] 8 (World.laidAll_os _ _ _)
      (World.shaped_of_ZipB (by kernel_rfl) (by kernel_rfl)) (by kernel_rfl) (by kernel_rfl) (by kernel_rfl)
      (by rw [MakeChecks.laidMetH_plain _ _ _ (by kernel_rfl)]; exact laidMet_laidAll _ (by kernel_rfl) (by kernel_rfl))) ?_
  intro W base args ds gs before hval0 hW hsz0 hL hsh
  have hval : ∀ (j : Nat) t v, Tryz.f4.params[j]? = some t → args[j]? = some v → Value.okWide Tryz.prog W .any base t v := hval0
  have hW' := hW
  obtain ⟨p, q, hA0, hV, rfl, hfz, hnd⟩ := hW
  have hA : DataW.TrodAll enc Tryz.prog W 0 (fun _ => true) true Tryz.f4.params.toList args.toList ds p := hA0
  have hsz : (DataW.weightsEach Tryz.prog (Tryz.f4.params.toList ++ Rows.reqFieldsSpec.plain.varTypes Tryz.prog) (ds ++ gs)).all (· ≤ reachBytes) = true := hsz0
  rw [Tryz.params4] at hA hval hsz
  obtain ⟨v0, v1, d0, d1, p0, p1, rfl, rfl, rfl, h0, h1⟩ := trodAll_two hA
  obtain ⟨rfl, rfl⟩ := trodVars_none hV
  have k0 := h0
  obtain ⟨cs0, rfl, _⟩ := okWide_struct Tryz.underlying26 (hval 0 26 v0 rfl rfl)
  obtain ⟨fuel0, hf0⟩ := h0
  obtain ⟨q0, A0, c0, hc0, hO0, hS0⟩ := req_of_cells hf0 (Bd.arg hsz (j := 0) rfl rfl)
  have hv0 : Value.agg cs0 = q0.val A0 c0 := Rq.cells_val _ _ _ _ _ rfl hc0
  obtain ⟨x1, rfl, rfl, rfl, w1⟩ := open_int Tryz.underlying3 (hval 1 3 v1 rfl rfl) h1
  clear hA0 hval0
  simp only [List.append_nil, List.nil_append] at hW'
  have hcall := reqFields_calls q0 A0 c0 x1 W hO0 hS0 (gl_of_laid hL hsh)
  rw [← hv0] at hcall
  refine hcall.mono fun e W' ⟨he, hb⟩ => ?_
  subst he
  refine ⟨_, rfl, post_of_below (pa := p0) (pv := []) hW' (fun _ _ _ => trodAll_mk1 (shut_bool Tryz.underlying4 _)) (fun sp hsp => ?_) (fun _ _ => rfl) (by simp) hb (ok_one (by kernel_rfl) rfl (okWide_bool_mk Tryz.underlying4 _))⟩
  have := trodAll_mk2 (trod_later laidOut (by kernel_rfl) (of_decide_eq_true (by kernel_rfl)) k0 hb (fun x hx => hW'.lt x (by simp [hx])) (fun x hx => hsp x (by simp [hx]))) (shut_int Tryz.underlying3 w1)
  simp only [List.append_nil, List.nil_append] at this
  exact this

theorem reqFields_row : Rows.ReqFieldsSaid :=
  OpenClaim.holds_of_wide 4 Tryz.f4 rfl rfl rfl rfl rfl rfl rfl ⟨rfl, rfl, rfl, rfl, rfl⟩ rfl rfl rfl rfl rfl (by kernel_rfl) Tryz.func4 (by kernel_rfl)
    (of_decide_eq_true (by kernel_rfl)) (by unfold Func.isWrapper; first | (rw [if_pos (by decide +kernel)]; kernel_rfl) | (rw [if_neg (by decide +kernel)]; exact ⟨rfl, rfl⟩))
    (fun os started H enc _ => reqFields_lifted os started H enc)
theorem reqFields_holds : Rows.ReqFieldsCardSaid :=
  Claim7.holds_tied_plain_at .later [] [.data, .data, .data, .data, .pinned] true Rows.reqFieldsCard.stood.harness false
    reqFields_row (fun _ h => by cases h) (by kernel_rfl) (fun _ h => by cases h) reqFields_row_tie rfl ⟨rfl, rfl⟩ (by kernel_rfl) rfl
    (fun f fn hf hfn => by
      obtain rfl : f = 4 := Option.some.inj ((show Tryz.prog.funcNamed "henhouse/henlaw12.ReqFields" = some 4 by kernel_rfl).symm.trans hf) |>.symm
      obtain rfl : fn = Tryz.f4 := (Option.some.inj (Tryz.func4.symm.trans hfn)).symm
      exact ⟨by kernel_rfl, fun j t ht => by
        rw [Tryz.params4] at ht
        have hm : t ∈ [26, 3] := by simpa using Array.mem_of_getElem? ht
        have hall : ([26, 3].all fun u => !Tryz.prog.wantsStandIn u) = true := by kernel_rfl
        exact (show Tryz.prog.wantsStandIn t = false by simpa using List.all_eq_true.1 hall t hm)⟩)
    (by kernel_rfl)
#print axioms reqFields_holds
end Go.Proofs.YtcmoidldalgljaaGreatDoor

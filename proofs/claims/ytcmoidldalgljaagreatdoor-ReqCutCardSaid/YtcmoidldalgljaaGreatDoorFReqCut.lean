/-
  The statement ReqCut: for every input the law returns true, and each argument reads afterwards as it read before; the row's listed variables (tables of Go's library) start as the program's text lays them, which the card ties.
-/
import Derived.Test.YtcmoidldalgljaaGreatDoorPw
import Derived.Deep.RegionLaw
import Derived.Deep.RegionWith
import Derived.Deep.RegionHeld3
import Derived.Deep.Cut
import Derived.OpenShut
set_option linter.unusedVariables false
set_option linter.unusedSimpArgs false
namespace Go.Proofs.YtcmoidldalgljaaGreatDoor
open Go.RowKit
open Hen

section
variable {ops : Array Oper} {o : Oper} {a : Act} {K : Act → World → Prop} {Q : Exit → Act → World → Prop} {E : Prop}
theorem step_append_bytes {W w0 : World} (hgd : o.guard = none) (s x : Operand) (ho : o.op = .call { callee := .builtin .append, args := #[s, x], argTypes := #[29, 29] })
    (B : Nat) {v : Value} {l m : List UInt8} {ad : Addr} {cm : Nat} (HO : Row W B v l) (hs : a.eval s = v) (mn : Nat) (hx : a.eval x = .slice (some ad) mn cm) (hmn : mn = m.length) (hc : ∀ i (hi : i < m.length), W.cell? (ad.add i) = some (.int .u8 ((m[i].toNat : Nat) : Int)))
    (hm : 0 < m.length) (hB : Below B w0 W) (hBs : B ≤ w0.heap.size) (hl : l.length + m.length ≤ 140737488355328) (k : Nat) (hk : l.length + m.length = k)
    (h : ∀ g c w1, Row w1 B (.slice (some ⟨g, 0, none⟩) k c) (l ++ m) → Below B w0 w1 → (∀ n i u, some n ≠ v.ownBlock → W.cell? ⟨n, i, none⟩ = some u → w1.cell? ⟨n, i, none⟩ = some u) → (∀ n q, some n ≠ v.ownBlock → Box W n q → Box w1 n q) → (∀ n q, some n ≠ v.ownBlock → Box W n q → some n ≠ (Value.slice (some ⟨g, 0, none⟩) k c).ownBlock) → g < w1.heap.size → K (a.put o.dst (.slice (some ⟨g, 0, none⟩) k c)) w1) :
    if Region.wanted o (yielded ops a.tmps) = true then Oper.wp Tryz.prog o a W K Q else E := by
  subst hk
  subst hmn
  obtain ⟨i0, hi, hz0, hz1, hz2⟩ := info_parts infoByte
  refine step_append_lies W hgd s x _ ho B _ i0 (.int .u8 0) 1 1 Tryz.underlying29 hi hz0 hz1 hz2 rfl (by decide) v l.length (Lib.byteCells l) hs HO ad m.length cm (Lib.byteCells m) hx (by rw [Lib.byteCells_length, Nat.mul_one]) (by
    intro j u hu
    have hj : j < m.length := by
      rcases Nat.lt_or_ge j m.length with h' | h'
      · exact h'
      · rw [List.getElem?_eq_none (by rw [Lib.byteCells_length]; omega)] at hu; cases hu
    rw [hc j hj, ← hu]
    simp [Lib.byteCells, List.getElem?_eq_getElem hj]) (by intro u hu; simp [Lib.byteCells] at hu; obtain ⟨b, _, rfl⟩ := hu; rfl) hm (by simp only [maxLen]; omega) (by omega) (Nat.le_trans hBs hB.size) _ rfl ?_
  intro g cap w1 hown hg hat hlt
  have hr : Row w1 B (.slice (some ⟨g, 0, none⟩) (l.length + m.length) cap) (l ++ m) := by unfold Row; simpa [Lib.byteCells] using hown
  refine h g cap w1 hr (hB.grown hg (Nat.le_trans hBs hB.size) (fun j e => HO.base j e)) (fun n i u hne hu => ?_) (fun n q hne hq => ⟨Nat.lt_of_lt_of_le hq.1 hg.size, fun i v hv => ⟨(hg.cell_far ⟨n, i, none⟩ hq.1 hne).trans (hq.2 i v hv).1, (hg.frozen_far ⟨n, i, none⟩ hq.1 hne).trans (hq.2 i v hv).2⟩⟩) (fun n q hne hq e => by
    have e' : n = g := by simpa [Value.ownBlock] using e
    rcases hat with h1 | h1
    · exact hne (by rw [h1, e'])
    · have := hq.1; omega) hlt
  refine (hg.cell_far ⟨n, i, none⟩ ?_ hne).trans hu
  unfold World.cell? at hu
  rcases Nat.lt_or_ge n W.heap.size with h' | h'
  · exact h'
  · rw [Array.getElem?_eq_none h'] at hu; cases hu
end
theorem encB_len {q : Rq} (h : Small q) : (encB q).length ≤ 549755813888 := by
  have t0 := textB_len q.tenant _ h.tenant
  have t1 := textB_len q.col _ h.col
  have t2 := textB_len q.uid _ h.uid
  have t3 := textB_len q.card _ h.card
  have u0 := numB_len q.ck
  have u1 := numB_len q.cv
  have u2 := numB_len q.tok
  have u3 := numB_len q.most
  have u4 := numB_len q.ticks
  have u5 := numB_len q.ops.length
  have hops : ∀ (l : List Opx), (∀ o ∈ l, (opB o).length ≤ 2200000000) → (l.flatMap opB).length ≤ l.length * 2200000000 := by
    intro l
    induction l with
    | nil => intro _; simp
    | cons o l ih =>
      intro hl
      have a1 := hl o (by simp)
      have a2 := ih fun o' ho => hl o' (by simp [ho])
      simp only [List.flatMap_cons, List.length_append, List.length_cons]
      omega
  have u6 := hops q.ops fun o ho => by
    obtain ⟨k, hk, rfl⟩ := List.getElem_of_mem ho
    have := h.each k hk
    rw [getElem!_pos _ k hk] at this
    exact opB_len _ this.1 this.2.1
  have u7 := h.ops
  have u8 : (condB q.ck q.cv).length ≤ 18 := by unfold condB; rw [List.length_append]; omega
  have opt : ∀ (b : Bool) (l : List UInt8) (n : Nat), l.length ≤ n → (if b then l else []).length ≤ n := by
    intro b l n hn
    cases b <;> simp <;> omega
  unfold encB encF
  simp only [List.length_append]
  have v0 := opt ((hasL q.k).getD 0 false) _ _ t0
  have v1 := opt ((hasL q.k).getD 1 false) _ _ t1
  have v2 := opt ((hasL q.k).getD 2 false) _ _ t2
  have v3 := opt ((hasL q.k).getD 3 false) _ _ t3
  have v4 := opt ((hasL q.k).getD 4 false) _ _ u8
  have v5 := opt ((hasL q.k).getD 5 false) (numB (q.ops.length : Nat) ++ q.ops.flatMap opB) (9 + 64 * 2200000000) (by rw [List.length_append]; omega)
  have v6 := opt ((hasL q.k).getD 6 false) _ _ u2
  have v7 := opt ((hasL q.k).getD 7 false) _ _ u3
  have v8 := opt ((hasL q.k).getD 8 false) _ _ u4
  omega
theorem Box.free11 {W : World} {g : Nat} {a0 a1 a2 a3 a4 a5 a6 a7 a8 a9 a10 : Value} (h : Box W g [a0, a1, a2, a3, a4, a5, a6, a7, a8, a9, a10]) :
    W.frozen? ⟨g, 0, none⟩ = false ∧ W.frozen? ⟨g, 1, none⟩ = false ∧ W.frozen? ⟨g, 2, none⟩ = false ∧ W.frozen? ⟨g, 3, none⟩ = false ∧ W.frozen? ⟨g, 4, none⟩ = false ∧ W.frozen? ⟨g, 5, none⟩ = false ∧ W.frozen? ⟨g, 6, none⟩ = false ∧ W.frozen? ⟨g, 7, none⟩ = false ∧ W.frozen? ⟨g, 8, none⟩ = false ∧ W.frozen? ⟨g, 9, none⟩ = false ∧ W.frozen? ⟨g, 10, none⟩ = false :=
  ⟨h.free 0 (v := a0) rfl, h.free 1 (v := a1) rfl, h.free 2 (v := a2) rfl, h.free 3 (v := a3) rfl, h.free 4 (v := a4) rfl, h.free 5 (v := a5) rfl, h.free 6 (v := a6) rfl, h.free 7 (v := a7) rfl, h.free 8 (v := a8) rfl, h.free 9 (v := a9) rfl, h.free 10 (v := a10) rfl⟩
theorem Row.emptyN (w : World) (n B : Nat) (hn : n = w.heap.size) (hB : B ≤ n) : Row (w.alloc (.cells #[] 5)) B (.slice (some ⟨n, 0, none⟩) 0 0) [] := by
  subst hn
  exact (Row.empty w).low hB
theorem Row.drew1 {w : World} {B : Nat} {v : Value} {l : List UInt8} (h : Row w B v l) : Row w.drew B v l := h.below (Below.refl _ _).drew
theorem cell_newN (w : World) (n : Nat) (v : Value) (T : TypeId) (hn : n = w.heap.size) : (w.alloc (.cells #[v] T)).cell? ⟨n, 0, none⟩ = some v := by
  subst hn
  rw [World.cell?_alloc_new]; rfl
theorem cell_alloc {W : World} {a : Addr} {v : Value} (o : Obj) (h : W.cell? a = some v) : (W.alloc o).cell? a = some v := Lib.cell?_alloc_marked o h
theorem cell_drew {W : World} {a : Addr} {v : Value} (h : W.cell? a = some v) : W.drew.cell? a = some v := h
theorem Box.newN (w : World) (n : Nat) (cs : Array Value) (T : TypeId) (q : List Value) (hn : n = w.heap.size) (hq : cs.toList = q) : Box (w.alloc (.cells cs T)) n q := by
  subst hn
  subst hq
  exact Box.new w cs T
theorem addr_zero (g i : Nat) : (⟨g, 0, none⟩ : Addr).add i = ⟨g, i, none⟩ := by unfold Addr.add; split <;> simp_all
theorem Row.ofRow {w : World} {B g n c : Nat} {l : List UInt8} (h : Row w B (.slice (some ⟨g, 0, none⟩) n c) l) : n = l.length ∧ g < w.heap.size ∧ ∀ i (hi : i < l.length), w.cell? ((⟨g, 0, none⟩ : Addr).add i) = some (.int .u8 ((l[i].toNat : Nat) : Int)) := by
  obtain ⟨A, c', e⟩ := h.shape
  injection e with e1 e2 e3
  refine ⟨e2, (World.ownsRow.lt h g rfl).2, fun i hi => ?_⟩
  obtain ⟨g', c2, e', _, _, hc⟩ := h.at_ (by omega)
  injection e' with e1'
  injection e1' with e1'
  injection e1' with e1'
  subst e1'
  rw [addr_zero]; exact hc i hi
theorem one_cell {w : World} {g : Nat} {y : UInt8} (h : w.cell? ⟨g, 0, none⟩ = some (.int .u8 ((y.toNat : Nat) : Int))) : ∀ i (hi : i < [y].length), w.cell? ((⟨g, 0, none⟩ : Addr).add i) = some (.int .u8 (([y][i].toNat : Nat) : Int)) := fun i hi => by
  have : i = 0 := by simp at hi; exact hi
  subst this
  rw [addr_zero]; exact h

set_option maxHeartbeats 16000000 in
set_option maxRecDepth 100000 in
theorem reqCut_byte (q : Rq) (A : Option Addr) (c : Nat) (at0 : Int) (y : UInt8) (w : World) (hO : OpsAt w A q.ops) (hS : Sizes q) (hG : GL w) :
    Calls Tryz.prog 3 #[q.val A c, .int .i64 at0, .int .u8 ((y.toNat : Nat) : Int)] w fun e w' => e = .returned (.bool true) ∧ Below w.heap.size w w' := by
  have cF := fun W (hg : GL W) => first12_calls W hg
  have cL := fun W (hW : OpsAt W A q.ops) => light_of A c W hW hS
  have hm := i64_and65535 at0
  obtain ⟨m, hmn⟩ : ∃ m : Nat, at0 % 65536 = m := ⟨(at0 % 65536).toNat, by omega⟩
  rw [hmn] at hm
  have cE := fun (hl : lightB q = true) W (hW : OpsAt W A q.ops) (hg : GL W) => encode_calls q A c W hW (lightB_small hl hS) hg
  have hnil := encB_nil (q := q)
  have hcut := fun h c d e hd => dec_cut q h hS.num c d e hd
  have hmore := fun h d hd => dec_more q h hS.num d hd
  have hlen : lightB q = true → (encB q).length ≤ 549755813888 := fun hl => encB_len (lightB_small hl hS)
  have hway : lightB q = false ∨ (lightB q = true ∧ checkE q ≠ 0) ∨ (lightB q = true ∧ checkE q = 0 ∧ encB q = []) ∨ (lightB q = true ∧ checkE q = 0 ∧ encB q ≠ []) := by
    cases lightB q with
    | false => exact .inl rfl
    | true =>
      by_cases h0 : checkE q = 0
      · by_cases h1 : encB q = [] <;> simp [h0, h1]
      · simp [h0]
  generalize lightB q = L at cL hway cE hlen
  generalize checkE q = E at hway cE hnil hcut hmore
  generalize encB q = bs at hway cE hnil hcut hmore hlen
  obtain ⟨k, tenant, col, uid, card, ck, cv, ops, tok, most, ticks⟩ := q
  obtain ⟨n, hN⟩ : ∃ n, n = ops.length := ⟨_, rfl⟩
  simp only [Rq.val, ← hN] at cL cE hnil hcut hmore ⊢
  have HO := Lib.hid hO
  have HG := Lib.hid hG
  have CF := Lib.hid cF
  have CL := Lib.hid cL
  have CE := Lib.hid cE
  have HN := Lib.hid hN
  have HNIL := Lib.hid hnil
  have HCUT := Lib.hid hcut
  have HMORE := Lib.hid hmore
  have HLEN := Lib.hid hlen
  have HW := Lib.hid hway
  clear hO hG cF cL cE hN hS hnil hcut hmore hlen hway hmn
  have hb0 := (Below.refl w.heap.size w).alloc (Nat.le_refl _) (.cells #[.int .i64 k, .string tenant, .string col, .string uid, .string card, .int .i64 ck, .int .i64 cv, .slice A n c, .int .i64 tok, .int .i64 most, .int .i64 ticks] 26)
  have hB0 := Box.new w #[.int .i64 k, .string tenant, .string col, .string uid, .string card, .int .i64 ck, .int .i64 cv, .slice A n c, .int .i64 tok, .int .i64 most, .int .i64 ticks] 26
  go_enter Tryz.func3, Tryz.ntmps3
  go_wp2_with fail
  refine (CF.out _ (HG.out.below hb0)).mono ?_
  rintro e w1 ⟨rfl, hb1⟩
  have hbw1 := below_step hb0 hb0.size hb1
  have hB1 := hB0.step hb1
  obtain ⟨q0, q1, q2, q3, q4, q5, q6, q7, q8, q9, q10⟩ := Box.tuple11 hB1
  clear hb0 hB0 hb1
  go_wp2_with fail
  refine (CL.out _ (HO.out.below hbw1)).mono ?_
  rintro e w2 ⟨rfl, hb2⟩
  have hbw2 := below_step hbw1 hbw1.size hb2
  have hB2 := hB1.step hb2
  clear q0 q1 q2 q3 q4 q5 q6 q7 q8 q9 q10
  obtain ⟨q0, q1, q2, q3, q4, q5, q6, q7, q8, q9, q10⟩ := Box.tuple11 hB2
  clear hbw1 hB1 hb2
  rcases HW.out with hL | ⟨hL, hE⟩ | ⟨hL, hE, hbs⟩ | ⟨hL, hE, hbs⟩
  · subst hL
    go_wp2_with fail
    refine (CF.out _ (HG.out.below hbw2)).mono ?_
    rintro e w3 ⟨rfl, hb3⟩
    go_wp2
    go_ret
    exact ⟨rfl, below_step hbw2 hbw2.size hb3⟩
  · have CE1 := Lib.hid (CE.out hL)
    have e0 : (E != 0) = true := bne_iff_ne.2 hE
    have HE := Lib.hid hE
    subst hL
    clear CE hE
    go_wp2_with fail
    refine (CE1.out _ (HO.out.below hbw2) (HG.out.below hbw2)).mono ?_
    rintro e w3 ⟨v3, rfl, _, hv3, hb3⟩
    obtain rfl := hv3 HE.out
    go_wp2
    go_ret
    exact ⟨rfl, below_step hbw2 hbw2.size hb3⟩
  · have CE1 := Lib.hid (CE.out hL)
    have hk := HNIL.out hE hbs
    subst hL
    subst hE
    subst hbs
    clear CE
    have hk' : ((k == 10) = true) ∨ ((k == 10) = false ∧ (k == 11) = true) := by
      rcases hk with h | h
      · exact .inl (by rw [h]; rfl)
      · exact .inr ⟨by rw [h]; rfl, by rw [h]; rfl⟩
    clear hk
    go_wp2_with fail
    refine (CE1.out _ (HO.out.below hbw2) (HG.out.below hbw2)).mono ?_
    rintro e w3 ⟨v3, rfl, hr3, _, hb3⟩
    have hr3 := hr3 rfl
    obtain ⟨A3, c3, rfl⟩ := hr3.shape
    have hB3 := hB2.step hb3
    clear q0 q1 q2 q3 q4 q5 q6 q7 q8 q9 q10
    obtain ⟨q0, q1, q2, q3, q4, q5, q6, q7, q8, q9, q10⟩ := Box.tuple11 hB3
    clear hr3
    rcases hk' with h1 | ⟨h1, h2⟩
    all_goals
      go_wp2
      go_ret
      exact ⟨rfl, below_step hbw2 hbw2.size hb3⟩
  · have CE1 := Lib.hid (CE.out hL)
    have hl1 := HLEN.out hL
    obtain ⟨bn, hbn⟩ : ∃ bn, bn = bs.length := ⟨_, rfl⟩
    have hbp : 0 < bn := by rw [hbn]; exact List.length_pos_iff.2 hbs
    obtain ⟨j, hj⟩ : ∃ j : Nat, (m : Int) % (bn : Int) = j := ⟨m % bn, by omega⟩
    have hjl : j < bn := by
      have := Int.emod_lt_of_pos (m : Int) (show (0 : Int) < bn by omega)
      omega
    rw [← hbn] at hl1
    have hz : ((⟨0, ⟨#[]⟩, ⟨#[]⟩, ⟨#[]⟩, ⟨#[]⟩, 0, 0, [], 0, 0, 0⟩ : Rq)) = zeroQ := rfl
    have hc1 : decE k (bs.take j) = 1 := HCUT.out hE (bs.take j) (bs.drop j) (List.take_append_drop j bs).symm (by
      intro h
      have := congrArg List.length h
      simp at this
      omega)
    have hc2 : decE k (bs ++ [y]) = 1 := HMORE.out hE [y] (by simp)
    have cD := fun (l : List UInt8) (he : decE k l = 1) (hll : l.length ≤ 1099511627776) v W (hs : Src W v l) (hg : GL W) => decode_calls k v l W hs hll hg
    have cD1 : ∀ (l : List UInt8), decE k l = 1 → l.length ≤ 1099511627776 → ∀ v W, Src W v l → GL W → Calls Tryz.prog 14 #[.int .i64 k, v] W fun e w' => ∃ A c, e = .returned (.tuple #[.agg #[.int .i64 0, .string ⟨#[]⟩, .string ⟨#[]⟩, .string ⟨#[]⟩, .string ⟨#[]⟩, .int .i64 0, .int .i64 0, .slice A 0 c, .int .i64 0, .int .i64 0, .int .i64 0], .int .i64 1]) ∧ Below W.heap.size W w' := by
      intro l he hll v W hs hg
      refine (cD l he hll v W hs hg).mono ?_
      rintro e w' ⟨A, c, rfl, _, hb⟩
      have hq : decR k l = zeroQ := by unfold decR; rw [he]; rfl
      exact ⟨A, c, by rw [hq, he]; rfl, hb⟩
    have CD1 := Lib.hid (cD1 (bs.take j) hc1 (by simp; omega))
    have CD2 := Lib.hid (cD1 (bs ++ [y]) hc2 (by simp; omega))
    have HBN := Lib.hid hbn
    have HL1 := Lib.hid hl1
    subst hL
    subst hE
    clear CE hz hc1 hc2 cD cD1 hbn hbs hl1
    have HJ := Lib.hid hj
    have hb0' : ((bn : Int) == 0) = false := beq_eq_false_iff_ne.2 (by omega)
    go_wp2_with fail
    refine (CE1.out _ (HO.out.below hbw2) (HG.out.below hbw2)).mono ?_
    rintro e w3 ⟨v3, rfl, hr3, _, hb3⟩
    have hr3 := hr3 rfl
    obtain ⟨g3, c3, hv3, hg3, hgl3, _⟩ := hr3.at_ (by rw [← HBN.out]; exact hbp)
    rw [← HBN.out] at hv3
    subst hv3
    have hle := hr3.le
    rw [← HBN.out] at hle
    have hbw3 := below_step hbw2 hbw2.size hb3
    have hB3 := hB2.step hb3
    clear q0 q1 q2 q3 q4 q5 q6 q7 q8 q9 q10
    obtain ⟨q0, q1, q2, q3, q4, q5, q6, q7, q8, q9, q10⟩ := Box.tuple11 hB3
    have HR3 := Lib.hid hr3
    have HBW3 := Lib.hid hbw3
    have HB3 := Lib.hid hB3
    have HS1 := Lib.hid (show Src w3 (.slice (some ⟨g3, 0, none⟩) j c3) (bs.take j) by
      have h1 := ((hr3.cut j (by rw [← HBN.out]; omega) (by simp)).src)
      exact h1)
    clear hr3 hbw3 hB3 hb3 hbw2 hB2
    have hjt : Int.tmod (m : Int) (bn : Int) = j := by rw [Int.tmod_eq_emod_of_nonneg (by omega)]; exact hj
    have hqw : w.heap.size < w3.heap.size := HB3.out.1
    have q0k := fun o => ((HB3.out.alloc o).drew).cell 0 rfl
    clear q1 q2 q3 q4 q5 q6 q7 q8 q9 q10 HW CE1 CF CL HNIL HCUT HMORE HLEN
    go_upto_region 8 with (fail)
    go_cut [10] from 13 (fun s10 wr => s10 = .int .i64 1 ∧ Below w3.heap.size w3 wr)
    case first =>
      have i1 : (0 : Int) < (bn : Int) := by omega
      have i2 : (0 : Int) ≤ (j : Int) := by omega
      have i3 : (j : Int) ≤ (bn : Int) := by omega
      have i4 : (j : Int) ≤ (c3 : Int) := by omega
      have i5 : (bn : Int) ≠ 0 := by omega
      have i6 : j ≤ c3 := by omega
      have i7 : bn ≠ 0 := by omega
      have KS := Lib.hid (fun W (h : Below w3.heap.size w3 W) => (show W.cell? ⟨w.heap.size, 0, none⟩ = some (.int .i64 k) ∧ Below w3.heap.size w3 W from ⟨(h.cell (p := ⟨w.heap.size, 0, none⟩) HB3.out.1).trans (HB3.out.cell 0 rfl), h⟩))
      have CDW : Hid (∀ W, Below w3.heap.size w3 W → Calls Tryz.prog 14 #[.int .i64 k, .slice (some ⟨g3, 0, none⟩) j c3] W fun e w' => ∃ A c, e = .returned (.tuple #[.agg #[.int .i64 0, .string ⟨#[]⟩, .string ⟨#[]⟩, .string ⟨#[]⟩, .string ⟨#[]⟩, .int .i64 0, .int .i64 0, .slice A 0 c, .int .i64 0, .int .i64 0, .int .i64 0], .int .i64 1]) ∧ Below W.heap.size W w' ∧ Below w3.heap.size w3 w') := fun W h =>
        (CD1.out _ _ (HS1.out.below h) (HG.out.below (HBW3.out.trans (h.mono HBW3.out.size)))).mono fun e w' ⟨A, c, he, hb⟩ => ⟨A, c, he, hb, below_step h h.size hb⟩
      have HBZ := Lib.hid ((Box.new w3 #[.int .i64 0, .string ⟨#[]⟩, .string ⟨#[]⟩, .string ⟨#[]⟩, .string ⟨#[]⟩, .int .i64 0, .int .i64 0, .slice none 0 0, .int .i64 0, .int .i64 0, .int .i64 0] 26).drew)
      clear HB3 HBW3 HG HO HN HR3 CD2 CD1 HBN HJ HL1 HS1 q0 q0k
      go_region_held3 (fun W => W.cell? ⟨w.heap.size, 0, none⟩ = some (.int .i64 k) ∧ Below w3.heap.size w3 W)
        (first | (with_reducible assumption) | (with_reducible refine KS.out _ ?_; repeat' (first | (with_reducible assumption) | (with_reducible exact Below.refl _ _) | (with_reducible apply Below.drew) | (with_reducible apply Below.alloc) | (with_reducible apply Below.setCell) | (with_reducible exact Nat.le_refl _) | omega | (simp; done) | (simp; omega))))
        (first
          | (go_at_call 14; refine (CDW.out _ (‹_ ∧ Below w3.heap.size w3 _›).2).mono ?_; rintro e w4 ⟨A4, c4, rfl, hb4, hbw4⟩; have hs4 := hb4.size; have hs3 := hbw4.size; try (have hBZ4 := HBZ.out.step hb4; obtain ⟨z0, z1, z2, z3, z4, z5, z6, z7, z8, z9, z10⟩ := Box.tuple11 hBZ4; obtain ⟨y0, y1, y2, y3, y4, y5, y6, y7, y8, y9, y10⟩ := Box.free11 hBZ4; clear hBZ4)))
      all_goals
        have hbf := (‹_ ∧ Below w3.heap.size w3 _›).2
        go_wp2_with fail
        go_meet
        case rel => exact ⟨rfl, by repeat' (first | (with_reducible assumption) | (with_reducible apply Below.alloc) | (with_reducible apply Below.setCell) | omega | (simp; done) | (simp; omega))⟩
    case rest =>
      obtain ⟨rfl, hbc⟩ := hcut
      have hzc := hbc.size
      have HBWc := Lib.hid (below_step HBW3.out HBW3.out.size hbc)
      have hBc := HB3.out.step hbc
      have hRc := HR3.out.below hbc
      have hxc := hRc.ofRow
      have KS := Lib.hid (fun W (h : Below wc.heap.size wc W) => (show W.cell? ⟨w.heap.size, 0, none⟩ = some (.int .i64 k) ∧ Below wc.heap.size wc W from ⟨(h.cell (p := ⟨w.heap.size, 0, none⟩) hBc.1).trans (hBc.cell 0 rfl), h⟩))
      have XC := Lib.hid (fun W (h : Below wc.heap.size wc W) => (show ∀ i (hi : i < bs.length), W.cell? ((⟨g3, 0, none⟩ : Addr).add i) = some (.int .u8 ((bs[i].toNat : Nat) : Int)) from fun i hi => (h.cell (p := (⟨g3, 0, none⟩ : Addr).add i) (by rw [add_block]; exact hxc.2.1)).trans (hxc.2.2 i hi)))
      have CDW : Hid (∀ W v, Below wc.heap.size wc W → Src W v (bs ++ [y]) → Calls Tryz.prog 14 #[.int .i64 k, v] W fun e w' => ∃ A c, e = .returned (.tuple #[.agg #[.int .i64 0, .string ⟨#[]⟩, .string ⟨#[]⟩, .string ⟨#[]⟩, .string ⟨#[]⟩, .int .i64 0, .int .i64 0, .slice A 0 c, .int .i64 0, .int .i64 0, .int .i64 0], .int .i64 1]) ∧ Below W.heap.size W w' ∧ Below wc.heap.size wc w') := fun W v h hs =>
        (CD2.out v W hs (HG.out.below (HBWc.out.trans (h.mono HBWc.out.size)))).mono fun e w' ⟨A, c, he, hb⟩ => ⟨A, c, he, hb, below_step h h.size hb⟩
      have HP := Lib.hid (show 0 < bs.length by rw [← HBN.out]; exact hbp)
      have HLB := Lib.hid (show ([] : List UInt8).length + bs.length ≤ 140737488355328 by have := HL1.out; rw [← HBN.out]; simp; omega)
      have HLC := Lib.hid (show bs.length + [y].length ≤ 140737488355328 by have := HL1.out; rw [← HBN.out]; simp; omega)
      have HK1 := Lib.hid (show ([] : List UInt8).length + bs.length = bn by rw [HBN.out]; simp)
      have HK2 := Lib.hid (show bs.length + [y].length = bn + 1 by rw [HBN.out]; simp)
      have hwc : w.heap.size ≤ wc.heap.size := HBWc.out.size
      clear hjt hqw q0 q0k HB3 HBW3 HO HN HR3 CD2 CD1 HJ HL1 HS1 hBc hRc hxc HG hbc
      go_wp2
      go_region_held3 (fun W => W.cell? ⟨w.heap.size, 0, none⟩ = some (.int .i64 k) ∧ Below wc.heap.size wc W)
        (first | (with_reducible assumption) | (with_reducible refine KS.out _ ?_; repeat' (first | (with_reducible assumption) | (with_reducible exact Below.refl _ _) | (with_reducible apply Below.drew) | (with_reducible apply Below.alloc) | (with_reducible apply Below.setCell) | (with_reducible exact Nat.le_refl _) | omega | (simp; done) | (simp; omega))))
        (first
          | (refine step_append_bytes (w0 := wc) rfl _ _ rfl wc.heap.size (v := .slice (some ⟨_, 0, none⟩) 0 0) (l := []) (m := bs) (ad := ⟨g3, 0, none⟩) (cm := c3) ?_ rfl bn rfl HBN.out ?_ HP.out ?_ (Nat.le_refl _) HLB.out bn HK1.out ?_; (focus (repeat (first | ((with_reducible refine Row.emptyN _ _ _ ?_ ?_); (focus (first | omega | (simp; done) | (simp; omega))); (first | omega | (simp; done) | (simp; omega))) | (with_reducible apply Row.alloc) | (with_reducible apply Row.drew1)))); (focus (refine XC.out _ ?_; repeat' (first | (with_reducible assumption) | (with_reducible exact Below.refl _ _) | (with_reducible apply Below.drew) | (with_reducible apply Below.alloc) | (with_reducible apply Below.setCell) | (with_reducible exact Nat.le_refl _) | omega | (simp; done) | (simp; omega)))); (focus (repeat' (first | (with_reducible assumption) | (with_reducible exact Below.refl _ _) | (with_reducible apply Below.drew) | (with_reducible apply Below.alloc) | (with_reducible apply Below.setCell) | (with_reducible exact Nat.le_refl _) | omega | (simp; done) | (simp; omega)))); intro g6 c6 w6 hr6 hb6 hc6 hx6 hq6 hl6; simp only [List.nil_append] at hr6; have hs6 := hb6.size)
          | (refine step_append_bytes (w0 := wc) rfl _ _ rfl wc.heap.size (v := .slice (some ⟨g6, 0, none⟩) bn c6) (l := bs) (m := [y]) ?_ rfl 1 rfl rfl ?_ Nat.one_pos ?_ (Nat.le_refl _) HLC.out (bn + 1) HK2.out ?_; (focus (repeat (first | (with_reducible exact hr6) | (with_reducible apply Row.alloc) | (with_reducible apply Row.drew1)))); (focus (refine one_cell ?_; repeat (first | (with_reducible assumption) | ((with_reducible refine cell_newN _ _ _ _ ?_); first | omega | (simp; done) | (simp; omega)) | (with_reducible apply cell_alloc) | (with_reducible apply cell_drew) | ((with_reducible refine hc6 _ _ _ ?_ ?_); (focus (first | (simp [Value.ownBlock]; done) | (simp [Value.ownBlock]; omega))))))); (focus (repeat' (first | (with_reducible assumption) | (with_reducible exact Below.refl _ _) | (with_reducible apply Below.drew) | (with_reducible apply Below.alloc) | (with_reducible apply Below.setCell) | (with_reducible exact Nat.le_refl _) | omega | (simp; done) | (simp; omega)))); intro g7 c7 w7 hr7 hb7 hc7 hx7 hq7 hl7; have hs7 := hb7.size)
          | (go_at_call 14; refine (CDW.out _ _ ?_ ?_).mono ?_; (focus (repeat' (first | (with_reducible assumption) | (with_reducible exact Below.refl _ _) | (with_reducible apply Below.drew) | (with_reducible apply Below.alloc) | (with_reducible apply Below.setCell) | (with_reducible exact Nat.le_refl _) | omega | (simp; done) | (simp; omega)))); (focus (refine Row.src (B := wc.heap.size) ?_; repeat (first | (with_reducible exact hr7) | (with_reducible apply Row.alloc) | (with_reducible apply Row.drew1)))); rintro e w8 ⟨A8, c8, rfl, hb8, hbw8⟩; have hs8 := hb8.size; have hs9 := hbw8.size; (try (refine (have hz : Box w8 wc.heap.size [.int .i64 0, .string ⟨#[]⟩, .string ⟨#[]⟩, .string ⟨#[]⟩, .string ⟨#[]⟩, .int .i64 0, .int .i64 0, .slice none 0 0, .int .i64 0, .int .i64 0, .int .i64 0] := Box.step ?_ hb8; ?_); (focus ((repeat (first | ((with_reducible refine Box.newN _ _ _ _ _ ?_ rfl); first | omega | (simp; done) | (simp; omega)) | (with_reducible apply Box.alloc) | (with_reducible apply Box.drew) | ((with_reducible refine hx7 _ _ ?_ ?_); (focus (first | (simp [Value.ownBlock]; done) | (simp [Value.ownBlock]; omega) | (refine hq6 _ [.int .i64 0, .string ⟨#[]⟩, .string ⟨#[]⟩, .string ⟨#[]⟩, .string ⟨#[]⟩, .int .i64 0, .int .i64 0, .slice none 0 0, .int .i64 0, .int .i64 0, .int .i64 0] ?_ ?_; (focus (first | (simp [Value.ownBlock]; done) | (simp [Value.ownBlock]; omega))); ((repeat (first | ((with_reducible refine Box.newN _ _ _ _ _ ?_ rfl); first | omega | (simp; done) | (simp; omega)) | (with_reducible apply Box.alloc) | (with_reducible apply Box.drew))); done))))) | ((with_reducible refine hx6 _ _ ?_ ?_); (focus (first | (simp [Value.ownBlock]; done) | (simp [Value.ownBlock]; omega)))))); done)); obtain ⟨z0, z1, z2, z3, z4, z5, z6, z7, z8, z9, z10⟩ := Box.tuple11 hz; obtain ⟨y0, y1, y2, y3, y4, y5, y6, y7, y8, y9, y10⟩ := Box.free11 hz; clear hz)); (try (refine (have hz : Box w8 (wc.heap.size + 1) [.int .i64 0, .string ⟨#[]⟩, .string ⟨#[]⟩, .string ⟨#[]⟩, .string ⟨#[]⟩, .int .i64 0, .int .i64 0, .slice none 0 0, .int .i64 0, .int .i64 0, .int .i64 0] := Box.step ?_ hb8; ?_); (focus ((repeat (first | ((with_reducible refine Box.newN _ _ _ _ _ ?_ rfl); first | omega | (simp; done) | (simp; omega)) | (with_reducible apply Box.alloc) | (with_reducible apply Box.drew) | ((with_reducible refine hx7 _ _ ?_ ?_); (focus (first | (simp [Value.ownBlock]; done) | (simp [Value.ownBlock]; omega) | (refine hq6 _ [.int .i64 0, .string ⟨#[]⟩, .string ⟨#[]⟩, .string ⟨#[]⟩, .string ⟨#[]⟩, .int .i64 0, .int .i64 0, .slice none 0 0, .int .i64 0, .int .i64 0, .int .i64 0] ?_ ?_; (focus (first | (simp [Value.ownBlock]; done) | (simp [Value.ownBlock]; omega))); ((repeat (first | ((with_reducible refine Box.newN _ _ _ _ _ ?_ rfl); first | omega | (simp; done) | (simp; omega)) | (with_reducible apply Box.alloc) | (with_reducible apply Box.drew))); done))))) | ((with_reducible refine hx6 _ _ ?_ ?_); (focus (first | (simp [Value.ownBlock]; done) | (simp [Value.ownBlock]; omega)))))); done)); obtain ⟨z0, z1, z2, z3, z4, z5, z6, z7, z8, z9, z10⟩ := Box.tuple11 hz; obtain ⟨y0, y1, y2, y3, y4, y5, y6, y7, y8, y9, y10⟩ := Box.free11 hz; clear hz)); (try (refine (have hz : Box w8 (wc.heap.size + 2) [.int .i64 0, .string ⟨#[]⟩, .string ⟨#[]⟩, .string ⟨#[]⟩, .string ⟨#[]⟩, .int .i64 0, .int .i64 0, .slice none 0 0, .int .i64 0, .int .i64 0, .int .i64 0] := Box.step ?_ hb8; ?_); (focus ((repeat (first | ((with_reducible refine Box.newN _ _ _ _ _ ?_ rfl); first | omega | (simp; done) | (simp; omega)) | (with_reducible apply Box.alloc) | (with_reducible apply Box.drew) | ((with_reducible refine hx7 _ _ ?_ ?_); (focus (first | (simp [Value.ownBlock]; done) | (simp [Value.ownBlock]; omega) | (refine hq6 _ [.int .i64 0, .string ⟨#[]⟩, .string ⟨#[]⟩, .string ⟨#[]⟩, .string ⟨#[]⟩, .int .i64 0, .int .i64 0, .slice none 0 0, .int .i64 0, .int .i64 0, .int .i64 0] ?_ ?_; (focus (first | (simp [Value.ownBlock]; done) | (simp [Value.ownBlock]; omega))); ((repeat (first | ((with_reducible refine Box.newN _ _ _ _ _ ?_ rfl); first | omega | (simp; done) | (simp; omega)) | (with_reducible apply Box.alloc) | (with_reducible apply Box.drew))); done))))) | ((with_reducible refine hx6 _ _ ?_ ?_); (focus (first | (simp [Value.ownBlock]; done) | (simp [Value.ownBlock]; omega)))))); done)); obtain ⟨z0, z1, z2, z3, z4, z5, z6, z7, z8, z9, z10⟩ := Box.tuple11 hz; obtain ⟨y0, y1, y2, y3, y4, y5, y6, y7, y8, y9, y10⟩ := Box.free11 hz; clear hz)); (try (refine (have hz : Box w8 w6.heap.size [.int .i64 0, .string ⟨#[]⟩, .string ⟨#[]⟩, .string ⟨#[]⟩, .string ⟨#[]⟩, .int .i64 0, .int .i64 0, .slice none 0 0, .int .i64 0, .int .i64 0, .int .i64 0] := Box.step ?_ hb8; ?_); (focus ((repeat (first | ((with_reducible refine Box.newN _ _ _ _ _ ?_ rfl); first | omega | (simp; done) | (simp; omega)) | (with_reducible apply Box.alloc) | (with_reducible apply Box.drew) | ((with_reducible refine hx7 _ _ ?_ ?_); (focus (first | (simp [Value.ownBlock]; done) | (simp [Value.ownBlock]; omega) | (refine hq6 _ [.int .i64 0, .string ⟨#[]⟩, .string ⟨#[]⟩, .string ⟨#[]⟩, .string ⟨#[]⟩, .int .i64 0, .int .i64 0, .slice none 0 0, .int .i64 0, .int .i64 0, .int .i64 0] ?_ ?_; (focus (first | (simp [Value.ownBlock]; done) | (simp [Value.ownBlock]; omega))); ((repeat (first | ((with_reducible refine Box.newN _ _ _ _ _ ?_ rfl); first | omega | (simp; done) | (simp; omega)) | (with_reducible apply Box.alloc) | (with_reducible apply Box.drew))); done))))) | ((with_reducible refine hx6 _ _ ?_ ?_); (focus (first | (simp [Value.ownBlock]; done) | (simp [Value.ownBlock]; omega)))))); done)); obtain ⟨z0, z1, z2, z3, z4, z5, z6, z7, z8, z9, z10⟩ := Box.tuple11 hz; obtain ⟨y0, y1, y2, y3, y4, y5, y6, y7, y8, y9, y10⟩ := Box.free11 hz; clear hz)); (try (refine (have hz : Box w8 (w6.heap.size + 1) [.int .i64 0, .string ⟨#[]⟩, .string ⟨#[]⟩, .string ⟨#[]⟩, .string ⟨#[]⟩, .int .i64 0, .int .i64 0, .slice none 0 0, .int .i64 0, .int .i64 0, .int .i64 0] := Box.step ?_ hb8; ?_); (focus ((repeat (first | ((with_reducible refine Box.newN _ _ _ _ _ ?_ rfl); first | omega | (simp; done) | (simp; omega)) | (with_reducible apply Box.alloc) | (with_reducible apply Box.drew) | ((with_reducible refine hx7 _ _ ?_ ?_); (focus (first | (simp [Value.ownBlock]; done) | (simp [Value.ownBlock]; omega) | (refine hq6 _ [.int .i64 0, .string ⟨#[]⟩, .string ⟨#[]⟩, .string ⟨#[]⟩, .string ⟨#[]⟩, .int .i64 0, .int .i64 0, .slice none 0 0, .int .i64 0, .int .i64 0, .int .i64 0] ?_ ?_; (focus (first | (simp [Value.ownBlock]; done) | (simp [Value.ownBlock]; omega))); ((repeat (first | ((with_reducible refine Box.newN _ _ _ _ _ ?_ rfl); first | omega | (simp; done) | (simp; omega)) | (with_reducible apply Box.alloc) | (with_reducible apply Box.drew))); done))))) | ((with_reducible refine hx6 _ _ ?_ ?_); (focus (first | (simp [Value.ownBlock]; done) | (simp [Value.ownBlock]; omega)))))); done)); obtain ⟨z0, z1, z2, z3, z4, z5, z6, z7, z8, z9, z10⟩ := Box.tuple11 hz; obtain ⟨y0, y1, y2, y3, y4, y5, y6, y7, y8, y9, y10⟩ := Box.free11 hz; clear hz)); (try (refine (have hz : Box w8 w7.heap.size [.int .i64 0, .string ⟨#[]⟩, .string ⟨#[]⟩, .string ⟨#[]⟩, .string ⟨#[]⟩, .int .i64 0, .int .i64 0, .slice none 0 0, .int .i64 0, .int .i64 0, .int .i64 0] := Box.step ?_ hb8; ?_); (focus ((repeat (first | ((with_reducible refine Box.newN _ _ _ _ _ ?_ rfl); first | omega | (simp; done) | (simp; omega)) | (with_reducible apply Box.alloc) | (with_reducible apply Box.drew) | ((with_reducible refine hx7 _ _ ?_ ?_); (focus (first | (simp [Value.ownBlock]; done) | (simp [Value.ownBlock]; omega) | (refine hq6 _ [.int .i64 0, .string ⟨#[]⟩, .string ⟨#[]⟩, .string ⟨#[]⟩, .string ⟨#[]⟩, .int .i64 0, .int .i64 0, .slice none 0 0, .int .i64 0, .int .i64 0, .int .i64 0] ?_ ?_; (focus (first | (simp [Value.ownBlock]; done) | (simp [Value.ownBlock]; omega))); ((repeat (first | ((with_reducible refine Box.newN _ _ _ _ _ ?_ rfl); first | omega | (simp; done) | (simp; omega)) | (with_reducible apply Box.alloc) | (with_reducible apply Box.drew))); done))))) | ((with_reducible refine hx6 _ _ ?_ ?_); (focus (first | (simp [Value.ownBlock]; done) | (simp [Value.ownBlock]; omega)))))); done)); obtain ⟨z0, z1, z2, z3, z4, z5, z6, z7, z8, z9, z10⟩ := Box.tuple11 hz; obtain ⟨y0, y1, y2, y3, y4, y5, y6, y7, y8, y9, y10⟩ := Box.free11 hz; clear hz))))
      all_goals
        have hbf := (‹_ ∧ Below wc.heap.size wc _›).2
        go_wp2
        go_ret
        refine ⟨rfl, below_step HBWc.out HBWc.out.size ?_⟩
        repeat' (first | (with_reducible assumption) | (with_reducible exact Below.refl _ _) | (with_reducible apply Below.drew) | (with_reducible apply Below.alloc) | (with_reducible apply Below.setCell) | (with_reducible exact Nat.le_refl _) | omega | (simp; done) | (simp; omega))
theorem reqCut_calls (q : Rq) (A : Option Addr) (c : Nat) (at0 x : Int) (w : World) (hO : OpsAt w A q.ops) (hS : Sizes q) (wx : (Lit.int .u8 x).wf = true) (hG : GL w) :
    Calls Tryz.prog 3 #[q.val A c, .int .i64 at0, .int .u8 x] w fun e w' => e = .returned (.bool true) ∧ Below w.heap.size w w' := by
  have hx := bounds_u8 wx
  have := reqCut_byte q A c at0 (UInt8.ofNat x.toNat) w hO hS hG
  rwa [show (((UInt8.ofNat x.toNat).toNat : Nat) : Int) = x by rw [UInt8.toNat_ofNat']; omega] at this
end Go.Proofs.YtcmoidldalgljaaGreatDoor
set_option linter.unusedVariables false
set_option linter.unusedSimpArgs false
namespace Go.Proofs.YtcmoidldalgljaaGreatDoor
open Go.RowKit Go.ChangeShapes Go.WideShapes Go.ChangeAt Go.Deep
open Hen

set_option maxRecDepth 100000 in
set_option maxHeartbeats 4000000 in
theorem reqCut_lifted (os : Os) (started : os.Started) (H : Type) (enc : TypeId × Value → H) :
    ReturnsInHanded {} Tryz.checked os 3 .any (fun w args => (Rows.reqCutSpec.pre enc Tryz.prog Tryz.f3 [] false w args ∧ laidMetH Tryz.prog laid5 w) ∧ sizedMet enc Tryz.prog Tryz.f3 (OpenSpec.ofChange Rows.reqCutSpec) false w args)
      (Rows.reqCutSpec.post enc Tryz.prog Tryz.f3 false true false false) := by
  refine wrap (C := Tryz.checked) (X := fun w _ => laidMetH Tryz.prog laid5 w) (fun _ _ _ hh h => h.of_heap hh) own started (by kernel_rfl) Tryz.func3
    (ChangeSpec.witness_shaped (enc := enc) (C := Tryz.checked) (os := os) (X := fun w _ => laidMetH Tryz.prog laid5 w) false (World.laidAll Tryz.prog os laid5) #[.agg #[.int .i64 0, .string ⟨#[]⟩, .string ⟨#[]⟩, .string ⟨#[]⟩, .string ⟨#[]⟩, .int .i64 0, .int .i64 0, .slice none 0 0, .int .i64 0, .int .i64 0, .int .i64 0], .int .i64 0, .int .u8 0] 8 (World.laidAll_os _ _ _)
      (World.shaped_of_ZipB (by kernel_rfl) (by kernel_rfl)) (by kernel_rfl) (by kernel_rfl) (by kernel_rfl)
      (by rw [MakeChecks.laidMetH_plain _ _ _ (by kernel_rfl)]; exact laidMet_laidAll _ (by kernel_rfl) (by kernel_rfl))) ?_
  intro W base args ds gs before hval0 hW hsz0 hL hsh
  have hval : ∀ (j : Nat) t v, Tryz.f3.params[j]? = some t → args[j]? = some v → Value.okWide Tryz.prog W .any base t v := hval0
  have hW' := hW
  obtain ⟨p, q, hA0, hV, rfl, hfz, hnd⟩ := hW
  have hA : DataW.TrodAll enc Tryz.prog W 0 (fun _ => true) true Tryz.f3.params.toList args.toList ds p := hA0
  have hsz : (DataW.weightsEach Tryz.prog (Tryz.f3.params.toList ++ Rows.reqCutSpec.plain.varTypes Tryz.prog) (ds ++ gs)).all (· ≤ reachBytes) = true := hsz0
  rw [Tryz.params3] at hA hval hsz
  obtain ⟨v0, v1, v2, d0, d1, d2, p0, p1, p2, rfl, rfl, rfl, h0, h1, h2⟩ := trodAll_three hA
  obtain ⟨rfl, rfl⟩ := trodVars_none hV
  have k0 := h0
  obtain ⟨cs0, rfl, _⟩ := okWide_struct Tryz.underlying26 (hval 0 26 v0 rfl rfl)
  obtain ⟨fuel0, hf0⟩ := h0
  obtain ⟨q0, A0, c0, hc0, hO0, hS0⟩ := req_of_cells hf0 (Bd.arg hsz (j := 0) rfl rfl)
  have hv0 : Value.agg cs0 = q0.val A0 c0 := Rq.cells_val _ _ _ _ _ rfl hc0
  obtain ⟨x1, rfl, rfl, rfl, w1⟩ := open_int Tryz.underlying3 (hval 1 3 v1 rfl rfl) h1
  obtain ⟨x2, rfl, rfl, rfl, w2⟩ := open_int Tryz.underlying5 (hval 2 5 v2 rfl rfl) h2
  clear hA0 hval0
  simp only [List.append_nil, List.nil_append] at hW'
  have hcall := reqCut_calls q0 A0 c0 x1 x2 W hO0 hS0 w2 (gl_of_laid hL hsh)
  rw [← hv0] at hcall
  refine hcall.mono fun e W' ⟨he, hb⟩ => ?_
  subst he
  refine ⟨_, rfl, post_of_below (pa := p0) (pv := []) hW' (fun _ _ _ => trodAll_mk1 (shut_bool Tryz.underlying4 _)) (fun sp hsp => ?_) (fun _ _ => rfl) (by simp) hb (ok_one (by kernel_rfl) rfl (okWide_bool_mk Tryz.underlying4 _))⟩
  have : DataW.TrodAll enc Tryz.prog W' 0 sp true [26, 3, 5] [.agg cs0, .int .i64 x1, .int .u8 x2] [d0, .lit (.int .i64 x1), .lit (.int .u8 x2)] _ := trodAll_mk3 (trod_later laidOut (by kernel_rfl) (of_decide_eq_true (by kernel_rfl)) k0 hb (fun x hx => hW'.lt x (by simp [hx])) (fun x hx => hsp x (by simp [hx]))) (shut_int Tryz.underlying3 w1) (shut_int Tryz.underlying5 w2)
  simp only [List.append_nil, List.nil_append] at this
  exact this

theorem reqCut_row : Rows.ReqCutSaid :=
  OpenClaim.holds_of_wide 3 Tryz.f3 rfl rfl rfl rfl rfl rfl rfl ⟨rfl, rfl, rfl, rfl, rfl⟩ rfl rfl rfl rfl rfl (by kernel_rfl) Tryz.func3 (by kernel_rfl)
    (of_decide_eq_true (by kernel_rfl)) (by unfold Func.isWrapper; first | (rw [if_pos (by decide +kernel)]; kernel_rfl) | (rw [if_neg (by decide +kernel)]; exact ⟨rfl, rfl⟩))
    (fun os started H enc _ => reqCut_lifted os started H enc)
theorem reqCut_holds : Rows.ReqCutCardSaid :=
  Claim7.holds_tied_plain_at .later [] [.data, .data, .data, .data, .pinned] true Rows.reqCutCard.stood.harness false
    reqCut_row (fun _ h => by cases h) (by kernel_rfl) (fun _ h => by cases h) reqCut_row_tie rfl ⟨rfl, rfl⟩ (by kernel_rfl) rfl
    (fun f fn hf hfn => by
      obtain rfl : f = 3 := Option.some.inj ((show Tryz.prog.funcNamed "henhouse/henlaw12.ReqCut" = some 3 by kernel_rfl).symm.trans hf) |>.symm
      obtain rfl : fn = Tryz.f3 := (Option.some.inj (Tryz.func3.symm.trans hfn)).symm
      exact ⟨by kernel_rfl, fun j t ht => by
        rw [Tryz.params3] at ht
        have hm : t ∈ [26, 3, 5] := by simpa using Array.mem_of_getElem? ht
        have hall : ([26, 3, 5].all fun u => !Tryz.prog.wantsStandIn u) = true := by kernel_rfl
        exact (show Tryz.prog.wantsStandIn t = false by simpa using List.all_eq_true.1 hall t hm)⟩)
    (by kernel_rfl)
#print axioms reqCut_holds
end Go.Proofs.YtcmoidldalgljaaGreatDoor

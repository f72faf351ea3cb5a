/-
  The statement ReqNames: for every input the law returns true, and each argument reads afterwards as it read before; the row's listed variables (tables of Go's library) start as the program's text lays them, which the card ties.
-/
import Derived.Test.YtcmoidldalgljaaGreatDoorPw
import Derived.Deep.RegionLaw
set_option linter.unusedVariables false
set_option linter.unusedSimpArgs false
namespace Go.Proofs.YtcmoidldalgljaaGreatDoor
open Go.RowKit
open Hen

theorem uidK_size (i : Nat) : (⟨(uidK i).toArray⟩ : ByteArray).size = 1 := by simp [ByteArray.size, uidK]
theorem opsK_snoc (k : Nat) : opsK (k + 1) = opsK k ++ [opK k] := by simp [opsK, List.range_succ]

section
variable {ops : Array Oper} {o : Oper} {a : Act} {K : Act → World → Prop} {Q : Exit → Act → World → Prop} {E : Prop}
theorem step_append_op {W : World} (hgd : o.guard = none) (s x : Operand) (ho : o.op = .call { callee := .builtin .append, args := #[s, x], argTypes := #[24, 24] })
    (B : Nat) {v : Value} {l : List Opx} (y : Opx) {n : Nat} (HO : ORow W B v l) (hs : a.eval s = v) (hx : a.eval x = .slice (some ⟨n, 0, none⟩) 1 1) (hn : n = W.heap.size)
    (hB : B ≤ W.heap.size) (hl : l.length + 1 ≤ 4294967296) (m : Nat) (hm : l.length = m)
    (h : ∀ A c w1, ORow w1 B (.slice A (m + 1) c) (l ++ [y]) → (W.alloc (.cells #[.bool y.del, .string y.uid, .string y.card, .int .i64 y.ck, .int .i64 y.cv] 40)).grownBy w1 v.ownBlock → K (a.put o.dst (.slice A (m + 1) c)) w1) :
    if Region.wanted o (yielded ops a.tmps) = true then Oper.wp Tryz.prog o a (W.alloc (.cells #[.bool y.del, .string y.uid, .string y.card, .int .i64 y.ck, .int .i64 y.cv] 40)) K Q else E := by
  subst hn
  subst hm
  obtain ⟨i0, hi, hz0, hz1, hz2⟩ := info_parts infoOp
  refine step_append_lies (W.alloc (.cells #[.bool y.del, .string y.uid, .string y.card, .int .i64 y.ck, .int .i64 y.cv] 40)) hgd s x _ ho B _ i0 (.agg #[.bool false, .string ⟨#[]⟩, .string ⟨#[]⟩, .int .i64 0, .int .i64 0]) 5 56 Tryz.underlying24 hi hz0 hz1 hz2 rfl (by decide) v l.length (cellsO l) hs (World.ownsRow.alloc HO _) ⟨W.heap.size, 0, none⟩ 1 1 y.cells hx rfl
    (World.news_of_block (cs := #[.bool y.del, .string y.uid, .string y.card, .int .i64 y.ck, .int .i64 y.cv]) (t := 40) (fr := (0, 0)) (heap_alloc_new W _)) (cellsO1 y) (by decide) (by simp only [maxLen]; omega) (by omega) (by simp; omega) _ rfl ?_
  intro g cap w1 hown hg _ _
  have hr : ORow w1 B (.slice (some ⟨g, 0, none⟩) (l.length + 1) cap) (l ++ [y]) := by unfold ORow; simpa [cellsO] using hown
  exact h _ cap w1 hr hg
end
theorem Box.grown {w w1 : World} {b : Nat} {l : List Value} {row : Option Nat} (h : Box w b l) (hg : w.grownBy w1 row) (hne : row ≠ some b) : Box w1 b l :=
  ⟨Nat.lt_of_lt_of_le h.1 hg.size, fun i v hv => ⟨(hg.cell_far ⟨b, i, none⟩ h.1 (fun e => hne e.symm)).trans (h.2 i v hv).1, (hg.frozen_far ⟨b, i, none⟩ h.1 (fun e => hne e.symm)).trans (h.2 i v hv).2⟩⟩
theorem cellsO_set (l : List Opx) (a j : Nat) (ha : a < l.length) (hj : j < 5) (o : Opx) (u : Value) (h : o.cells = l[a]!.cells.set j u) : (cellsO l).set (a * 5 + j) u = cellsO (l.set a o) := by
  induction l generalizing a with
  | nil => simp at ha
  | cons x l ih =>
    have e : cellsO (x :: l) = x.cells ++ cellsO l := rfl
    have h5 : x.cells.length = 5 := rfl
    cases a with
    | zero =>
      have e2 : cellsO ((x :: l).set 0 o) = o.cells ++ cellsO l := rfl
      have h' : o.cells = x.cells.set j u := by simpa using h
      rw [e, e2, List.set_append_left _ _ (by rw [h5]; omega), h', Nat.zero_mul, Nat.zero_add]
    | succ a =>
      have e2 : cellsO ((x :: l).set (a + 1) o) = x.cells ++ cellsO (l.set a o) := rfl
      rw [e, e2, List.set_append_right _ _ (by rw [h5]; omega), h5, show (a + 1) * 5 + j - 5 = a * 5 + j by omega, ih a (by simpa using ha) (by simpa using h)]
theorem ORow.stored {w : World} {B g n c : Nat} {l : List Opx} (h : ORow w B (.slice (some ⟨g, 0, none⟩) n c) l) (a j : Nat) (ha : a < l.length) (hj : j < 5) (o : Opx) (u : Value) (ho : o.cells = l[a]!.cells.set j u) :
    ORow (w.setCell ⟨g, a * 5 + j, none⟩ u) B (.slice (some ⟨g, 0, none⟩) n c) (l.set a o) := by
  have hn : n = l.length := by
    obtain ⟨A, c', e⟩ := h.shape
    injection e
  subst hn
  have := (World.ownsRow.stored (w := w) h (a * 5 + j) u).1
  unfold ORow
  rw [List.length_set]
  rw [cellsO_set l a j ha hj o u ho] at this
  exact this
theorem ORow.cellAt {w : World} {B g n c : Nat} {l : List Opx} (h : ORow w B (.slice (some ⟨g, 0, none⟩) n c) l) (a j : Nat) (ha : a < l.length) (hj : j < 5) (u : Value) (hu : l[a]!.cells[j]? = some u) : w.cell? ⟨g, a * 5 + j, none⟩ = some u ∧ w.frozen? ⟨g, a * 5 + j, none⟩ = false := by
  have hn : n = l.length := by
    obtain ⟨A, c', e⟩ := h.shape
    injection e
  subst hn
  exact ⟨by rw [World.ownsRow.cellAt (w := w) h (a * 5 + j) (by omega), cellsO_get l a j ha hj, hu], World.ownsRow.frozenAt (w := w) h _⟩
theorem batch_check {ops : List Opx} {k : Nat} (hn : ops.length = k) {E : Int} (hE : checkE (batchQ ops) = E) (hf : Fits (batchQ ops)) (A : Option Addr) (c : Nat) (W : World) (hW : OpsAt W A ops) (hg : GL W) :
    Calls Tryz.prog 15 #[.agg #[.int .i64 7, .string ⟨#[]⟩, .string ⟨#[104, 111, 109, 101]⟩, .string ⟨#[]⟩, .string ⟨#[]⟩, .int .i64 0, .int .i64 0, .slice A k c, .int .i64 0, .int .i64 0, .int .i64 0]] W fun e w' => e = .returned (.int .i64 E) ∧ Below W.heap.size W w' := by
  subst hn
  subst hE
  exact check_q_calls (batchQ ops) A c W hW hf hg
theorem fits_batch (ops : List Opx) (hl : ops.length ≤ 8) (h : ∀ o ∈ ops, o.uid.size ≤ 100 ∧ o.card.size ≤ 100) : Fits (batchQ ops) :=
  ⟨(show (⟨#[]⟩ : ByteArray).size ≤ 140737488355327 by decide), (show (⟨#[104, 111, 109, 101]⟩ : ByteArray).size ≤ 140737488355327 by decide), (show (⟨#[]⟩ : ByteArray).size ≤ 140737488355327 by decide), (show (⟨#[]⟩ : ByteArray).size ≤ 140737488355327 by decide), Nat.le_trans hl (by decide), fun k hk => by
    have hk' : k < ops.length := hk
    have := h ops[k]! (by rw [getElem!_pos ops k hk']; exact List.getElem_mem _)
    exact ⟨Nat.le_trans this.1 (by decide), Nat.le_trans this.2 (by decide)⟩⟩
theorem opK_sizes (i : Nat) : (opK i).uid.size ≤ 100 ∧ (opK i).card.size ≤ 100 := by
  refine ⟨?_, ?_⟩
  · show (⟨(uidK i).toArray⟩ : ByteArray).size ≤ 100
    rw [uidK_size]; decide
  · show (⟨(cardK i).toArray⟩ : ByteArray).size ≤ 100
    have : (cardK i).length ≤ 100 := by unfold cardK; split <;> decide
    simpa [ByteArray.size] using this
theorem opsK_sizes {n : Nat} : ∀ o ∈ opsK n, o.uid.size ≤ 100 ∧ o.card.size ≤ 100 := fun o ho => by
  obtain ⟨i, _, rfl⟩ := List.mem_map.1 ho
  exact opK_sizes i
theorem opsK_get (n a : Nat) (h : a < n) : (opsK n)[a]! = opK a := by
  rw [getElem!_pos _ a (by rw [opsK_len]; exact h)]
  simp [opsK]
theorem set_sizes {n a : Nat} {o : Opx} (h : o.uid.size ≤ 100 ∧ o.card.size ≤ 100) : ∀ x ∈ (opsK n).set a o, x.uid.size ≤ 100 ∧ x.card.size ≤ 100 := fun x hx => by
  rcases mem_set hx with h' | rfl
  · exact opsK_sizes x h'
  · exact h
def NamesRel (n : Nat) (w : World) (qb : Nat) (i : Value) (wr : World) : Prop :=
  ∃ (k : Nat) (A : Option Addr) (c : Nat), k ≤ n ∧ i = .int .i64 k ∧ Box wr qb [.int .i64 7, .string ⟨#[]⟩, .string ⟨#[104, 111, 109, 101]⟩, .string ⟨#[]⟩, .string ⟨#[]⟩, .int .i64 0, .int .i64 0, .slice A k c, .int .i64 0, .int .i64 0, .int .i64 0] ∧ ORow wr (qb + 1) (.slice A k c) (opsK k) ∧ Below w.heap.size w wr

theorem NamesRel.next {n k : Nat} {w wr w2 w5 : World} {qb : Nat} {A A5 : Option Addr} {c c5 : Nat} (hlt : k < n) (hB5 : Box w5 qb [.int .i64 7, .string ⟨#[]⟩, .string ⟨#[104, 111, 109, 101]⟩, .string ⟨#[]⟩, .string ⟨#[]⟩, .int .i64 0, .int .i64 0, .slice A k c, .int .i64 0, .int .i64 0, .int .i64 0])
    (hr5 : ORow w5 (qb + 1) (.slice A5 (k + 1) c5) (opsK k ++ [opK k])) (hbw : Below w.heap.size w wr) (hb2 : Below wr.drew.heap.size wr.drew w2) {v : Value} {o : Obj} (hg : (w2.alloc o).grownBy w5 v.ownBlock) (hv : ORow w2 (qb + 1) v (opsK k)) (hq : w.heap.size ≤ qb) :
    NamesRel n w qb (.int .i64 ((k : Int) + 1)) (w5.setCell ⟨qb, 7, none⟩ (.slice A5 (k + 1) c5)) := by
  have hw2 := below_step hbw.drew hbw.drew.size hb2
  refine ⟨k + 1, A5, c5, by omega, by go_num, hB5.set_ 7 (by simp) _, ?_, ((hw2.alloc hw2.size o).grown hg (by have := hw2.size; simp; omega) (fun j e => by have := (hv.lt j e).1; omega)).setCell (by simpa using hq) _⟩
  rw [opsK_snoc]
  exact hr5.far ⟨qb, 7, none⟩ (hr5.not2 (Nat.lt_succ_self _)) _

set_option maxHeartbeats 16000000 in
set_option maxRecDepth 100000 in
theorem reqNames_calls (n0 at0 bad : Int) (w : World) (hG : GL w) :
    Calls Tryz.prog 5 #[.int .i64 n0, .int .i64 at0, .int .i64 bad] w fun e w' => e = .returned (.bool true) ∧ Below w.heap.size w w' := by
  have cF := fun W (hg : GL W) => first12_calls W hg
  have hm := i64_and255 n0
  obtain ⟨m, hmn⟩ : ∃ m : Nat, n0 % 256 = m := ⟨(n0 % 256).toNat, by omega⟩
  rw [hmn] at hm
  have hml : m < 256 := by omega
  obtain ⟨n, hnn⟩ : ∃ n : Nat, n = 1 + m % 8 := ⟨_, rfl⟩
  have hn1 : 1 ≤ n := by omega
  have hn8 : n ≤ 8 := by omega
  have hnm : (1 : Int) + (m : Int) % 8 = (n : Int) := by omega
  have ha := i64_and255 at0
  obtain ⟨a0, haa⟩ : ∃ a0 : Nat, at0 % 256 = a0 := ⟨(at0 % 256).toNat, by omega⟩
  rw [haa] at ha
  obtain ⟨a, han⟩ : ∃ a : Nat, (a0 : Int) % (n : Int) = a := ⟨a0 % n, by omega⟩
  have hal : a < n := by
    have := Int.emod_lt_of_pos (a0 : Int) (show (0 : Int) < n by omega)
    omega
  have hb := i64_and255 bad
  obtain ⟨b, hbb⟩ : ∃ b : Nat, bad % 256 = b := ⟨(bad % 256).toNat, by omega⟩
  rw [hbb] at hb
  have HG := Lib.hid hG
  have CF := Lib.hid cF
  clear hG cF hmn haa hbb
  clear hnn
  have HAN := Lib.hid han
  clear han
  go_enter Tryz.func5, Tryz.ntmps5
  go_wp2_with fail
  refine (CF.out _ HG.out).mono ?_
  rintro e w1 ⟨rfl, hb1⟩
  go_wp2
  have hqb : w.heap.size ≤ w1.heap.size := hb1.size
  go_loopw [8] (fun i wr => NamesRel n w w1.heap.size i wr) (fun i _ => n - (intOf i).toNat)
  case atStart => exact ⟨0, none, 0, Nat.zero_le _, rfl, Box.new w1 #[.int .i64 7, .string ⟨#[]⟩, .string ⟨#[104, 111, 109, 101]⟩, .string ⟨#[]⟩, .string ⟨#[]⟩, .int .i64 0, .int .i64 0, .slice none 0 0, .int .i64 0, .int .i64 0, .int .i64 0] 26, ORow.nil_ _ _, hb1.alloc hqb _⟩
  case round =>
    obtain ⟨k, A, c, hk, rfl, hB, hr, hbw⟩ := hrel
    have q7 := hB.cell 7 rfl
    have hzq := hB.1
    by_cases hlt : k < n
    · have cU := fun W => uidK_calls k W (by omega)
      have cK := fun W => cardK_calls k W (by omega)
      have HB := Lib.hid hB
      have HR := Lib.hid hr
      have HBW := Lib.hid hbw
      have CU := Lib.hid cU
      have CK := Lib.hid cK
      clear hB hr hbw cU cK
      go_wp2
      go_region_law (first
        | (refine step_append_op rfl _ _ rfl (w1.heap.size + 1) (l := opsK k) (opK k) hr2 rfl rfl rfl hs2 hl2 k (opsK_len k) ?_; intro A5 c5 w5 hr5 hg5; have hB5 := (hB2.alloc (.cells #[.bool false, .string ⟨(uidK k).toArray⟩, .string ⟨(cardK k).toArray⟩, .int .i64 0, .int .i64 0] 40)).grown hg5 (hr2.not2 (Nat.lt_succ_self _)); have q75 := hB5.cell 7 rfl; have f75 := hB5.free 7 (v := .slice A k c) rfl)
        | (go_simp; go_at_call 16; refine (CU.out _).mono ?_; rintro e w2 ⟨rfl, rfl⟩)
        | (go_simp; go_at_call 17; refine (CK.out _).mono ?_; rintro e w2 ⟨rfl, hb2⟩; have hB2 := (HB.out.drew).step hb2; have hr2 := ORow.below (HR.out.below (Below.refl _ _).drew) hb2; have q72 := hB2.cell 7 rfl; have q7a := (hB2.alloc (.cells #[.bool false, .string ⟨(uidK k).toArray⟩, .string ⟨(cardK k).toArray⟩, .int .i64 0, .int .i64 0] 40)).cell 7 rfl; have hs2 : w1.heap.size + 1 ≤ w2.heap.size := hB2.1; have hl2 : (opsK k).length + 1 ≤ 4294967296 := by rw [opsK_len]; omega))
      all_goals
        have HN := Lib.hid (NamesRel.next hlt hB5 hr5 HBW.out hb2 hg5 hr2 hqb)
        clear hB5 hr5 hb2 hg5 hr2 q72 q7a q75 f75 hB2
        go_wp2
        go_roundw
        first
          | (case rel => exact HN.out
             case measure => simp [intOf]; omega)
          | (repeat apply Exists.intro
             exact ⟨⟨HN.out, by simp [intOf]; omega⟩, rfl⟩)
          | (case rel => (repeat apply Exists.intro); exact ⟨HN.out, rfl⟩
             case measure => simp [intOf]; omega)
    · obtain rfl : k = n := by omega
      clear hk hlt q7
      have han := HAN.out
      obtain ⟨g, hA⟩ : ∃ g, A = some ⟨g, 0, none⟩ := by
        rcases hr.2 with ⟨e, e0⟩ | ⟨g, cap, cur, e, _⟩
        · rw [opsK_len] at e0; omega
        · injection e with e; exact ⟨g, e⟩
      subst hA
      have hO := hr.at_
      have hgq : g ≠ w1.heap.size := by
        have := (hr.lt g rfl).1
        omega
      have hgw : w.heap.size ≤ g := by
        have := (hr.lt g rfl).1
        omega
      have hbk : (b : Int) % 4 = 0 ∨ (b : Int) % 4 = 1 ∨ (b : Int) % 4 = 2 ∨ (b : Int) % 4 = 3 := by omega
      have HB := Lib.hid hB
      have HR := Lib.hid hr
      have HBW := Lib.hid hbw
      obtain ⟨q0, q1, q2, q3, q4, q5, q6, q7, q8, q9, q10⟩ := Box.tuple11 hB
      have CC := Lib.hid (batch_check (opsK_len k) (names_good k hn1 hn8) (fits_batch _ (by rw [opsK_len]; exact hn8) opsK_sizes) (some ⟨g, 0, none⟩) c wr hO (HG.out.below hbw))
      clear hB hr hbw hO
      go_wp2_with fail
      refine CC.out.mono ?_
      rintro e w3 ⟨rfl, hb3⟩
      have hB3 := HB.out.step hb3
      have hr3 := HR.out.below hb3
      have hbw3 := below_step HBW.out HBW.out.size hb3
      have hal' : a < (opsK k).length := by rw [opsK_len]; exact hal
      have hget := opsK_get k a hal
      obtain ⟨k0, g0⟩ := hr3.cellAt a 0 hal' (by decide) (.bool false) (by rw [hget]; rfl)
      simp only [Nat.add_zero] at k0 g0
      obtain ⟨k1, g1⟩ := hr3.cellAt a 1 hal' (by decide) (.string ⟨(uidK a).toArray⟩) (by rw [hget]; rfl)
      obtain ⟨k2, g2⟩ := hr3.cellAt a 2 hal' (by decide) (.string ⟨(cardK a).toArray⟩) (by rw [hget]; rfl)
      obtain ⟨k3, g3⟩ := hr3.cellAt a 3 hal' (by decide) (.int .i64 0) (by rw [hget]; rfl)
      obtain ⟨k4, g4⟩ := hr3.cellAt a 4 hal' (by decide) (.int .i64 0) (by rw [hget]; rfl)
      clear q0 q1 q2 q3 q4 q5 q6 q7 q8 q9 q10 CC
      obtain ⟨q0, q1, q2, q3, q4, q5, q6, q7, q8, q9, q10⟩ := Box.tuple11 hB3
      have HGET := Lib.hid hget
      clear hget
      rcases hbk with h4 | h4 | h4 | h4
      · have hx := hr3.stored a 1 hal' (by decide) ({ opK a with uid := ⟨#[]⟩ }) (.string ⟨#[]⟩) (by rw [HGET.out]; rfl)
        have hbx := hbw3.setCell (p := ⟨g, a * 5 + 1, none⟩) hgw (.string ⟨#[]⟩)
        have cx := Lib.hid (batch_check (k := k) (by rw [List.length_set]; exact opsK_len k) (names_0 k a hal ⟨#[]⟩ (by decide) _ rfl) (fits_batch _ (by rw [List.length_set, opsK_len]; exact hn8) (set_sizes ⟨(show (⟨#[]⟩ : ByteArray).size ≤ 100 by decide), (opK_sizes a).2⟩)) (some ⟨g, 0, none⟩) c _ hx.at_ (HG.out.below hbx))
        clear hx
        go_wp2_with fail
        refine cx.out.mono ?_
        rintro e w4 ⟨rfl, hb4⟩
        go_wp2
        go_ret
        exact ⟨rfl, below_step hbx hbx.size hb4⟩
      · have hx := hr3.stored a 2 hal' (by decide) ({ opK a with card := ⟨#[120]⟩ }) (.string ⟨#[120]⟩) (by rw [HGET.out]; rfl)
        have hbx := hbw3.setCell (p := ⟨g, a * 5 + 2, none⟩) hgw (.string ⟨#[120]⟩)
        have cx := Lib.hid (batch_check (k := k) (by rw [List.length_set]; exact opsK_len k) (names_1 k a hal) (fits_batch _ (by rw [List.length_set, opsK_len]; exact hn8) (set_sizes ⟨(opK_sizes a).1, (show (⟨#[120]⟩ : ByteArray).size ≤ 100 by decide)⟩)) (some ⟨g, 0, none⟩) c _ hx.at_ (HG.out.below hbx))
        clear hx
        go_wp2_with fail
        refine cx.out.mono ?_
        rintro e w4 ⟨rfl, hb4⟩
        go_wp2
        go_ret
        exact ⟨rfl, below_step hbx hbx.size hb4⟩
      · have hx := hr3.stored a 0 hal' (by decide) ({ opK a with del := true }) (.bool true) (by rw [HGET.out]; rfl)
        simp only [Nat.add_zero] at hx
        have hbx := hbw3.setCell (p := ⟨g, a * 5, none⟩) hgw (.bool true)
        have cx := Lib.hid (batch_check (k := k) (by rw [List.length_set]; exact opsK_len k) (names_2 k a hal) (fits_batch _ (by rw [List.length_set, opsK_len]; exact hn8) (set_sizes (opK_sizes a))) (some ⟨g, 0, none⟩) c _ hx.at_ (HG.out.below hbx))
        clear hx
        go_wp2_with fail
        refine cx.out.mono ?_
        rintro e w4 ⟨rfl, hb4⟩
        go_wp2
        go_ret
        exact ⟨rfl, below_step hbx hbx.size hb4⟩
      · have hx := hr3.stored a 3 hal' (by decide) { opK a with ck := 9 } (.int .i64 9) (by rw [HGET.out]; rfl)
        have hy := hx.stored a 4 (by rw [List.length_set]; exact hal') (by decide) { opK a with ck := 9, cv := 0 } (.int .i64 0) (by rw [getElem!_pos _ a (by rw [List.length_set]; exact hal'), List.getElem_set_self]; rfl)
        rw [List.set_set] at hy
        have hbx := (hbw3.setCell (p := ⟨g, a * 5 + 3, none⟩) hgw (.int .i64 9)).setCell (p := ⟨g, a * 5 + 4, none⟩) hgw (.int .i64 0)
        have cx := Lib.hid (batch_check (k := k) (by rw [List.length_set]; exact opsK_len k) (names_3 k a hal) (fits_batch _ (by rw [List.length_set, opsK_len]; exact hn8) (set_sizes (opK_sizes a))) (some ⟨g, 0, none⟩) c _ hy.at_ (HG.out.below hbx))
        clear hx hy
        go_wp2_with fail
        refine cx.out.mono ?_
        rintro e w4 ⟨rfl, hb4⟩
        go_wp2
        go_ret
        exact ⟨rfl, below_step hbx hbx.size hb4⟩
end Go.Proofs.YtcmoidldalgljaaGreatDoor
set_option linter.unusedVariables false
set_option linter.unusedSimpArgs false
namespace Go.Proofs.YtcmoidldalgljaaGreatDoor
open Go.RowKit Go.ChangeShapes Go.WideShapes Go.ChangeAt Go.Deep
open Hen

set_option maxRecDepth 100000 in
set_option maxHeartbeats 4000000 in
theorem reqNames_lifted (os : Os) (started : os.Started) (H : Type) (enc : TypeId × Value → H) :
    ReturnsInHanded {} Tryz.checked os 5 .any (fun w args => (Rows.reqNamesSpec.pre enc Tryz.prog Tryz.f5 [] false w args ∧ laidMetH Tryz.prog laid5 w) ∧ sizedMet enc Tryz.prog Tryz.f5 (OpenSpec.ofChange Rows.reqNamesSpec) false w args)
      (Rows.reqNamesSpec.post enc Tryz.prog Tryz.f5 false true false false) := by
  refine wrap (C := Tryz.checked) (X := fun w _ => laidMetH Tryz.prog laid5 w) (fun _ _ _ hh h => h.of_heap hh) own started (by kernel_rfl) Tryz.func5
    (ChangeSpec.witness_shaped (enc := enc) (C := Tryz.checked) (os := os) (X := fun w _ => laidMetH Tryz.prog laid5 w) false (World.laidAll Tryz.prog os laid5) #[.int .i64 0, .int .i64 0, .int .i64 0] 8 (World.laidAll_os _ _ _)
      (World.shaped_of_ZipB (by kernel_rfl) (by kernel_rfl)) (by kernel_rfl) (by kernel_rfl) (by kernel_rfl)
      (by rw [MakeChecks.laidMetH_plain _ _ _ (by kernel_rfl)]; exact laidMet_laidAll _ (by kernel_rfl) (by kernel_rfl))) ?_
  intro W base args ds gs before hval0 hW hsz0 hL hsh
  have hval : ∀ (j : Nat) t v, Tryz.f5.params[j]? = some t → args[j]? = some v → Value.okWide Tryz.prog W .any base t v := hval0
  have hW' := hW
  obtain ⟨p, q, hA0, hV, rfl, hfz, hnd⟩ := hW
  have hA : DataW.TrodAll enc Tryz.prog W 0 (fun _ => true) true Tryz.f5.params.toList args.toList ds p := hA0
  have hsz : (DataW.weightsEach Tryz.prog (Tryz.f5.params.toList ++ Rows.reqNamesSpec.plain.varTypes Tryz.prog) (ds ++ gs)).all (· ≤ reachBytes) = true := hsz0
  rw [Tryz.params5] at hA hval hsz
  obtain ⟨v0, v1, v2, d0, d1, d2, p0, p1, p2, rfl, rfl, rfl, h0, h1, h2⟩ := trodAll_three hA
  obtain ⟨rfl, rfl⟩ := trodVars_none hV
  obtain ⟨x0, rfl, rfl, rfl, w0⟩ := open_int Tryz.underlying3 (hval 0 3 v0 rfl rfl) h0
  obtain ⟨x1, rfl, rfl, rfl, w1⟩ := open_int Tryz.underlying3 (hval 1 3 v1 rfl rfl) h1
  obtain ⟨x2, rfl, rfl, rfl, w2⟩ := open_int Tryz.underlying3 (hval 2 3 v2 rfl rfl) h2
  clear hA0 hval0
  simp only [List.append_nil, List.nil_append] at hW'
  have hcall := reqNames_calls x0 x1 x2 W (gl_of_laid hL hsh)
  refine hcall.mono fun e W' ⟨he, hb⟩ => ?_
  subst he
  refine ⟨_, rfl, post_of_below (pa := []) (pv := []) hW' (fun _ _ _ => trodAll_mk1 (shut_bool Tryz.underlying4 _)) (fun sp hsp => ?_) (fun _ _ => rfl) (by simp) hb (ok_one (by kernel_rfl) rfl (okWide_bool_mk Tryz.underlying4 _))⟩
  have : DataW.TrodAll enc Tryz.prog W' 0 sp true [3, 3, 3] [.int .i64 x0, .int .i64 x1, .int .i64 x2] [.lit (.int .i64 x0), .lit (.int .i64 x1), .lit (.int .i64 x2)] _ := trodAll_mk3 (shut_int Tryz.underlying3 w0) (shut_int Tryz.underlying3 w1) (shut_int Tryz.underlying3 w2)
  simp only [List.append_nil, List.nil_append] at this
  exact this

theorem reqNames_row : Rows.ReqNamesSaid :=
  OpenClaim.holds_of_wide 5 Tryz.f5 rfl rfl rfl rfl rfl rfl rfl ⟨rfl, rfl, rfl, rfl, rfl⟩ rfl rfl rfl rfl rfl (by kernel_rfl) Tryz.func5 (by kernel_rfl)
    (of_decide_eq_true (by kernel_rfl)) (by unfold Func.isWrapper; first | (rw [if_pos (by decide +kernel)]; kernel_rfl) | (rw [if_neg (by decide +kernel)]; exact ⟨rfl, rfl⟩))
    (fun os started H enc _ => reqNames_lifted os started H enc)
theorem reqNames_holds : Rows.ReqNamesCardSaid :=
  Claim7.holds_tied_plain_at .later [] [.data, .data, .data, .data, .pinned] true Rows.reqNamesCard.stood.harness false
    reqNames_row (fun _ h => by cases h) (by kernel_rfl) (fun _ h => by cases h) reqNames_row_tie rfl ⟨rfl, rfl⟩ (by kernel_rfl) rfl
    (fun f fn hf hfn => by
      obtain rfl : f = 5 := Option.some.inj ((show Tryz.prog.funcNamed "henhouse/henlaw12.ReqNames" = some 5 by kernel_rfl).symm.trans hf) |>.symm
      obtain rfl : fn = Tryz.f5 := (Option.some.inj (Tryz.func5.symm.trans hfn)).symm
      exact ⟨by kernel_rfl, fun j t ht => by
        rw [Tryz.params5] at ht
        have hm : t ∈ [3, 3, 3] := by simpa using Array.mem_of_getElem? ht
        have hall : ([3, 3, 3].all fun u => !Tryz.prog.wantsStandIn u) = true := by kernel_rfl
        exact (show Tryz.prog.wantsStandIn t = false by simpa using List.all_eq_true.1 hall t hm)⟩)
    (by kernel_rfl)
#print axioms reqNames_holds
end Go.Proofs.YtcmoidldalgljaaGreatDoor

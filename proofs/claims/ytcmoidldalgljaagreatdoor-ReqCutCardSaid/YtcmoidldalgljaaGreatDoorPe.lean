/-
  Contracts of package field: kind, label, Less; card.order. Words for boxes.
-/
import Derived.Test.YtcmoidldalgljaaGreatDoorPd
set_option linter.unusedVariables false
set_option linter.unusedSimpArgs false
namespace Go.Proofs.YtcmoidldalgljaaGreatDoor
open Go.RowKit

/-! ### A block of cells that the call has made -/
def Box (W : World) (g : Nat) (l : List Value) : Prop := g < W.heap.size ∧ ∀ i v, l[i]? = some v → W.cell? ⟨g, i, none⟩ = some v ∧ W.frozen? ⟨g, i, none⟩ = false
theorem Box.new (w : World) (cs : Array Value) (T : TypeId) : Box (w.alloc (.cells cs T)) w.heap.size cs.toList :=
  ⟨by simp, fun i v h => ⟨by rw [World.cell?_alloc_new]; simpa using h, World.frozen?_alloc_at _ _ _ _ rfl⟩⟩
theorem Box.step {W W1 : World} {g : Nat} {l : List Value} (h : Box W g l) (hb : Below W.heap.size W W1) : Box W1 g l :=
  ⟨Nat.lt_of_lt_of_le h.1 hb.size, fun i v hv => ⟨(hb.cell h.1).trans (h.2 i v hv).1, (hb.frozen h.1).trans (h.2 i v hv).2⟩⟩
theorem Box.alloc {W : World} {g : Nat} {l : List Value} (h : Box W g l) (o : Obj) : Box (W.alloc o) g l := h.step ((Below.refl _ _).alloc (Nat.le_refl _) o)
theorem Box.drew {W : World} {g : Nat} {l : List Value} (h : Box W g l) : Box W.drew g l := h.step (Below.refl _ _).drew
theorem Box.drewN {W : World} {g : Nat} {l : List Value} (h : Box W g l) (n : Nat) : Box (W.drewN n) g l := h.step (below_drawn (Below.refl _ _) n)
theorem Box.cell {W : World} {g : Nat} {l : List Value} (h : Box W g l) (i : Nat) {v : Value} (hv : l[i]? = some v) : W.cell? ⟨g, i, none⟩ = some v := (h.2 i v hv).1
theorem Box.free {W : World} {g : Nat} {l : List Value} (h : Box W g l) (i : Nat) {v : Value} (hv : l[i]? = some v) : W.frozen? ⟨g, i, none⟩ = false := (h.2 i v hv).2
theorem Box.far {W : World} {g : Nat} {l : List Value} (h : Box W g l) {p : Addr} (hp : p.block ≠ g) (u : Value) : Box (W.setCell p u) g l :=
  ⟨by simpa [World.setCell] using h.1, fun i v hv => ⟨by rw [World.cell?_setCell_other _ _ _ _ (fun e => hp (by rw [e]))]; exact (h.2 i v hv).1, by rw [World.frozen?_setCell]; exact (h.2 i v hv).2⟩⟩
theorem Box.set_ {W : World} {g : Nat} {l : List Value} (h : Box W g l) (j : Nat) (hj : j < l.length) (u : Value) : Box (W.setCell ⟨g, j, none⟩ u) g (l.set j u) := by
  refine ⟨by simpa [World.setCell] using h.1, fun i v hv => ⟨?_, ?_⟩⟩
  · by_cases e : j = i
    · subst e
      rw [List.getElem?_set_self hj] at hv
      rw [World.cell?_setCell_same W _ _ (by rw [h.cell j (List.getElem?_eq_getElem hj)]), hv]
    · rw [List.getElem?_set_ne e] at hv
      rw [World.cell?_setCell_other _ _ _ _ (fun he => e (by injection he))]
      exact h.cell i hv
  · have : i < l.length := by
      rcases Nat.lt_or_ge i l.length with h' | h'
      · exact h'
      · rw [List.getElem?_eq_none (by simpa using h')] at hv; cases hv
    rw [World.frozen?_setCell]
    exact h.free i (List.getElem?_eq_getElem this)

namespace Hen
def kindS (k : Int) : List UInt8 :=
  if k = 1 then [110, 97, 109, 101] else if k = 2 then [111, 114, 103] else if k = 3 then [116, 101, 108] else if k = 4 then [109, 97, 105, 108] else if k = 5 then [100, 97, 121] else if k = 6 then [110, 111, 116, 101] else []
def labelS (k l : Int) : List UInt8 × Bool :=
  if l = 0 then ([], true) else if l = 1 ∧ (k = 3 ∨ k = 4) then ([59, 104, 111, 109, 101], true) else if l = 2 ∧ (k = 3 ∨ k = 4) then ([59, 119, 111, 114, 107], true) else if l = 3 ∧ k = 3 then ([59, 99, 101, 108, 108], true) else ([], false)
end Hen

set_option maxHeartbeats 1000000 in
theorem kind_calls (k : Int) (w : World) : Calls Tryz.prog 104 #[.int .i64 k] w fun e w' => e = .returned (.string ⟨(Hen.kindS k).toArray⟩) ∧ w' = w := by
  by_cases h1 : k = 1
  · subst h1
    go_enter Tryz.func104, Tryz.ntmps104
    go_wp2
    go_ret
    exact ⟨rfl, rfl⟩
  by_cases h2 : k = 2
  · subst h2
    go_enter Tryz.func104, Tryz.ntmps104
    go_wp2
    go_ret
    exact ⟨rfl, rfl⟩
  by_cases h3 : k = 3
  · subst h3
    go_enter Tryz.func104, Tryz.ntmps104
    go_wp2
    go_ret
    exact ⟨rfl, rfl⟩
  by_cases h4 : k = 4
  · subst h4
    go_enter Tryz.func104, Tryz.ntmps104
    go_wp2
    go_ret
    exact ⟨rfl, rfl⟩
  by_cases h5 : k = 5
  · subst h5
    go_enter Tryz.func104, Tryz.ntmps104
    go_wp2
    go_ret
    exact ⟨rfl, rfl⟩
  by_cases h6 : k = 6
  · subst h6
    go_enter Tryz.func104, Tryz.ntmps104
    go_wp2
    go_ret
    exact ⟨rfl, rfl⟩
  have e : Hen.kindS k = [] := by unfold Hen.kindS; rw [if_neg h1, if_neg h2, if_neg h3, if_neg h4, if_neg h5, if_neg h6]
  have b1 : (k == 1) = false := beq_eq_false_iff_ne.2 h1
  have b2 : (k == 2) = false := beq_eq_false_iff_ne.2 h2
  have b3 : (k == 3) = false := beq_eq_false_iff_ne.2 h3
  have b4 : (k == 4) = false := beq_eq_false_iff_ne.2 h4
  have b5 : (k == 5) = false := beq_eq_false_iff_ne.2 h5
  have b6 : (k == 6) = false := beq_eq_false_iff_ne.2 h6
  rw [e]
  clear h1 h2 h3 h4 h5 h6 e
  go_enter Tryz.func104, Tryz.ntmps104
  go_wp2
  go_ret
  exact ⟨rfl, rfl⟩

set_option maxHeartbeats 2000000 in
theorem label_calls2 (k l : Int) (w : World) : Calls Tryz.prog 103 #[.int .i64 k, .int .i64 l] w fun e w' => e = .returned (.tuple #[.string ⟨(Hen.labelS k l).1.toArray⟩, .bool (Hen.labelS k l).2]) ∧ w' = w := by
  by_cases h0 : l = 0
  · subst h0
    go_enter Tryz.func103, Tryz.ntmps103
    go_wp2
    go_ret2
    exact ⟨rfl, rfl⟩
  have b0 : (l == 0) = false := beq_eq_false_iff_ne.2 h0
  by_cases k3 : k = 3
  · subst k3
    by_cases h1 : l = 1
    · subst h1
      go_enter Tryz.func103, Tryz.ntmps103
      go_wp2
      go_ret2
      exact ⟨rfl, rfl⟩
    by_cases h2 : l = 2
    · subst h2
      go_enter Tryz.func103, Tryz.ntmps103
      go_wp2
      go_ret2
      exact ⟨rfl, rfl⟩
    by_cases h3 : l = 3
    · subst h3
      go_enter Tryz.func103, Tryz.ntmps103
      go_wp2
      go_ret2
      exact ⟨rfl, rfl⟩
    have e : Hen.labelS 3 l = ([], false) := by unfold Hen.labelS; rw [if_neg h0, if_neg (by omega), if_neg (by omega), if_neg (by omega)]
    have b1 : (l == 1) = false := beq_eq_false_iff_ne.2 h1
    have b2 : (l == 2) = false := beq_eq_false_iff_ne.2 h2
    have b3 : (l == 3) = false := beq_eq_false_iff_ne.2 h3
    rw [e]
    clear h0 h1 h2 h3 e
    go_enter Tryz.func103, Tryz.ntmps103
    go_wp2
    go_ret2
    exact ⟨rfl, rfl⟩
  have c3 : (k == 3) = false := beq_eq_false_iff_ne.2 k3
  by_cases k4 : k = 4
  · subst k4
    by_cases h1 : l = 1
    · subst h1
      go_enter Tryz.func103, Tryz.ntmps103
      go_wp2
      go_ret2
      exact ⟨rfl, rfl⟩
    by_cases h2 : l = 2
    · subst h2
      go_enter Tryz.func103, Tryz.ntmps103
      go_wp2
      go_ret2
      exact ⟨rfl, rfl⟩
    have e : Hen.labelS 4 l = ([], false) := by unfold Hen.labelS; rw [if_neg h0, if_neg (by omega), if_neg (by omega), if_neg (by omega)]
    have b1 : (l == 1) = false := beq_eq_false_iff_ne.2 h1
    have b2 : (l == 2) = false := beq_eq_false_iff_ne.2 h2
    rw [e]
    clear h0 h1 h2 k3 c3 e
    go_enter Tryz.func103, Tryz.ntmps103
    go_wp2
    all_goals (go_ret2; exact ⟨rfl, rfl⟩)
  have c4 : (k == 4) = false := beq_eq_false_iff_ne.2 k4
  have e : Hen.labelS k l = ([], false) := by unfold Hen.labelS; rw [if_neg h0, if_neg (by omega), if_neg (by omega), if_neg (by omega)]
  rw [e]
  clear h0 k3 k4 e
  go_enter Tryz.func103, Tryz.ntmps103
  go_wp2
  all_goals (go_ret2; exact ⟨rfl, rfl⟩)
end Go.Proofs.YtcmoidldalgljaaGreatDoor
set_option linter.unusedVariables false
set_option linter.unusedSimpArgs false
namespace Go.Proofs.YtcmoidldalgljaaGreatDoor
open Go.RowKit

namespace Hen
def fieldC (k : Int) (v : List UInt8) : List UInt8 × Int := if k = 3 then telCanonS v else if k = 4 then mailCanonS v else cleanS v
def fieldE (k l : Int) (v : List UInt8) : Int :=
  if (labelS k l).2 = false ∨ kindS k = [] then 1 else if (fieldC k v).2 = 0 ∧ k = 5 then dayE ⟨(fieldC k v).1.toArray⟩ else (fieldC k v).2
def fieldV (k l : Int) (v : List UInt8) : Value := if fieldE k l v = 0 then .agg #[.int .i64 k, .int .i64 l, .string ⟨(fieldC k v).1.toArray⟩] else .agg #[.int .i64 0, .int .i64 0, .string ⟨#[]⟩]
end Hen

theorem two_boxes {w w3 : World} {cs ds : Array Value} {T U : TypeId} (hb : Below ((w.alloc (.cells cs T)).alloc (.cells ds U)).heap.size ((w.alloc (.cells cs T)).alloc (.cells ds U)) w3) :
    Below w.heap.size w w3 ∧ Box w3 w.heap.size cs.toList ∧ Box w3 (w.heap.size + 1) ds.toList := by
  have h1 : (w.alloc (.cells cs T)).heap.size = w.heap.size + 1 := by simp
  refine ⟨below_step (((Below.refl _ _).alloc (Nat.le_refl _) _).alloc (by omega) _) (by simp; omega) hb, ((Box.new w cs T).alloc _).step hb, ?_⟩
  have := (Box.new (w.alloc (.cells cs T)) ds U).step hb
  rwa [h1] at this

set_option maxHeartbeats 4000000 in
theorem canon_calls (k l : Int) (v : ByteArray) (w : World) (hs : v.size ≤ 140737488355327) (hG : GL w) :
    Calls Tryz.prog 112 #[.agg #[.int .i64 k, .int .i64 l, .string v]] w fun e w' => e = .returned (.tuple #[Hen.fieldV k l v.data.toList, .int .i64 (Hen.fieldE k l v.data.toList)]) ∧ Below w.heap.size w w' := by
  have cL := fun W => label_calls2 k l W
  have cK := fun W => kind_calls k W
  have hV : Hen.fieldV k l v.data.toList = if Hen.fieldE k l v.data.toList = 0 then .agg #[.int .i64 k, .int .i64 l, .string ⟨(Hen.fieldC k v.data.toList).1.toArray⟩] else .agg #[.int .i64 0, .int .i64 0, .string ⟨#[]⟩] := rfl
  have hE : Hen.fieldE k l v.data.toList = if (Hen.labelS k l).2 = false ∨ Hen.kindS k = [] then 1 else if (Hen.fieldC k v.data.toList).2 = 0 ∧ k = 5 then Hen.dayE ⟨(Hen.fieldC k v.data.toList).1.toArray⟩ else (Hen.fieldC k v.data.toList).2 := rfl
  generalize Hen.fieldV k l v.data.toList = V at hV ⊢
  generalize Hen.fieldE k l v.data.toList = E at hE hV ⊢
  generalize Hen.labelS k l = L at cL hE
  generalize Hen.kindS k = K at cK hE
  obtain ⟨lt, lb⟩ := L
  have CL := Lib.hid cL
  have CK := Lib.hid cK
  have HG := Lib.hid hG
  have HSZ := Lib.hid hs
  clear cL cK hG hs
  cases lb with
  | false =>
    rw [if_pos (.inl rfl)] at hE
    subst hE
    rw [if_neg (by decide)] at hV
    subst hV
    go_enter Tryz.func112, Tryz.ntmps112
    go_wp2_with (go_at_call 103; refine (CL.out _).mono ?_; rintro e w3 ⟨rfl, hw3⟩; subst hw3)
    refine bodyPost_ret (v := .tuple #[.agg #[.int .i64 0, .int .i64 0, .string ⟨#[]⟩], .int .i64 1]) (by simp [results, Tryz.results112, go_sem]) rfl ⟨rfl, ?_⟩
    exact ((Below.refl _ _).alloc (Nat.le_refl _) _).alloc (by simp) _
  | true =>
    cases hK : K.isEmpty with
    | true =>
      obtain rfl : K = [] := List.isEmpty_iff.1 hK
      rw [if_pos (.inr rfl)] at hE
      subst hE
      rw [if_neg (by decide)] at hV
      subst hV
      clear hK
      go_enter Tryz.func112, Tryz.ntmps112
      go_wp2_with (first | (go_at_call 103; refine (CL.out _).mono ?_; rintro e w3 ⟨rfl, hw3⟩; subst hw3) | (go_at_call 104; refine (CK.out _).mono ?_; rintro e w3 ⟨rfl, hw3⟩; subst hw3))
      refine bodyPost_ret (v := .tuple #[.agg #[.int .i64 0, .int .i64 0, .string ⟨#[]⟩], .int .i64 1]) (by simp [results, Tryz.results112, go_sem]) rfl ⟨rfl, ?_⟩
      exact ((Below.refl _ _).alloc (Nat.le_refl _) _).alloc (by simp) _
    | false =>
      have hK0 : K ≠ [] := by intro e; rw [e] at hK; cases hK
      rw [if_neg (by simp; exact hK0)] at hE
      clear hK0
      by_cases k3 : k = 3
      · subst k3
        have cT := fun W (hW : GL W) => tel_canon_calls v W HSZ.out hW
        rw [show Hen.fieldC 3 v.data.toList = Hen.telCanonS v.data.toList from rfl] at hE hV
        rw [if_neg (fun h => by have := h.2; omega)] at hE
        generalize Hen.telCanonS v.data.toList = C at cT hE hV
        obtain ⟨cv, ce⟩ := C
        simp only at cT hE hV
        subst hE
        have CT := Lib.hid cT
        have HV := Lib.hid hV
        clear cT hV
        go_enter Tryz.func112, Tryz.ntmps112
        go_wp2_with (first | (go_at_call 103; refine (CL.out _).mono ?_; rintro e w3 ⟨rfl, hw3⟩; subst hw3) | (go_at_call 104; refine (CK.out _).mono ?_; rintro e w3 ⟨rfl, hw3⟩; subst hw3))
        refine (CT.out _ (HG.out.below (((Below.refl _ _).alloc (Nat.le_refl _) _).alloc (by simp) _))).mono ?_
        rintro e w3 ⟨rfl, hb⟩
        obtain ⟨hB, B1, B2⟩ := two_boxes hb
        have q0 : w3.cell? ⟨w.heap.size, 0, none⟩ = some (.int .i64 3) := B1.cell 0 rfl
        have qf0 : w3.frozen? ⟨w.heap.size, 0, none⟩ = false := B1.free 0 (v := .int .i64 3) rfl
        have q1 : w3.cell? ⟨w.heap.size, 1, none⟩ = some (.int .i64 l) := B1.cell 1 rfl
        have qf1 : w3.frozen? ⟨w.heap.size, 1, none⟩ = false := B1.free 1 (v := .int .i64 l) rfl
        have q2 : w3.cell? ⟨w.heap.size, 2, none⟩ = some (.string v) := B1.cell 2 rfl
        have qf2 : w3.frozen? ⟨w.heap.size, 2, none⟩ = false := B1.free 2 (v := .string v) rfl
        have p0 : w3.cell? ⟨w.heap.size + 1, 0, none⟩ = some (.int .i64 0) := B2.cell 0 rfl
        have pf0 : w3.frozen? ⟨w.heap.size + 1, 0, none⟩ = false := B2.free 0 (v := .int .i64 0) rfl
        have p1 : w3.cell? ⟨w.heap.size + 1, 1, none⟩ = some (.int .i64 0) := B2.cell 1 rfl
        have pf1 : w3.frozen? ⟨w.heap.size + 1, 1, none⟩ = false := B2.free 1 (v := .int .i64 0) rfl
        have p2 : w3.cell? ⟨w.heap.size + 1, 2, none⟩ = some (.string ⟨#[]⟩) := B2.cell 2 rfl
        have pf2 : w3.frozen? ⟨w.heap.size + 1, 2, none⟩ = false := B2.free 2 (v := .string ⟨#[]⟩) rfl
        have hz : w.heap.size + 1 < w3.heap.size := B2.1
        clear hb
        by_cases hE0 : E = 0
        · subst hE0
          have V0 := HV.out
          rw [if_pos rfl] at V0
          subst V0
          clear HV
          have e0 : ((0 : Int) == 0) = true := rfl
          go_wp2
          refine bodyPost_ret (v := .tuple #[.agg #[.int .i64 3, .int .i64 l, .string ⟨cv.toArray⟩], .int .i64 0]) (by simp [results, Tryz.results112, go_sem, p0, p1, p2, pf0, pf1, pf2]) rfl ⟨rfl, ?_⟩
          exact (((hB.setCell (by simp) _).setCell (by simp) _).setCell (by simp) _).setCell (by simp) _
        · have V0 := HV.out
          rw [if_neg hE0] at V0
          subst V0
          clear HV
          have e1 : (E != 0) = true := bne_iff_ne.2 hE0
          have e0 : (E == 0) = false := beq_eq_false_iff_ne.2 hE0
          clear hE0
          go_wp2
          refine bodyPost_ret (v := .tuple #[.agg #[.int .i64 0, .int .i64 0, .string ⟨#[]⟩], .int .i64 E]) (by simp [results, Tryz.results112, go_sem, p0, p1, p2, pf0, pf1, pf2]) rfl ⟨rfl, ?_⟩
          exact ((hB.setCell (by simp) _).setCell (by simp) _).setCell (by simp) _
      have c3 : (k == 3) = false := beq_eq_false_iff_ne.2 k3
      by_cases k4 : k = 4
      · subst k4
        have cT := fun W (hW : GL W) => mail_canon_calls v W HSZ.out hW
        rw [show Hen.fieldC 4 v.data.toList = Hen.mailCanonS v.data.toList from rfl] at hE hV
        rw [if_neg (fun h => by have := h.2; omega)] at hE
        generalize Hen.mailCanonS v.data.toList = C at cT hE hV
        obtain ⟨cv, ce⟩ := C
        simp only at cT hE hV
        subst hE
        have CT := Lib.hid cT
        have HV := Lib.hid hV
        clear cT hV
        go_enter Tryz.func112, Tryz.ntmps112
        go_wp2_with (first | (go_at_call 103; refine (CL.out _).mono ?_; rintro e w3 ⟨rfl, hw3⟩; subst hw3) | (go_at_call 104; refine (CK.out _).mono ?_; rintro e w3 ⟨rfl, hw3⟩; subst hw3))
        refine (CT.out _ (HG.out.below (((Below.refl _ _).alloc (Nat.le_refl _) _).alloc (by simp) _))).mono ?_
        rintro e w3 ⟨rfl, hb⟩
        obtain ⟨hB, B1, B2⟩ := two_boxes hb
        have q0 : w3.cell? ⟨w.heap.size, 0, none⟩ = some (.int .i64 4) := B1.cell 0 rfl
        have qf0 : w3.frozen? ⟨w.heap.size, 0, none⟩ = false := B1.free 0 (v := .int .i64 4) rfl
        have q1 : w3.cell? ⟨w.heap.size, 1, none⟩ = some (.int .i64 l) := B1.cell 1 rfl
        have qf1 : w3.frozen? ⟨w.heap.size, 1, none⟩ = false := B1.free 1 (v := .int .i64 l) rfl
        have q2 : w3.cell? ⟨w.heap.size, 2, none⟩ = some (.string v) := B1.cell 2 rfl
        have qf2 : w3.frozen? ⟨w.heap.size, 2, none⟩ = false := B1.free 2 (v := .string v) rfl
        have p0 : w3.cell? ⟨w.heap.size + 1, 0, none⟩ = some (.int .i64 0) := B2.cell 0 rfl
        have pf0 : w3.frozen? ⟨w.heap.size + 1, 0, none⟩ = false := B2.free 0 (v := .int .i64 0) rfl
        have p1 : w3.cell? ⟨w.heap.size + 1, 1, none⟩ = some (.int .i64 0) := B2.cell 1 rfl
        have pf1 : w3.frozen? ⟨w.heap.size + 1, 1, none⟩ = false := B2.free 1 (v := .int .i64 0) rfl
        have p2 : w3.cell? ⟨w.heap.size + 1, 2, none⟩ = some (.string ⟨#[]⟩) := B2.cell 2 rfl
        have pf2 : w3.frozen? ⟨w.heap.size + 1, 2, none⟩ = false := B2.free 2 (v := .string ⟨#[]⟩) rfl
        have hz : w.heap.size + 1 < w3.heap.size := B2.1
        clear hb
        by_cases hE0 : E = 0
        · subst hE0
          have V0 := HV.out
          rw [if_pos rfl] at V0
          subst V0
          clear HV
          have e0 : ((0 : Int) == 0) = true := rfl
          go_wp2
          refine bodyPost_ret (v := .tuple #[.agg #[.int .i64 4, .int .i64 l, .string ⟨cv.toArray⟩], .int .i64 0]) (by simp [results, Tryz.results112, go_sem, p0, p1, p2, pf0, pf1, pf2]) rfl ⟨rfl, ?_⟩
          exact (((hB.setCell (by simp) _).setCell (by simp) _).setCell (by simp) _).setCell (by simp) _
        · have V0 := HV.out
          rw [if_neg hE0] at V0
          subst V0
          clear HV
          have e1 : (E != 0) = true := bne_iff_ne.2 hE0
          have e0 : (E == 0) = false := beq_eq_false_iff_ne.2 hE0
          clear hE0
          go_wp2
          refine bodyPost_ret (v := .tuple #[.agg #[.int .i64 0, .int .i64 0, .string ⟨#[]⟩], .int .i64 E]) (by simp [results, Tryz.results112, go_sem, p0, p1, p2, pf0, pf1, pf2]) rfl ⟨rfl, ?_⟩
          exact ((hB.setCell (by simp) _).setCell (by simp) _).setCell (by simp) _
      have c4 : (k == 4) = false := beq_eq_false_iff_ne.2 k4
      have hFC : Hen.fieldC k v.data.toList = Hen.cleanS v.data.toList := by unfold Hen.fieldC; rw [if_neg k3, if_neg k4]
      by_cases k5 : k = 5
      · subst k5
        have cT := fun W (hW : GL W) => clean_calls v W HSZ.out hW
        have hcl := cleanS_len v.data.toList
        rw [hFC] at hE hV
        generalize Hen.cleanS v.data.toList = C at cT hE hV hcl
        obtain ⟨cv, ce⟩ := C
        simp only at cT hE hV hcl
        have cD := fun W (hW : GL W) => dparse_calls ⟨cv.toArray⟩ W (by rw [mk_size cv]; unfold maxLen; omega) hW
        have CT := Lib.hid cT
        have CD := Lib.hid cD
        have HV := Lib.hid hV
        clear cT hV cD hcl hFC k3 k4
        by_cases hc0 : ce = 0
        · subst hc0
          rw [if_pos (by simp)] at hE
          unfold ParsePost at CD
          rw [← hE] at CD
          clear hE
          go_enter Tryz.func112, Tryz.ntmps112
          go_wp2_with (first | (go_at_call 103; refine (CL.out _).mono ?_; rintro e w3 ⟨rfl, hw3⟩; subst hw3) | (go_at_call 104; refine (CK.out _).mono ?_; rintro e w3 ⟨rfl, hw3⟩; subst hw3))
          refine (CT.out _ (HG.out.below (((Below.refl _ _).alloc (Nat.le_refl _) _).alloc (by simp) _))).mono ?_
          rintro e w3 ⟨rfl, hb⟩
          obtain ⟨hB, B1, B2⟩ := two_boxes hb
          have q0 : w3.cell? ⟨w.heap.size, 0, none⟩ = some (.int .i64 5) := B1.cell 0 rfl
          have qf0 : w3.frozen? ⟨w.heap.size, 0, none⟩ = false := B1.free 0 (v := .int .i64 5) rfl
          have q1 : w3.cell? ⟨w.heap.size, 1, none⟩ = some (.int .i64 l) := B1.cell 1 rfl
          have qf1 : w3.frozen? ⟨w.heap.size, 1, none⟩ = false := B1.free 1 (v := .int .i64 l) rfl
          have q2 : w3.cell? ⟨w.heap.size, 2, none⟩ = some (.string v) := B1.cell 2 rfl
          have qf2 : w3.frozen? ⟨w.heap.size, 2, none⟩ = false := B1.free 2 (v := .string v) rfl
          have p0 : w3.cell? ⟨w.heap.size + 1, 0, none⟩ = some (.int .i64 0) := B2.cell 0 rfl
          have pf0 : w3.frozen? ⟨w.heap.size + 1, 0, none⟩ = false := B2.free 0 (v := .int .i64 0) rfl
          have p1 : w3.cell? ⟨w.heap.size + 1, 1, none⟩ = some (.int .i64 0) := B2.cell 1 rfl
          have pf1 : w3.frozen? ⟨w.heap.size + 1, 1, none⟩ = false := B2.free 1 (v := .int .i64 0) rfl
          have p2 : w3.cell? ⟨w.heap.size + 1, 2, none⟩ = some (.string ⟨#[]⟩) := B2.cell 2 rfl
          have pf2 : w3.frozen? ⟨w.heap.size + 1, 2, none⟩ = false := B2.free 2 (v := .string ⟨#[]⟩) rfl
          have hz : w.heap.size + 1 < w3.heap.size := B2.1
          clear hb
          go_wp2_with fail
          refine (CD.out _ (HG.out.below hB)).mono ?_
          rintro e w4 ⟨y, m, d, rfl, hb⟩
          have B1' := B1.step hb
          have B2' := B2.step hb
          have hB' := below_step hB hB.size hb
          clear hb B1 B2 hB q0 q1 q2 qf0 qf1 qf2 p0 p1 p2 pf0 pf1 pf2 hz
          have q0 : w4.cell? ⟨w.heap.size, 0, none⟩ = some (.int .i64 5) := B1'.cell 0 rfl
          have qf0 : w4.frozen? ⟨w.heap.size, 0, none⟩ = false := B1'.free 0 (v := .int .i64 5) rfl
          have q1 : w4.cell? ⟨w.heap.size, 1, none⟩ = some (.int .i64 l) := B1'.cell 1 rfl
          have qf1 : w4.frozen? ⟨w.heap.size, 1, none⟩ = false := B1'.free 1 (v := .int .i64 l) rfl
          have q2 : w4.cell? ⟨w.heap.size, 2, none⟩ = some (.string v) := B1'.cell 2 rfl
          have qf2 : w4.frozen? ⟨w.heap.size, 2, none⟩ = false := B1'.free 2 (v := .string v) rfl
          have p0 : w4.cell? ⟨w.heap.size + 1, 0, none⟩ = some (.int .i64 0) := B2'.cell 0 rfl
          have pf0 : w4.frozen? ⟨w.heap.size + 1, 0, none⟩ = false := B2'.free 0 (v := .int .i64 0) rfl
          have p1 : w4.cell? ⟨w.heap.size + 1, 1, none⟩ = some (.int .i64 0) := B2'.cell 1 rfl
          have pf1 : w4.frozen? ⟨w.heap.size + 1, 1, none⟩ = false := B2'.free 1 (v := .int .i64 0) rfl
          have p2 : w4.cell? ⟨w.heap.size + 1, 2, none⟩ = some (.string ⟨#[]⟩) := B2'.cell 2 rfl
          have pf2 : w4.frozen? ⟨w.heap.size + 1, 2, none⟩ = false := B2'.free 2 (v := .string ⟨#[]⟩) rfl
          have hz : w.heap.size + 1 < w4.heap.size := B2'.1
          by_cases hE0 : E = 0
          · subst hE0
            have V0 := HV.out
            rw [if_pos rfl] at V0
            subst V0
            clear HV
            have e0 : ((0 : Int) == 0) = true := rfl
            go_wp2
            refine bodyPost_ret (v := .tuple #[.agg #[.int .i64 5, .int .i64 l, .string ⟨cv.toArray⟩], .int .i64 0]) (by simp [results, Tryz.results112, go_sem, p0, p1, p2, pf0, pf1, pf2]) rfl ⟨rfl, ?_⟩
            exact (((hB'.setCell (by simp) _).setCell (by simp) _).setCell (by simp) _).setCell (by simp) _
          · have V0 := HV.out
            rw [if_neg hE0] at V0
            subst V0
            clear HV
            have e1 : (E != 0) = true := bne_iff_ne.2 hE0
            have e0 : (E == 0) = false := beq_eq_false_iff_ne.2 hE0
            clear hE0
            go_wp2
            refine bodyPost_ret (v := .tuple #[.agg #[.int .i64 0, .int .i64 0, .string ⟨#[]⟩], .int .i64 E]) (by simp [results, Tryz.results112, go_sem, p0, p1, p2, pf0, pf1, pf2]) rfl ⟨rfl, ?_⟩
            exact ((hB'.setCell (by simp) _).setCell (by simp) _).setCell (by simp) _
        · rw [if_neg (fun h => hc0 h.1)] at hE
          subst hE
          have e1 : (E != 0) = true := bne_iff_ne.2 hc0
          have e0 : (E == 0) = false := beq_eq_false_iff_ne.2 hc0
          have V0 := HV.out
          rw [if_neg hc0] at V0
          subst V0
          clear HV hc0
          go_enter Tryz.func112, Tryz.ntmps112
          go_wp2_with (first | (go_at_call 103; refine (CL.out _).mono ?_; rintro e w3 ⟨rfl, hw3⟩; subst hw3) | (go_at_call 104; refine (CK.out _).mono ?_; rintro e w3 ⟨rfl, hw3⟩; subst hw3))
          refine (CT.out _ (HG.out.below (((Below.refl _ _).alloc (Nat.le_refl _) _).alloc (by simp) _))).mono ?_
          rintro e w3 ⟨rfl, hb⟩
          obtain ⟨hB, B1, B2⟩ := two_boxes hb
          have q0 : w3.cell? ⟨w.heap.size, 0, none⟩ = some (.int .i64 5) := B1.cell 0 rfl
          have qf0 : w3.frozen? ⟨w.heap.size, 0, none⟩ = false := B1.free 0 (v := .int .i64 5) rfl
          have q1 : w3.cell? ⟨w.heap.size, 1, none⟩ = some (.int .i64 l) := B1.cell 1 rfl
          have qf1 : w3.frozen? ⟨w.heap.size, 1, none⟩ = false := B1.free 1 (v := .int .i64 l) rfl
          have q2 : w3.cell? ⟨w.heap.size, 2, none⟩ = some (.string v) := B1.cell 2 rfl
          have qf2 : w3.frozen? ⟨w.heap.size, 2, none⟩ = false := B1.free 2 (v := .string v) rfl
          have p0 : w3.cell? ⟨w.heap.size + 1, 0, none⟩ = some (.int .i64 0) := B2.cell 0 rfl
          have pf0 : w3.frozen? ⟨w.heap.size + 1, 0, none⟩ = false := B2.free 0 (v := .int .i64 0) rfl
          have p1 : w3.cell? ⟨w.heap.size + 1, 1, none⟩ = some (.int .i64 0) := B2.cell 1 rfl
          have pf1 : w3.frozen? ⟨w.heap.size + 1, 1, none⟩ = false := B2.free 1 (v := .int .i64 0) rfl
          have p2 : w3.cell? ⟨w.heap.size + 1, 2, none⟩ = some (.string ⟨#[]⟩) := B2.cell 2 rfl
          have pf2 : w3.frozen? ⟨w.heap.size + 1, 2, none⟩ = false := B2.free 2 (v := .string ⟨#[]⟩) rfl
          have hz : w.heap.size + 1 < w3.heap.size := B2.1
          clear hb
          go_wp2
          refine bodyPost_ret (v := .tuple #[.agg #[.int .i64 0, .int .i64 0, .string ⟨#[]⟩], .int .i64 E]) (by simp [results, Tryz.results112, go_sem, p0, p1, p2, pf0, pf1, pf2]) rfl ⟨rfl, ?_⟩
          exact ((hB.setCell (by simp) _).setCell (by simp) _).setCell (by simp) _
      · have c5 : (k == 5) = false := beq_eq_false_iff_ne.2 k5
        have cT := fun W (hW : GL W) => clean_calls v W HSZ.out hW
        rw [show Hen.fieldC k v.data.toList = Hen.cleanS v.data.toList from hFC] at hE hV
        rw [if_neg (fun h => k5 h.2)] at hE
        generalize Hen.cleanS v.data.toList = C at cT hE hV
        obtain ⟨cv, ce⟩ := C
        simp only at cT hE hV
        subst hE
        have CT := Lib.hid cT
        have HV := Lib.hid hV
        clear cT hV
        clear k3 k4 k5 hFC
        go_enter Tryz.func112, Tryz.ntmps112
        go_wp2_with (first | (go_at_call 103; refine (CL.out _).mono ?_; rintro e w3 ⟨rfl, hw3⟩; subst hw3) | (go_at_call 104; refine (CK.out _).mono ?_; rintro e w3 ⟨rfl, hw3⟩; subst hw3))
        refine (CT.out _ (HG.out.below (((Below.refl _ _).alloc (Nat.le_refl _) _).alloc (by simp) _))).mono ?_
        rintro e w3 ⟨rfl, hb⟩
        obtain ⟨hB, B1, B2⟩ := two_boxes hb
        have q0 : w3.cell? ⟨w.heap.size, 0, none⟩ = some (.int .i64 k) := B1.cell 0 rfl
        have qf0 : w3.frozen? ⟨w.heap.size, 0, none⟩ = false := B1.free 0 (v := .int .i64 k) rfl
        have q1 : w3.cell? ⟨w.heap.size, 1, none⟩ = some (.int .i64 l) := B1.cell 1 rfl
        have qf1 : w3.frozen? ⟨w.heap.size, 1, none⟩ = false := B1.free 1 (v := .int .i64 l) rfl
        have q2 : w3.cell? ⟨w.heap.size, 2, none⟩ = some (.string v) := B1.cell 2 rfl
        have qf2 : w3.frozen? ⟨w.heap.size, 2, none⟩ = false := B1.free 2 (v := .string v) rfl
        have p0 : w3.cell? ⟨w.heap.size + 1, 0, none⟩ = some (.int .i64 0) := B2.cell 0 rfl
        have pf0 : w3.frozen? ⟨w.heap.size + 1, 0, none⟩ = false := B2.free 0 (v := .int .i64 0) rfl
        have p1 : w3.cell? ⟨w.heap.size + 1, 1, none⟩ = some (.int .i64 0) := B2.cell 1 rfl
        have pf1 : w3.frozen? ⟨w.heap.size + 1, 1, none⟩ = false := B2.free 1 (v := .int .i64 0) rfl
        have p2 : w3.cell? ⟨w.heap.size + 1, 2, none⟩ = some (.string ⟨#[]⟩) := B2.cell 2 rfl
        have pf2 : w3.frozen? ⟨w.heap.size + 1, 2, none⟩ = false := B2.free 2 (v := .string ⟨#[]⟩) rfl
        have hz : w.heap.size + 1 < w3.heap.size := B2.1
        clear hb
        by_cases hE0 : E = 0
        · subst hE0
          have V0 := HV.out
          rw [if_pos rfl] at V0
          subst V0
          clear HV
          have e0 : ((0 : Int) == 0) = true := rfl
          go_wp2
          refine bodyPost_ret (v := .tuple #[.agg #[.int .i64 k, .int .i64 l, .string ⟨cv.toArray⟩], .int .i64 0]) (by simp [results, Tryz.results112, go_sem, p0, p1, p2, pf0, pf1, pf2]) rfl ⟨rfl, ?_⟩
          exact (((hB.setCell (by simp) _).setCell (by simp) _).setCell (by simp) _).setCell (by simp) _
        · have V0 := HV.out
          rw [if_neg hE0] at V0
          subst V0
          clear HV
          have e1 : (E != 0) = true := bne_iff_ne.2 hE0
          have e0 : (E == 0) = false := beq_eq_false_iff_ne.2 hE0
          clear hE0
          go_wp2
          refine bodyPost_ret (v := .tuple #[.agg #[.int .i64 0, .int .i64 0, .string ⟨#[]⟩], .int .i64 E]) (by simp [results, Tryz.results112, go_sem, p0, p1, p2, pf0, pf1, pf2]) rfl ⟨rfl, ?_⟩
          exact ((hB.setCell (by simp) _).setCell (by simp) _).setCell (by simp) _
end Go.Proofs.YtcmoidldalgljaaGreatDoor
set_option linter.unusedVariables false
set_option linter.unusedSimpArgs false
namespace Go.Proofs.YtcmoidldalgljaaGreatDoor
open Go.RowKit

namespace Hen
def fmayB (k l : Int) (v : List UInt8) : Bool := decide (fieldE k l v = 0) && ((fieldC k v).1 == v)
def lineS (k l : Int) (v : List UInt8) : List UInt8 := if fmayB k l v then kindS k ++ (labelS k l).1 ++ [58] ++ v else []
end Hen

set_option maxHeartbeats 4000000 in
theorem fmay_calls (k l : Int) (v : ByteArray) (w : World) (hs : v.size ≤ 140737488355327) (hG : GL w) :
    Calls Tryz.prog 111 #[.agg #[.int .i64 k, .int .i64 l, .string v]] w fun e w' => e = .returned (.bool (Hen.fmayB k l v.data.toList)) ∧ Below w.heap.size w w' := by
  have cC := fun W (hW : GL W) => canon_calls k l v W hs hW
  have hR : Hen.fmayB k l v.data.toList = (decide (Hen.fieldE k l v.data.toList = 0) && ((Hen.fieldC k v.data.toList).1 == v.data.toList)) := rfl
  unfold Hen.fieldV at cC
  generalize Hen.fmayB k l v.data.toList = R at hR ⊢
  generalize Hen.fieldE k l v.data.toList = E at cC hR
  generalize Hen.fieldC k v.data.toList = C at cC hR
  obtain ⟨cv, ce⟩ := C
  simp only at cC hR
  have HG := Lib.hid hG
  clear hG hs
  by_cases hE : E = 0
  · subst hE
    simp only [if_true] at cC
    have CC := Lib.hid cC
    clear cC
    by_cases hx : cv = v.data.toList
    · have e1 : (cv == v.toList) = true := by rw [beq_iff_eq, hx, toList_data]
      obtain rfl : R = true := by rw [hR, hx]; simp
      clear hx hR
      go_enter Tryz.func111, Tryz.ntmps111
      go_wp2_with fail
      refine (CC.out _ (HG.out.below ((Below.refl _ _).alloc (Nat.le_refl _) _))).mono ?_
      rintro e w3 ⟨rfl, hb⟩
      obtain ⟨hP, hc⟩ := boxed hb
      have q0 : w3.cell? ⟨w.heap.size, 0, none⟩ = some (.int .i64 k) := hc 0 _ rfl
      have q1 : w3.cell? ⟨w.heap.size, 1, none⟩ = some (.int .i64 l) := hc 1 _ rfl
      have q2 : w3.cell? ⟨w.heap.size, 2, none⟩ = some (.string v) := hc 2 _ rfl
      have hz := hP.more
      clear hb hc
      go_wp2
      go_ret
      exact ⟨rfl, hP.below.alloc hP.below.size _⟩
    · have e1 : (cv == v.toList) = false := by rw [beq_eq_false_iff_ne, toList_data]; exact hx
      obtain rfl : R = false := by rw [hR]; simp; exact hx
      clear hx hR
      go_enter Tryz.func111, Tryz.ntmps111
      go_wp2_with fail
      refine (CC.out _ (HG.out.below ((Below.refl _ _).alloc (Nat.le_refl _) _))).mono ?_
      rintro e w3 ⟨rfl, hb⟩
      obtain ⟨hP, hc⟩ := boxed hb
      have q0 : w3.cell? ⟨w.heap.size, 0, none⟩ = some (.int .i64 k) := hc 0 _ rfl
      have q1 : w3.cell? ⟨w.heap.size, 1, none⟩ = some (.int .i64 l) := hc 1 _ rfl
      have q2 : w3.cell? ⟨w.heap.size, 2, none⟩ = some (.string v) := hc 2 _ rfl
      have hz := hP.more
      clear hb hc
      go_wp2
      go_ret
      exact ⟨rfl, hP.below.alloc hP.below.size _⟩
  · rw [if_neg hE] at cC
    have e1 : (E == 0) = false := beq_eq_false_iff_ne.2 hE
    obtain rfl : R = false := by rw [hR, decide_eq_false hE]; rfl
    have CC := Lib.hid cC
    clear cC hR hE
    go_enter Tryz.func111, Tryz.ntmps111
    go_wp2_with fail
    refine (CC.out _ (HG.out.below ((Below.refl _ _).alloc (Nat.le_refl _) _))).mono ?_
    rintro e w3 ⟨rfl, hb⟩
    obtain ⟨hP, hc⟩ := boxed hb
    have q0 : w3.cell? ⟨w.heap.size, 0, none⟩ = some (.int .i64 k) := hc 0 _ rfl
    have q1 : w3.cell? ⟨w.heap.size, 1, none⟩ = some (.int .i64 l) := hc 1 _ rfl
    have q2 : w3.cell? ⟨w.heap.size, 2, none⟩ = some (.string v) := hc 2 _ rfl
    have hz := hP.more
    clear hb hc
    go_wp2
    go_ret
    exact ⟨rfl, hP.below.alloc hP.below.size _⟩

set_option maxHeartbeats 4000000 in
theorem line_calls (k l : Int) (v : ByteArray) (w : World) (hs : v.size ≤ 140737488355327) (hG : GL w) :
    Calls Tryz.prog 105 #[.agg #[.int .i64 k, .int .i64 l, .string v]] w fun e w' => e = .returned (.string ⟨(Hen.lineS k l v.data.toList).toArray⟩) ∧ Below w.heap.size w w' := by
  have cM := fun W (hW : GL W) => fmay_calls k l v W hs hW
  have cL := fun W => label_calls2 k l W
  have cK := fun W => kind_calls k W
  have hR : Hen.lineS k l v.data.toList = if Hen.fmayB k l v.data.toList then Hen.kindS k ++ (Hen.labelS k l).1 ++ [58] ++ v.data.toList else [] := rfl
  have hk : (Hen.kindS k).length ≤ 4 := by unfold Hen.kindS; (repeat' split); all_goals simp
  have hl : (Hen.labelS k l).1.length ≤ 5 := by unfold Hen.labelS; (repeat' split); all_goals simp
  generalize Hen.lineS k l v.data.toList = R at hR ⊢
  generalize Hen.fmayB k l v.data.toList = M at cM hR
  generalize Hen.labelS k l = L at cL hR hl
  generalize Hen.kindS k = K at cK hR hk
  obtain ⟨lt, lb⟩ := L
  simp only at cL hR hl
  have CM := Lib.hid cM
  have CL := Lib.hid cL
  have CK := Lib.hid cK
  have HG := Lib.hid hG
  clear cM cL cK hG
  cases M with
  | false =>
    obtain rfl : R = [] := by rw [hR]; rfl
    clear hR hs
    go_enter Tryz.func105, Tryz.ntmps105
    go_wp2_with fail
    refine (CM.out _ (HG.out.below ((Below.refl _ _).alloc (Nat.le_refl _) _))).mono ?_
    rintro e w3 ⟨rfl, hb⟩
    obtain ⟨hP, hc⟩ := boxed hb
    clear hb hc
    go_wp2
    go_ret
    exact ⟨rfl, hP.below⟩
  | true =>
    rw [if_pos rfl] at hR
    obtain ⟨X1, hX1⟩ : ∃ X : ByteArray, X = ⟨K.toArray⟩ ++ ⟨lt.toArray⟩ := ⟨_, rfl⟩
    obtain ⟨X2, hX2⟩ : ∃ X : ByteArray, X = X1 ++ ⟨#[58]⟩ := ⟨_, rfl⟩
    obtain ⟨X3, hX3⟩ : ∃ X : ByteArray, X = X2 ++ v := ⟨_, rfl⟩
    have z1 : X1.size ≤ 9 := by rw [hX1, ByteArray.size_append, mk_size K, mk_size lt]; omega
    have z2 : X2.size ≤ 10 := by rw [hX2, ByteArray.size_append, show (⟨#[58]⟩ : ByteArray).size = 1 from rfl]; omega
    have a1 := fun W => run_string_add_sum (P := Tryz.prog) W ⟨K.toArray⟩ ⟨lt.toArray⟩ (by rw [mk_size K, mk_size lt]; omega)
    have a2 := fun W => run_string_add_sum (P := Tryz.prog) W X1 ⟨#[58]⟩ (by rw [show (⟨#[58]⟩ : ByteArray).size = 1 from rfl]; omega)
    have a3 := fun W => run_string_add_sum (P := Tryz.prog) W X2 v (by omega)
    rw [← hX1] at a1
    rw [← hX2] at a2
    rw [← hX3] at a3
    have HS := Lib.hid (show X3 = ⟨R.toArray⟩ by
      rw [hX3, hX2, hX1, hR, ← mk_of v, show (⟨#[58]⟩ : ByteArray) = ⟨[(58 : UInt8)].toArray⟩ from rfl, mk_toList]
      simp only [ByteArray.mk_append_mk])
    clear hR hX1 hX2 hX3 z1 z2 hk hl hs
    go_enter Tryz.func105, Tryz.ntmps105
    go_wp2_with fail
    refine (CM.out _ (HG.out.below ((Below.refl _ _).alloc (Nat.le_refl _) _))).mono ?_
    rintro e w3 ⟨rfl, hb⟩
    obtain ⟨hP, hc⟩ := boxed hb
    have q0 : w3.cell? ⟨w.heap.size, 0, none⟩ = some (.int .i64 k) := hc 0 _ rfl
    have q1 : w3.cell? ⟨w.heap.size, 1, none⟩ = some (.int .i64 l) := hc 1 _ rfl
    have q2 : w3.cell? ⟨w.heap.size, 2, none⟩ = some (.string v) := hc 2 _ rfl
    have hz := hP.more
    clear hb hc
    go_wp2_with (go_at_call 103; refine (CL.out _).mono ?_; rintro e w4 ⟨rfl, hw4⟩; subst hw4)
    go_quiet ((go_at_call 104; exact Calls.quiet_of_same (CK.out _)))
    go_wp2
    go_ret
    exact ⟨by rw [← HS.out]; rfl, below_drawn hP.below _⟩
end Go.Proofs.YtcmoidldalgljaaGreatDoor
set_option linter.unusedVariables false
set_option linter.unusedSimpArgs false
namespace Go.Proofs.YtcmoidldalgljaaGreatDoor
open Go.RowKit

namespace Hen
/-- Does the line s say a field of kind k and label l? -/
def hitB (s : List UInt8) (k l : Int) : Bool := (labelS k l).2 && ((kindS k ++ (labelS k l).1 == (Lib.cut s [58]).1) && (lineS k l (Lib.cut s [58]).2.1 == s))
def hitI (s : List UInt8) (i : Nat) : Bool := hitB s (1 + (i / 4 : Nat)) (i % 4 : Nat)
def fparseI (s : List UInt8) : Option Nat := (List.range 24).find? (hitI s)
end Hen

theorem fparse_some {s : List UInt8} {i : Nat} (hi : i < 24) (h : Hen.hitI s i = true) (hn : ∀ j, j < i → Hen.hitI s j = false) : Hen.fparseI s = some i := by
  unfold Hen.fparseI
  rw [List.find?_eq_some_iff_getElem]
  refine ⟨h, i, by simpa using hi, by simp, fun j hj => ?_⟩
  simp [hn j hj]
theorem fparse_none {s : List UInt8} (hn : ∀ j, j < 24 → Hen.hitI s j = false) : Hen.fparseI s = none := by
  unfold Hen.fparseI
  rw [List.find?_eq_none]
  intro j hj
  simp at hj
  simp [hn j hj]

def FParsed (s : List UInt8) (w : World) (e : Ending) (w' : World) : Prop :=
  Below w.heap.size w w' ∧ e = .returned (.tuple (match Hen.fparseI s with
    | some i => #[.agg #[.int .i64 (1 + (i / 4 : Nat)), .int .i64 (i % 4 : Nat), .string ⟨(Lib.cut s [58]).2.1.toArray⟩], .int .i64 0]
    | none => #[.agg #[.int .i64 0, .int .i64 0, .string ⟨#[]⟩], .int .i64 1]))
theorem FParsed.yes (s : List UInt8) (w w' : World) (i : Nat) (h : Hen.fparseI s = some i) (hb : Below w.heap.size w w') : FParsed s w (.returned (.tuple #[.agg #[.int .i64 (1 + (i / 4 : Nat)), .int .i64 (i % 4 : Nat), .string ⟨(Lib.cut s [58]).2.1.toArray⟩], .int .i64 0])) w' := ⟨hb, by rw [h]⟩
theorem FParsed.no (s : List UInt8) (w w' : World) (h : Hen.fparseI s = none) (hb : Below w.heap.size w w') : FParsed s w (.returned (.tuple #[.agg #[.int .i64 0, .int .i64 0, .string ⟨#[]⟩], .int .i64 1])) w' := ⟨hb, by rw [h]⟩

set_option maxHeartbeats 8000000 in
theorem fparse_calls (s : ByteArray) (w : World) (hs : s.size < 4294967281) (hG : GL w) :
    Calls Tryz.prog 96 #[.string s] w (FParsed s.data.toList w) := by
  obtain ⟨m, hm⟩ := hG.maxLen
  have cCut := fun o => Tryz.strings_Cut s ⟨#[58]⟩ m (w.alloc o) hs ((World.cell?_alloc_lt w o _ (by have := hG.size; simp; omega)).trans hm)
  have hcl := cut_len s.data.toList [58]
  rw [show (⟨#[58]⟩ : ByteArray).data.toList = [58] from rfl] at cCut
  have hN := FParsed.no s.data.toList w
  have hY := FParsed.yes s.data.toList w
  have hH : ∀ k l, Hen.hitB s.data.toList k l = ((Hen.labelS k l).2 && ((Hen.kindS k ++ (Hen.labelS k l).1 == (Lib.cut s.data.toList [58]).1) && (Hen.lineS k l (Lib.cut s.data.toList [58]).2.1 == s.data.toList))) := fun _ _ => rfl
  generalize hC : Lib.cut s.data.toList [58] = C at cCut hcl hY hH
  obtain ⟨hd, vl, ok⟩ := C
  simp only at cCut hcl hY hH
  have cLine := fun k l W (hW : GL W) => line_calls k l ⟨vl.toArray⟩ W (by rw [mk_size vl]; have := hcl.2; simp at this; omega) hW
  rw [mk_toList] at cLine
  have CCut := Lib.hid cCut
  have CLine := Lib.hid cLine
  have HN := Lib.hid hN
  have HY := Lib.hid hY
  have HH := Lib.hid hH
  have HG := Lib.hid hG
  clear cCut cLine hN hY hH hG hm hcl hs
  go_enter Tryz.func96, Tryz.ntmps96
  go_wp2_with (go_at_call 95; refine (CCut.out _).mono ?_; rintro e w1 ⟨rfl, nd, rfl⟩)
  have HB0 : Box ((w.alloc (.cells #[.int .i64 0, .int .i64 0, .string ⟨#[]⟩] 129)).drewN nd) w.heap.size [.int .i64 0, .int .i64 0, .string ⟨#[]⟩] := (Box.new w _ _).drewN nd
  have HBE0 : Below w.heap.size w ((w.alloc (.cells #[.int .i64 0, .int .i64 0, .string ⟨#[]⟩] 129)).drewN nd) := below_drawn ((Below.refl _ _).alloc (Nat.le_refl _) _) nd
  go_loopw [7] (fun c wr => ∃ k : Nat, 1 ≤ k ∧ k ≤ 7 ∧ c = .int .i64 k ∧ Hid (∀ j, j < 4 * (k - 1) → Hen.hitI s.data.toList j = false) ∧ Hid (Box wr w.heap.size [.int .i64 0, .int .i64 0, .string ⟨#[]⟩]) ∧ Hid (Below w.heap.size w wr)) (fun c _ => 7 - (intOf c).toNat)
  case atStart => exact ⟨1, by omega, by omega, rfl, fun j hj => by omega, HB0, HBE0⟩
  case round =>
    obtain ⟨k, hk1, hk7, rfl, HK, HB, HBE⟩ := hrel
    obtain ⟨wo, rfl⟩ : ∃ wo : World, wo = wr := ⟨_, rfl⟩
    by_cases hk : k ≤ 6
    · have b6 : (k : Int) ≤ 6 := by omega
      go_wp2
      go_loopw [8] (fun c wi => ∃ l : Nat, l ≤ 4 ∧ c = .int .i64 l ∧ Hid (∀ j, j < 4 * (k - 1) + l → Hen.hitI s.data.toList j = false) ∧ Hid (Box wi w.heap.size [.int .i64 0, .int .i64 0, .string ⟨#[]⟩]) ∧ Hid (Below w.heap.size w wi)) (fun c _ => 4 - (intOf c).toNat)
      case atStart => exact ⟨0, by omega, rfl, HK, HB, HBE⟩
      case round =>
        obtain ⟨l, hl4, rfl, HK2, HB2, HBE2⟩ := hrel
        by_cases hl : l ≤ 3
        · have b3 : (l : Int) ≤ 3 := by omega
          have hidx : Hid (Hen.hitI s.data.toList (4 * (k - 1) + l) = Hen.hitB s.data.toList k l) := by
            unfold Hid Hen.hitI
            rw [show (4 * (k - 1) + l) / 4 = k - 1 by omega, show (4 * (k - 1) + l) % 4 = l by omega, show (1 : Int) + ((k - 1 : Nat) : Int) = (k : Int) by omega]
          have hX := HH.out k l
          have cL := fun W => label_calls2 k l W
          have cK := fun W => kind_calls k W
          have hkl : (Hen.kindS k).length ≤ 4 := by unfold Hen.kindS; (repeat' split); all_goals simp
          have hll : (Hen.labelS k l).1.length ≤ 5 := by unfold Hen.labelS; (repeat' split); all_goals simp
          have hnext : ∀ V : Bool, Hen.hitB s.data.toList k l = V → V = false → ∀ j, j < 4 * (k - 1) + (l + 1) → Hen.hitI s.data.toList j = false := fun V hV hF j hj => by
            rcases Nat.lt_or_ge j (4 * (k - 1) + l) with h | h
            · exact HK2.out j h
            · obtain rfl : j = 4 * (k - 1) + l := by omega
              rw [hidx.out, hV, hF]
          generalize Hen.hitB s.data.toList k l = X at hX hnext hidx
          generalize Hen.labelS k l = L at cL hX hll
          generalize Hen.kindS k = K at cK hX hkl
          obtain ⟨lt, lb⟩ := L
          simp only at cL hX hll
          have CL := Lib.hid cL
          have CK := Lib.hid cK
          have HNX := Lib.hid hnext
          clear cL cK hnext
          cases lb with
          | false =>
            have HX := Lib.hid (show X = false by rw [hX]; rfl)
            clear hX
            go_wp2_with (go_at_call 103; refine (CL.out _).mono ?_; rintro e w4 ⟨rfl, hw4⟩; subst hw4)
            go_roundw
            case rel => exact ⟨l + 1, by omega, by go_num, HNX.out _ rfl HX.out, HB2, HBE2⟩
            case measure => simp [intOf]; omega
          | true =>
            have a1 := fun W => run_string_add_lists (P := Tryz.prog) W K lt (by omega) (by omega)
            by_cases hh : K ++ lt = hd
            · have e1 : (K ++ lt == hd) = true := beq_iff_eq.2 hh
              have hX2 : X = (Hen.lineS k l vl == s.data.toList) := by rw [hX, e1]; simp
              have cLn := CLine.out k l
              generalize Hen.lineS k l vl = ln at hX2 cLn
              have CLn := Lib.hid cLn
              clear hX cLn hh hkl hll
              go_wp2_with (first | (go_at_call 103; refine (CL.out _).mono ?_; rintro e w4 ⟨rfl, hw4⟩; subst hw4) | (go_at_call 104; refine (CK.out _).mono ?_; rintro e w4 ⟨rfl, hw4⟩; subst hw4))
              refine (CLn.out _ (HG.out.below (HBE2.out.alloc HBE2.out.size _))).mono ?_
              rintro e w5 ⟨rfl, hb⟩
              obtain ⟨hP, hc⟩ := boxed hb
              have HB5 := (HB2.out.alloc (.cells #[.int .i64 k, .int .i64 l, .string ⟨vl.toArray⟩] 129)).step hb
              have HBE5 : Below w.heap.size w w5 := below_step HBE2.out HBE2.out.size hP.below
              have p0 : w5.cell? ⟨w4.heap.size, 0, none⟩ = some (.int .i64 k) := hc 0 _ rfl
              have p1 : w5.cell? ⟨w4.heap.size, 1, none⟩ = some (.int .i64 l) := hc 1 _ rfl
              have p2 : w5.cell? ⟨w4.heap.size, 2, none⟩ = some (.string ⟨vl.toArray⟩) := hc 2 _ rfl
              have q0 : w5.cell? ⟨w.heap.size, 0, none⟩ = some (.int .i64 0) := HB5.cell 0 rfl
              have qf0 : w5.frozen? ⟨w.heap.size, 0, none⟩ = false := HB5.free 0 (v := .int .i64 0) rfl
              have q1 : w5.cell? ⟨w.heap.size, 1, none⟩ = some (.int .i64 0) := HB5.cell 1 rfl
              have qf1 : w5.frozen? ⟨w.heap.size, 1, none⟩ = false := HB5.free 1 (v := .int .i64 0) rfl
              have q2 : w5.cell? ⟨w.heap.size, 2, none⟩ = some (.string ⟨#[]⟩) := HB5.cell 2 rfl
              have qf2 : w5.frozen? ⟨w.heap.size, 2, none⟩ = false := HB5.free 2 (v := .string ⟨#[]⟩) rfl
              have HBX5 := Lib.hid HB5
              have HBEX5 := Lib.hid HBE5
              clear hb hc HB5 HBE5
              by_cases hx : ln = s.data.toList
              · have e2 : (ln == s.toList) = true := by rw [beq_iff_eq, hx, toList_data]
                have hfound : Hen.fparseI s.data.toList = some (4 * (k - 1) + l) := fparse_some (by omega) (by rw [hidx.out, hX2, hx]; simp) HK2.out
                have hfin : ∀ W', Below w.heap.size w W' → FParsed s.data.toList w (.returned (.tuple #[.agg #[.int .i64 (k : Int), .int .i64 (l : Int), .string ⟨vl.toArray⟩], .int .i64 0])) W' := fun W' hW' => by
                  have := HY.out W' _ hfound hW'
                  rwa [show (1 : Int) + (((4 * (k - 1) + l) / 4 : Nat) : Int) = (k : Int) by omega, show (((4 * (k - 1) + l) % 4 : Nat) : Int) = (l : Int) by omega] at this
                have HFIN := Lib.hid hfin
                clear hx hX2 hfound hfin
                go_wp2
                refine bodyPost_ret (v := .tuple #[.agg #[.int .i64 k, .int .i64 l, .string ⟨vl.toArray⟩], .int .i64 0]) (by simp [results, Tryz.results96, go_sem, q0, q1, q2, qf0, qf1, qf2]) rfl (HFIN.out _ ?_)
                exact ((HBEX5.out.setCell (by simp) _).setCell (by simp) _).setCell (by simp) _
              · have e2 : (ln == s.toList) = false := by rw [beq_eq_false_iff_ne, toList_data]; exact hx
                have HX := Lib.hid (show X = false by rw [hX2, ← toList_data, e2])
                clear hx hX2
                go_wp2
                go_roundw
                case rel => exact ⟨l + 1, by omega, by go_num, HNX.out _ rfl HX.out, HBX5, HBEX5⟩
                case measure => simp [intOf]; omega
            · have e1 : (K ++ lt == hd) = false := beq_eq_false_iff_ne.2 hh
              have HX := Lib.hid (show X = false by rw [hX, e1]; rfl)
              clear hX hh hkl hll
              go_wp2_with (first | (go_at_call 103; refine (CL.out _).mono ?_; rintro e w4 ⟨rfl, hw4⟩; subst hw4) | (go_at_call 104; refine (CK.out _).mono ?_; rintro e w4 ⟨rfl, hw4⟩; subst hw4))
              go_roundw
              case rel => exact ⟨l + 1, by omega, by go_num, HNX.out _ rfl HX.out, HB2, HBE2⟩
              case measure => simp [intOf]; omega
        · obtain rfl : l = 4 := by omega
          go_wp2
          go_roundw
          case rel => exact ⟨k + 1, by omega, by omega, by go_num, fun j hj => HK2.out j (by omega), HB2, HBE2⟩
          case measure => simp [intOf]; omega
    · obtain rfl : k = 7 := by omega
      have q0 : wo.cell? ⟨w.heap.size, 0, none⟩ = some (.int .i64 0) := HB.out.cell 0 rfl
      have qf0 : wo.frozen? ⟨w.heap.size, 0, none⟩ = false := HB.out.free 0 (v := .int .i64 0) rfl
      have q1 : wo.cell? ⟨w.heap.size, 1, none⟩ = some (.int .i64 0) := HB.out.cell 1 rfl
      have qf1 : wo.frozen? ⟨w.heap.size, 1, none⟩ = false := HB.out.free 1 (v := .int .i64 0) rfl
      have q2 : wo.cell? ⟨w.heap.size, 2, none⟩ = some (.string ⟨#[]⟩) := HB.out.cell 2 rfl
      have qf2 : wo.frozen? ⟨w.heap.size, 2, none⟩ = false := HB.out.free 2 (v := .string ⟨#[]⟩) rfl
      have hnone : Hen.fparseI s.data.toList = none := fparse_none fun j hj => HK.out j (by omega)
      have HFIN := Lib.hid (fun W' => HN.out W' hnone)
      clear hnone
      go_wp2
      refine bodyPost_ret (v := .tuple #[.agg #[.int .i64 0, .int .i64 0, .string ⟨#[]⟩], .int .i64 1]) (by simp [results, Tryz.results96, go_sem, q0, q1, q2, qf0, qf1, qf2]) rfl (HFIN.out _ ?_)
      exact ((HBE.out.setCell (by simp) _).setCell (by simp) _).setCell (by simp) _
end Go.Proofs.YtcmoidldalgljaaGreatDoor

/-
  Arguments opened: a request that comes in; what the laid variables give.
-/
import Derived.Test.YtcmoidldalgljaaGreatDoorPv
import Derived.Test.YtcmoidldalgljaaGreatDoorRows
import Derived.ProofKit
import Derived.OpenShut
import Derived.LaidMore
import Derived.Lay
import Derived.PinnedBridge
import Derived.Lib.LaidU8
import Derived.HandedShaped
import Derived.Shelf.Vars
import Derived.Deep.Slices
import Derived.Stop.Joined
import Derived.Test.YtcmoidldalgljaaGreatDoorCards
import Derived.Test.YtcmoidldalgljaaGreatDoorTie
import Derived.SevenTiedAt
set_option linter.unusedVariables false
set_option linter.unusedSimpArgs false
namespace Go.Proofs.YtcmoidldalgljaaGreatDoor
open Go.RowKit Go.ChangeShapes Go.WideShapes Go.ChangeAt Go.Deep
open Hen

theorem own : ownKnob Tryz.prog.godebug = none := by kernel_rfl
theorem laidOut : laidOutB Tryz.prog = true := by kernel_rfl

/-! ### Weights: nothing that is read is greater than the reach -/
section
variable {H : Type} {enc : TypeId × Value → H} {P : Program} {w : World} {base : Nat} {spare : Nat → Bool} {held : Bool}
def Bd (P : Program) (t : TypeId) (d : DataW H) : Prop := ∀ n ∈ d.weights P t, n ≤ reachBytes
theorem weights_mem_all {e : TypeId} : ∀ {ds : List (DataW H)} {i : Nat} {d : DataW H}, ds[i]? = some d → ∀ n ∈ d.weights P e, n ∈ DataW.weightsAll P e ds
  | [], i, d, h, n, hn => by simp at h
  | x :: r, 0, d, h, n, hn => by
    simp at h; subst h
    simp only [DataW.weightsAll, List.mem_append]
    exact .inl hn
  | x :: r, i + 1, d, h, n, hn => by
    simp only [DataW.weightsAll, List.mem_append]
    exact .inr (weights_mem_all (ds := r) (i := i) (by simpa using h) n hn)
theorem Bd.arg {ts : List TypeId} {ds : List (DataW H)} (h : (DataW.weightsEach P ts ds).all (· ≤ reachBytes) = true) {j : Nat} {t : TypeId} {d : DataW H} (ht : ts[j]? = some t) (hd : ds[j]? = some d) : Bd P t d := fun n hn => by
  have := List.all_eq_true.1 h n (DataW.weights_mem_each ht hd n hn)
  simpa using this
theorem Bd.field {t : TypeId} {fs : Array Field} {parts : List (DataW H)} (h : Bd P t (.agg parts)) (hu : P.underlying t = some (.struct fs)) {j : Nat} {f : Field} {d : DataW H} (hf : fs[j]? = some f) (hd : parts[j]? = some d) : Bd P f.type d := fun n hn => by
  refine h n ?_
  simp only [DataW.weights, hu]
  exact DataW.weights_mem_each (j := j) (by simp [hf]) hd n hn
theorem Bd.elem {t e : TypeId} {elems spare : List (DataW H)} (h : Bd P t (.slice elems spare)) (hu : P.underlying t = some (.slice e)) {i : Nat} {d : DataW H} (hd : elems[i]? = some d) : Bd P e d := fun n hn => by
  refine h n ?_
  simp only [DataW.weights, hu, List.mem_cons, List.mem_append]
  exact .inr (.inl (weights_mem_all hd n hn))
theorem Bd.len {t e : TypeId} {elems spare : List (DataW H)} (h : Bd P t (.slice elems spare)) (hu : P.underlying t = some (.slice e)) (hb : 1 ≤ P.bytesOf e) : elems.length ≤ 140737488355327 := by
  have := h ((elems.length + spare.length) * P.bytesOf e) (by simp only [DataW.weights, hu]; simp)
  have h2 : (elems.length + spare.length) * 1 ≤ (elems.length + spare.length) * P.bytesOf e := Nat.mul_le_mul_left _ hb
  unfold reachBytes at this
  omega
theorem Bd.string {t : TypeId} {l : List UInt8} (h : Bd P t (.lit (.string l) : DataW H)) : l.length ≤ 140737488355327 := by
  have := h l.length (by simp only [DataW.weights, List.mem_singleton])
  unfold reachBytes at this
  omega
end

section
variable {H : Type} {enc : TypeId × Value → H} {w : World} {base : Nat} {spare : Nat → Bool} {held : Bool}
theorem cInt : Tryz.prog.cellsOf 3 = 1 := by kernel_rfl
theorem cI64 : Tryz.prog.cellsOf 2 = 1 := by kernel_rfl
theorem cStr : Tryz.prog.cellsOf 9 = 1 := by kernel_rfl
theorem cBool : Tryz.prog.cellsOf 4 = 1 := by kernel_rfl
theorem cCond : Tryz.prog.cellsOf 23 = 2 := by kernel_rfl
theorem cOp : Tryz.prog.cellsOf 40 = 5 := by kernel_rfl
theorem cOps : Tryz.prog.cellsOf 24 = 1 := by kernel_rfl
theorem cReq : Tryz.prog.cellsOf 26 = 11 := by kernel_rfl
theorem size_data (s : ByteArray) : s.data.toList.length = s.size := Array.length_toList

set_option maxRecDepth 100000 in
/-- Two cells that read as a condition. -/
theorem cond_of_cells {fuel : Nat} {c0 c1 : Value} {x : DataW H × List MemPlace} (h : DataW.trod enc Tryz.prog w base spare held fuel 23 [c0, c1] = some x) :
    ∃ k v : Int, c0 = .int .i64 k ∧ c1 = .int .i64 v ∧ k ≤ 9223372036854775807 ∧ v ≤ 9223372036854775807 := by
  obtain ⟨xs, n, rfl, hx, hl, hxl, hall⟩ := DataW.trod_struct Tryz.underlying23 h
  match xs, hxl with
  | [x0, x1], _ =>
    have h0 : DataW.trod enc Tryz.prog w base spare held n 3 (([c0, c1].drop 0).take (Tryz.prog.cellsOf 3)) = [x0, x1][0]? := hall 0 _ rfl
    have h1 : DataW.trod enc Tryz.prog w base spare held n 2 (([c0, c1].drop 1).take (Tryz.prog.cellsOf 2)) = [x0, x1][1]? := hall 1 _ rfl
    simp only [cInt, cI64, List.drop_zero, List.drop_succ_cons, List.take_succ_cons, List.take_zero, List.getElem?_cons_zero, List.getElem?_cons_succ] at h0 h1
    obtain ⟨k, e0, _, w0⟩ := DataW.trod_int Tryz.underlying3 h0
    obtain ⟨v, e1, _, w1⟩ := DataW.trod_int Tryz.underlying2 h1
    simp at e0 e1
    exact ⟨k, v, e0, e1, (bounds_i64 w0).2, (bounds_i64 w1).2⟩
set_option maxRecDepth 100000 in
/-- Five cells that read as a write. -/
theorem op_of_cells {fuel : Nat} {cs : List Value} {x : DataW H × List MemPlace} (h : DataW.trod enc Tryz.prog w base spare held fuel 40 cs = some x) (hB : Bd Tryz.prog 40 x.1) :
    ∃ o : Opx, cs = o.cells ∧ o.uid.size ≤ 140737488355327 ∧ o.card.size ≤ 140737488355327 ∧ o.ck ≤ 9223372036854775807 ∧ o.cv ≤ 9223372036854775807 := by
  obtain ⟨xs, n, rfl, hx, hl, hxl, hall⟩ := DataW.trod_struct Tryz.underlying40 h
  rw [cOp] at hl
  match cs, hl, xs, hxl with
  | [c0, c1, c2, c3, c4], _, [x0, x1, x2, x3], _ =>
    have h0 : DataW.trod enc Tryz.prog w base spare held n 4 (([c0, c1, c2, c3, c4].drop 0).take (Tryz.prog.cellsOf 4)) = [x0, x1, x2, x3][0]? := hall 0 _ rfl
    have h1 : DataW.trod enc Tryz.prog w base spare held n 9 (([c0, c1, c2, c3, c4].drop 1).take (Tryz.prog.cellsOf 9)) = [x0, x1, x2, x3][1]? := hall 1 _ rfl
    have h2 : DataW.trod enc Tryz.prog w base spare held n 9 (([c0, c1, c2, c3, c4].drop 2).take (Tryz.prog.cellsOf 9)) = [x0, x1, x2, x3][2]? := hall 2 _ rfl
    have h3 : DataW.trod enc Tryz.prog w base spare held n 23 (([c0, c1, c2, c3, c4].drop 3).take (Tryz.prog.cellsOf 23)) = [x0, x1, x2, x3][3]? := hall 3 _ rfl
    simp only [cBool, cStr, cCond, List.drop_zero, List.drop_succ_cons, List.take_succ_cons, List.take_zero, List.getElem?_cons_zero, List.getElem?_cons_succ] at h0 h1 h2 h3
    obtain ⟨d, e0, _⟩ := DataW.trod_bool Tryz.underlying4 h0
    obtain ⟨u, e1, y1, _⟩ := DataW.trod_string Tryz.underlying9 h1
    obtain ⟨cd, e2, y2, _⟩ := DataW.trod_string Tryz.underlying9 h2
    obtain ⟨k, v, rfl, rfl, hk, hv⟩ := cond_of_cells h3
    subst hx
    have b1 := (Bd.field hB Tryz.underlying40 (j := 1) rfl rfl : Bd Tryz.prog 9 x1.1)
    have b2 := (Bd.field hB Tryz.underlying40 (j := 2) rfl rfl : Bd Tryz.prog 9 x2.1)
    rw [y1] at b1
    rw [y2] at b2
    have b1 := b1.string
    have b2 := b2.string
    rw [size_data] at b1 b2
    simp at e0 e1 e2
    subst e0 e1 e2
    exact ⟨⟨d, u, cd, k, v⟩, rfl, b1, b2, hk, hv⟩
set_option maxRecDepth 100000 in
/-- One cell that reads as writes. -/
theorem ops_of_cells {fuel : Nat} {cs : List Value} {x : DataW H × List MemPlace} (h : DataW.trod enc Tryz.prog w base spare held fuel 24 cs = some x) (hB : Bd Tryz.prog 24 x.1) :
    ∃ (ops : List Opx) (A : Option Addr) (c : Nat), cs = [.slice A ops.length c] ∧ OpsAt w A ops ∧ ops.length ≤ 140737488355327 ∧
      ∀ o ∈ ops, o.uid.size ≤ 140737488355327 ∧ o.card.size ≤ 140737488355327 ∧ o.ck ≤ 9223372036854775807 ∧ o.cv ≤ 9223372036854775807 := by
  rcases open_slice Tryz.underlying24 h with ⟨rfl, rfl⟩ | ⟨a, len, cap, m, n, D, Pl, rfl, hb, hl, hm, hmm, rfl, hi⟩
  · exact ⟨[], none, 0, rfl, OpsAt.nil_ _ _, by simp, fun o ho => by cases ho⟩
  · have hlm : len ≤ m := by rw [hmm]; split <;> omega
    obtain ⟨V, hV⟩ := choose_lt (α := Opx) (n := len) (p := fun i o => (∀ j u, o.cells[j]? = some u → w.cell? ((a.add (i * 5)).add j) = some u) ∧ o.uid.size ≤ 140737488355327 ∧ o.card.size ≤ 140737488355327 ∧ o.ck ≤ 9223372036854775807 ∧ o.cv ≤ 9223372036854775807) (fun i hil => by
      obtain ⟨cs', hc, ht⟩ := hi i (by omega)
      rw [cOp] at hc
      obtain ⟨_, hcl, hat⟩ := World.cells?_some hc
      obtain ⟨o, rfl, r⟩ := op_of_cells ht (Bd.elem hB Tryz.underlying24 (i := i) (by simp [List.getElem?_range hil]))
      refine ⟨o, fun j u hu => ?_, r⟩
      have hj : j < 5 := by
        rcases Nat.lt_or_ge j 5 with h' | h'
        · exact h'
        · rw [List.getElem?_eq_none (by simp [Opx.cells]; omega)] at hu; cases hu
      rw [hat j hj]; exact hu)
    have hbound := Bd.len hB Tryz.underlying24 (of_decide_eq_true (by kernel_rfl))
    refine ⟨(List.range len).map V, some a, cap, by simp, fun k hk => ?_, by simpa using hbound, fun o ho => ?_⟩
    · have hk' : k < len := by simpa using hk
      have e : ((List.range len).map V)[k]! = V k := by rw [getElem!_pos _ k hk]; simp
      refine ⟨a, rfl, ?_, by rw [e]; exact (hV k hk').1⟩
      have := (hV k hk').1 0 _ rfl
      unfold World.cell? at this
      rcases Nat.lt_or_ge a.block w.heap.size with h' | h'
      · exact h'
      · rw [Array.getElem?_eq_none (by rw [add_block, add_block]; exact h')] at this; cases this
    · obtain ⟨i, hi', rfl⟩ := List.mem_map.1 ho
      exact (hV i (by simpa using hi')).2

def Rq.cells (q : Rq) (A : Option Addr) (c : Nat) : List Value :=
  [.int .i64 q.k, .string q.tenant, .string q.col, .string q.uid, .string q.card, .int .i64 q.ck, .int .i64 q.cv, .slice A q.ops.length c, .int .i64 q.tok, .int .i64 q.most, .int .i64 q.ticks]
set_option maxRecDepth 100000 in
/-- Eleven cells that read as a request. -/
theorem req_of_cells {fuel : Nat} {cs : List Value} {x : DataW H × List MemPlace} (h : DataW.trod enc Tryz.prog w base spare held fuel 26 cs = some x) (hB : Bd Tryz.prog 26 x.1) :
    ∃ (q : Rq) (A : Option Addr) (c : Nat), cs = Rq.cells q A c ∧ OpsAt w A q.ops ∧ Sizes q := by
  obtain ⟨xs, n, rfl, hx, hl, hxl, hall⟩ := DataW.trod_struct Tryz.underlying26 h
  rw [cReq] at hl
  match cs, hl, xs, hxl with
  | [c0, c1, c2, c3, c4, c5, c6, c7, c8, c9, c10], _, [x0, x1, x2, x3, x4, x5, x6, x7, x8, x9], _ =>
    have h0 : DataW.trod enc Tryz.prog w base spare held n 3 (([c0, c1, c2, c3, c4, c5, c6, c7, c8, c9, c10].drop 0).take (Tryz.prog.cellsOf 3)) = [x0, x1, x2, x3, x4, x5, x6, x7, x8, x9][0]? := hall 0 _ rfl
    have h1 : DataW.trod enc Tryz.prog w base spare held n 9 (([c0, c1, c2, c3, c4, c5, c6, c7, c8, c9, c10].drop 1).take (Tryz.prog.cellsOf 9)) = [x0, x1, x2, x3, x4, x5, x6, x7, x8, x9][1]? := hall 1 _ rfl
    have h2 : DataW.trod enc Tryz.prog w base spare held n 9 (([c0, c1, c2, c3, c4, c5, c6, c7, c8, c9, c10].drop 2).take (Tryz.prog.cellsOf 9)) = [x0, x1, x2, x3, x4, x5, x6, x7, x8, x9][2]? := hall 2 _ rfl
    have h3 : DataW.trod enc Tryz.prog w base spare held n 9 (([c0, c1, c2, c3, c4, c5, c6, c7, c8, c9, c10].drop 3).take (Tryz.prog.cellsOf 9)) = [x0, x1, x2, x3, x4, x5, x6, x7, x8, x9][3]? := hall 3 _ rfl
    have h4 : DataW.trod enc Tryz.prog w base spare held n 9 (([c0, c1, c2, c3, c4, c5, c6, c7, c8, c9, c10].drop 4).take (Tryz.prog.cellsOf 9)) = [x0, x1, x2, x3, x4, x5, x6, x7, x8, x9][4]? := hall 4 _ rfl
    have h5 : DataW.trod enc Tryz.prog w base spare held n 23 (([c0, c1, c2, c3, c4, c5, c6, c7, c8, c9, c10].drop 5).take (Tryz.prog.cellsOf 23)) = [x0, x1, x2, x3, x4, x5, x6, x7, x8, x9][5]? := hall 5 _ rfl
    have h6 : DataW.trod enc Tryz.prog w base spare held n 24 (([c0, c1, c2, c3, c4, c5, c6, c7, c8, c9, c10].drop 7).take (Tryz.prog.cellsOf 24)) = [x0, x1, x2, x3, x4, x5, x6, x7, x8, x9][6]? := hall 6 _ rfl
    have h7 : DataW.trod enc Tryz.prog w base spare held n 2 (([c0, c1, c2, c3, c4, c5, c6, c7, c8, c9, c10].drop 8).take (Tryz.prog.cellsOf 2)) = [x0, x1, x2, x3, x4, x5, x6, x7, x8, x9][7]? := hall 7 _ rfl
    have h8 : DataW.trod enc Tryz.prog w base spare held n 3 (([c0, c1, c2, c3, c4, c5, c6, c7, c8, c9, c10].drop 9).take (Tryz.prog.cellsOf 3)) = [x0, x1, x2, x3, x4, x5, x6, x7, x8, x9][8]? := hall 8 _ rfl
    have h9 : DataW.trod enc Tryz.prog w base spare held n 3 (([c0, c1, c2, c3, c4, c5, c6, c7, c8, c9, c10].drop 10).take (Tryz.prog.cellsOf 3)) = [x0, x1, x2, x3, x4, x5, x6, x7, x8, x9][9]? := hall 9 _ rfl
    simp only [cInt, cI64, cStr, cCond, cOps, List.drop_zero, List.drop_succ_cons, List.take_succ_cons, List.take_zero, List.getElem?_cons_zero, List.getElem?_cons_succ] at h0 h1 h2 h3 h4 h5 h6 h7 h8 h9
    obtain ⟨k, e0, _, _⟩ := DataW.trod_int Tryz.underlying3 h0
    obtain ⟨tenant, e1, y1, _⟩ := DataW.trod_string Tryz.underlying9 h1
    obtain ⟨col, e2, y2, _⟩ := DataW.trod_string Tryz.underlying9 h2
    obtain ⟨uid, e3, y3, _⟩ := DataW.trod_string Tryz.underlying9 h3
    obtain ⟨card, e4, y4, _⟩ := DataW.trod_string Tryz.underlying9 h4
    obtain ⟨ck, cv, rfl, rfl, hk, hv⟩ := cond_of_cells h5
    subst hx
    have b6 := (Bd.field hB Tryz.underlying26 (j := 6) rfl rfl : Bd Tryz.prog 24 x6.1)
    obtain ⟨ops, A, c, e6, hO, hn, hE⟩ := ops_of_cells h6 b6
    obtain ⟨tok, e7, _, w7⟩ := DataW.trod_int Tryz.underlying2 h7
    obtain ⟨most, e8, _, w8⟩ := DataW.trod_int Tryz.underlying3 h8
    obtain ⟨ticks, e9, _, w9⟩ := DataW.trod_int Tryz.underlying3 h9
    have b1 := (Bd.field hB Tryz.underlying26 (j := 1) rfl rfl : Bd Tryz.prog 9 x1.1)
    have b2 := (Bd.field hB Tryz.underlying26 (j := 2) rfl rfl : Bd Tryz.prog 9 x2.1)
    have b3 := (Bd.field hB Tryz.underlying26 (j := 3) rfl rfl : Bd Tryz.prog 9 x3.1)
    have b4 := (Bd.field hB Tryz.underlying26 (j := 4) rfl rfl : Bd Tryz.prog 9 x4.1)
    rw [y1] at b1
    rw [y2] at b2
    rw [y3] at b3
    rw [y4] at b4
    have b1 := b1.string
    have b2 := b2.string
    have b3 := b3.string
    have b4 := b4.string
    rw [size_data] at b1 b2 b3 b4
    simp at e0 e1 e2 e3 e4 e6 e7 e8 e9
    subst e0 e1 e2 e3 e4 e6 e7 e8 e9
    refine ⟨⟨k, tenant, col, uid, card, ck, cv, ops, tok, most, ticks⟩, A, c, rfl, hO, b1, b2, b3, b4, hn, fun k hk => ?_, ⟨hv, (bounds_i64 w7).2, fun o ho => (hE o ho).2.2.2⟩, hk, (bounds_i64 w8).2, (bounds_i64 w9).2, fun o ho => (hE o ho).2.2.1⟩
    rw [getElem!_pos _ k hk]
    exact ⟨(hE _ (List.getElem_mem _)).1, (hE _ (List.getElem_mem _)).2.1⟩
theorem Rq.cells_val (q : Rq) (A : Option Addr) (c : Nat) (v : Value) (cs : Array Value) (hv : v = .agg cs) (h : cs.toList = Rq.cells q A c) : v = q.val A c := by
  subst hv
  unfold Rq.val
  congr 1
  apply Array.ext'
  rw [h]
  rfl
end
end Go.Proofs.YtcmoidldalgljaaGreatDoor
set_option linter.unusedVariables false
set_option linter.unusedSimpArgs false
namespace Go.Proofs.YtcmoidldalgljaaGreatDoor
open Go.RowKit Go.ChangeShapes Go.WideShapes Go.ChangeAt Go.Deep
open Go.ChangeMaps (open_string shut_string)
open Hen

def laid5 : List (String × DataW Unit) := [("math/bits.deBruijn32tab", Rows.laid_math_bits_deBruijn32tab), ("math/bits.deBruijn64tab", Rows.laid_math_bits_deBruijn64tab), ("internal/strconv.uint64pow10", Rows.laid_internal_strconv_uint64pow10), ("unicode/utf8.acceptRanges", Rows.laid_unicode_utf8_acceptRanges), ("unicode/utf8.first", Rows.laid_unicode_utf8_first)]

theorem cU8 : Tryz.prog.cellsOf 5 = 1 := by kernel_rfl
theorem cU64 : Tryz.prog.cellsOf 119 = 1 := by kernel_rfl
theorem tabs_of_reads {w : World} (h3 : Lib.VarReads Tryz.prog w "unicode/utf8.first" Lib.firstData) (h4 : Lib.VarReads Tryz.prog w "unicode/utf8.acceptRanges" Lib.acceptData) : Lib.Utf8Tabs 1 2 w := by
  refine ⟨fun c hc => ?_, fun i hi => ?_⟩
  · obtain ⟨g, t, cs, fuel, p, hg, hty, hvar, hd⟩ := h3
    obtain rfl := Option.some.inj ((show Tryz.prog.globalNamed "unicode/utf8.first" = some 1 by kernel_rfl).symm.trans hg)
    obtain rfl := Option.some.inj ((show (Tryz.prog.globals[1]?).map (·.type) = some 189 by kernel_rfl).symm.trans hty)
    have hcs := Lib.cells_of_tab Tryz.underlying189 Tryz.underlying5 cU8 (by kernel_rfl) hd
    have := World.var?_cell hg hvar c
    rw [this, ← Array.getElem?_toList, hcs]
    simp [Lib.firstTab, hc]
  · obtain ⟨g, t, cs, fuel, p, hg, hty, hvar, hd⟩ := h4
    obtain rfl := Option.some.inj ((show Tryz.prog.globalNamed "unicode/utf8.acceptRanges" = some 2 by kernel_rfl).symm.trans hg)
    obtain rfl := Option.some.inj ((show (Tryz.prog.globals[2]?).map (·.type) = some 192 by kernel_rfl).symm.trans hty)
    obtain ⟨fuel', d, q, hdi, he⟩ := Lib.array_elem Tryz.underlying192 hd i hi
    simp only [List.getElem?_map, List.getElem?_range hi, Option.map_some, Option.some.injEq] at hdi
    subst hdi
    have c138 : Tryz.prog.cellsOf 191 = 2 := by kernel_rfl
    rw [c138] at he
    have hcs := Lib.ints_of_struct Tryz.underlying191 (fun j f hj => by
      match j, hj with
      | 0, hj => simp at hj; subst hj; exact ⟨Tryz.underlying5, rfl, cU8⟩
      | 1, hj => simp at hj; subst hj; exact ⟨Tryz.underlying5, rfl, cU8⟩
      | j + 2, hj => simp at hj) (by rw [c138]; rfl) he
    have e0 := congrArg (·[0]?) hcs
    have e1 := congrArg (·[1]?) hcs
    simp only [List.getElem?_take, List.getElem?_drop] at e0 e1
    constructor
    · rw [World.var?_cell hg hvar (2 * i), ← Array.getElem?_toList]
      simpa [Nat.mul_comm] using e0
    · rw [World.var?_cell hg hvar (2 * i + 1), ← Array.getElem?_toList]
      simpa [Nat.mul_comm] using e1
theorem gl_of_laid {W : World} (h : laidMetH Tryz.prog laid5 W) (hs : W.ShapedOpen Tryz.prog) : GL W := by
  rw [MakeChecks.laidMetH_plain _ _ _ (by kernel_rfl)] at h
  refine ⟨?_, ?_, ?_, ?_⟩
  · obtain ⟨z, hz⟩ : ∃ z, ((begin Tryz.prog (fun _ _ => 0) default).world.heap[5]?).bind Obj.row? = some (z, 222) := ⟨Array.replicate 64 (.int .u8 0), by kernel_rfl⟩
    obtain ⟨cs, hh, _, _⟩ := hs.1 5 z 222 (of_decide_eq_true (by kernel_rfl)) hz
    rcases Nat.lt_or_ge 5 W.heap.size with h' | h'
    · omega
    · rw [Array.getElem?_eq_none h'] at hh; cases hh
  · exact cell_of_shapedOpen_int (t := 3) (zero := #[.int .i64 0]) hs (of_decide_eq_true (by kernel_rfl)) (by kernel_rfl) rfl (by kernel_rfl) (by kernel_rfl) Tryz.underlying3
  · refine tabs_of_reads ?_ ?_
    · have := Lib.laidMet.reads h (n := "unicode/utf8.first") (d := Rows.laid_unicode_utf8_first) (by simp [laid5])
      unfold Rows.laid_unicode_utf8_first at this
      rwa [Pinned.utf8First_eq] at this
    · have := Lib.laidMet.reads h (n := "unicode/utf8.acceptRanges") (d := Rows.laid_unicode_utf8_acceptRanges) (by simp [laid5])
      rwa [show (Rows.laid_unicode_utf8_acceptRanges : DataW Unit) = Lib.acceptData by kernel_rfl] at this
  · obtain ⟨g, t, cs, fuel, p, hg, hty, hvar, hd⟩ := Lib.laidMet.reads h (n := "internal/strconv.uint64pow10") (d := Rows.laid_internal_strconv_uint64pow10) (by simp [laid5])
    obtain rfl := Option.some.inj ((show Tryz.prog.globalNamed "internal/strconv.uint64pow10" = some 3 by kernel_rfl).symm.trans hg)
    obtain rfl := Option.some.inj ((show (Tryz.prog.globals[3]?).map (·.type) = some 219 by kernel_rfl).symm.trans hty)
    rw [show (Rows.laid_internal_strconv_uint64pow10 : DataW Unit) = Lib.tabData .u64 Lib.pow10Tab by kernel_rfl] at hd
    unfold Lib.TabIs
    rw [hvar, ← Lib.cells_of_tab Tryz.underlying219 Tryz.underlying119 cU64 (by kernel_rfl) hd]

/-- The plain wrap, with the world's shape and the listed variables. -/
theorem wrap {H : Type} {enc : TypeId × Value → H} {C : Checked} {os : Os} {f : FuncId} {fn : Func} {s : ChangeSpec} {conds : List PathCond} {apart fresh handsOn again : Bool} {X : World → Array Value → Prop}
    (hX : ∀ (w w' : World) (args : Array Value), w.heap = w'.heap → X w args → X w' args)
    (own : ownKnob C.prog.godebug = none) (started : os.Started) (noInit : C.prog.inits.idxOf? f = none) (hfn : C.prog.funcs[f]? = some fn)
    (witness : ∃ (w : World) (tape : Tape) (i : Input), w.os = os ∧ (w.forCall tape i).Shaped C.prog ∧ i.vars = [] ∧ Input.okWide C.prog (w.forCall tape i) .any w.heap.size f i ∧
      ((s.pre enc C.prog fn conds apart (w.forCall tape i).memory i.args ∧ X (w.forCall tape i).memory i.args) ∧ sizedMet enc C.prog fn (OpenSpec.ofChange s) apart (w.forCall tape i).memory i.args) ∧ ({} : Assume).holds C.prog (lone (Frame.enter C.prog f i.args .normal) [] (w.forCall tape i)))
    (contract : ∀ (W : World) (base : Nat) (args : Array Value) (ds gs : List (DataW H)) (before : List MemPlace),
      (∀ (j : Nat) t v, fn.params[j]? = some t → args[j]? = some v → Value.okWide C.prog W .any base t v) →
      DataW.Whole enc C.prog fn.params.toList s.vars apart W args.toList ds gs before →
      (DataW.weightsEach C.prog (fn.params.toList ++ s.plain.varTypes C.prog) (ds ++ gs)).all (· ≤ reachBytes) = true → X W args → W.ShapedOpen C.prog →
      Calls C.prog f args W fun e W' => ∃ v, e = .returned v ∧ s.post enc C.prog fn apart fresh handsOn again W args v W') :
    ReturnsInHanded {} C os f .any (fun w args => (s.pre enc C.prog fn conds apart w args ∧ X w args) ∧ sizedMet enc C.prog fn (OpenSpec.ofChange s) apart w args) (s.post enc C.prog fn apart fresh handsOn again) := by
  refine returnsInHanded_of_calls own started noInit witness ?_
  intro w tape i _ hsh _ hok hpre hholds
  obtain ⟨_, _, _, fn', hfn', _, _, _, _, hval⟩ := hok
  have e : fn' = fn := Option.some.inj (hfn'.symm.trans hfn)
  subst e
  obtain ⟨⟨⟨ds, gs, before, hw, hc⟩, hx⟩, hz⟩ := hpre
  have hw' := DataW.Whole.of_heap (w' := w.forCall tape i) (by rfl) hw
  refine (contract (w.forCall tape i) w.heap.size i.args ds gs before hval hw' (hz.weights hw) (hX _ _ _ (by rfl) hx) hsh).mono fun e W' ⟨v, he, hp⟩ => ?_
  subst he
  exact ChangeSpec.post_blind hp

section
variable {H : Type} {enc : TypeId × Value → H} {P : Program}
/-- The last step, where memory has been made. -/
theorem post_of_below {f : Func} {s : ChangeSpec} {apart fresh handsOn again : Bool} {W W' : World} {args : Array Value} {v : Value} {ds gs : List (DataW H)} {before pa pv : List MemPlace}
    (hW : DataW.Whole enc P f.params.toList s.vars apart W args.toList ds gs before)
    (hres : ∀ (b : Nat) (sp : Nat → Bool) (hd : Bool), DataW.TrodAll enc P W' b sp hd f.resultTypes.toList (v.resultList f.resultTypes.size) (s.fn H (ds ++ gs)).results [])
    (hargs : ∀ sp : Nat → Bool, (∀ p ∈ before, sp p.block = true) → DataW.TrodAll enc P W' 0 sp true f.params.toList args.toList (s.fn H (ds ++ gs)).args pa)
    (hvars : ∀ sp : Nat → Bool, (∀ p ∈ before, sp p.block = true) → DataW.TrodVars enc P W' sp s.vars (s.fn H (ds ++ gs)).vars pv)
    (hps : before = pa ++ pv) (hb : Below W.heap.size W W')
    (hok : ∀ (j : Nat) (t : TypeId) (r : Value), f.resultTypes[j]? = some t → (v.resultList f.resultTypes.size)[j]? = some r → Value.okWide P W' .any 0 t r) :
    s.post enc P f apart fresh handsOn again W args v W' := by
  have hlt : ∀ p ∈ before, p.block < W.heap.size := fun p hp => hW.lt p hp
  have hold : ∀ p ∈ before, (fun b => decide (b < W.heap.size)) p.block = true := fun p hp => by simpa using hlt p hp
  refine ⟨ds, gs, before, [], pa, pv, hW, hres _ _ _, hargs _ hold, hvars _ hold, World.keptBut_mono (fun p hp => ⟨hp, ?_⟩) (hb.frame (· ∈ before)), fun _ => ?_⟩
  · rw [hps, List.mem_append] at hp
    exact Or.inr hp
  · obtain ⟨_, _, _, _, _, hz, hn⟩ := hW
    refine ⟨hok, _, _, ([] ++ pa) ++ pv, ⟨[] ++ pa, pv, trodAll_append (hargs _ (fun _ _ => rfl)) (hres _ _ _), hvars _ (fun _ _ => rfl), rfl, ?_, ?_⟩, ?_⟩
    · intro b off hp
      have hin : MemPlace.cell b off ∈ before := by rw [hps]; simpa using hp
      rw [hb.frozen (hlt _ hin)]
      exact hz b off hin
    · intro ha
      have := hn ha
      rw [hps] at this
      simpa using this
    · intro p hp _
      rw [hps]
      simpa using hp
/-- An argument reads as it did, whatever may be read of its spare. -/
theorem trod_later {t : TypeId} (hl : laidOutB P = true) (hr : P.readableRec t = true) (hrow : t < P.types.size) {W W' : World} {v : Value} {d : DataW H} {ps : List MemPlace} {sp : Nat → Bool}
    (h : DataW.Trod enc P W 0 (fun _ => true) true t v d ps) (hb : Below W.heap.size W W') (hlt : ∀ x ∈ ps, x.block < W.heap.size) (hsp : ∀ x ∈ ps, sp x.block = true) :
    DataW.Trod enc P W' 0 sp true t v d ps :=
  WideElems.Trod_stays hl hr hrow h (fun x hx => hb.same (hlt x hx)) hsp
end
end Go.Proofs.YtcmoidldalgljaaGreatDoor

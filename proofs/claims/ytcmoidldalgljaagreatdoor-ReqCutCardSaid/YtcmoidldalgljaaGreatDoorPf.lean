/-
  Contracts of strings.Builder at a builder that the call itself has made: copyCheck, WriteString, WriteByte, String.
-/
import Derived.Test.YtcmoidldalgljaaGreatDoorPe
import Derived.Shelf.Strings.Builder1
import Derived.Sort.Walk0
import Derived.Lib.SlicesCompact
import Derived.Lib.SliceRun
import Derived.Shelf.SlicesQ.Reverse
import Derived.Shelf.SlSortCmp.WholeK
import Derived.Deep.LoopGhost
set_option linter.unusedVariables false
set_option linter.unusedSimpArgs false
namespace Go.Proofs.YtcmoidldalgljaaGreatDoor
open Go.RowKit

theorem sizeBuilder : (Tryz.prog.info? 148).map (·.size) = some 2 := by kernel_rfl
theorem liesBuilder : liesAt Tryz.prog Tryz.prog.depth 148 (2 / Tryz.prog.cellsOf 148) 0 148 1 = true := by kernel_rfl

set_option maxHeartbeats 1000000 in
set_option maxRecDepth 100000 in
theorem check_used (b : Nat) (w : World) (h0 : w.cell? ⟨b, 0, none⟩ = some (.pointer (some ⟨b, 0, none⟩))) :
    Calls Tryz.prog 135 #[.pointer (some ⟨b, 0, none⟩)] w fun e w' => e = .returned (.tuple #[]) ∧ w' = w := by
  obtain ⟨j, hj, _⟩ := Option.map_eq_some_iff.1 sizeBuilder
  go_enter Tryz.func135, Tryz.ntmps135
  go_wp2
  rw [Lib.run_neq_ptr_same w _ Tryz.underlying146 hj]
  go_wp2
  go_end0
  exact ⟨rfl, rfl⟩

set_option maxHeartbeats 1000000 in
set_option maxRecDepth 100000 in
theorem check_fresh (b : Nat) (w : World) (h0 : w.cell? ⟨b, 0, none⟩ = some (.pointer none)) (hsh : w.shape? b = some (148, 2)) (hfz : w.frozen? ⟨b, 0, none⟩ = false) :
    Calls Tryz.prog 135 #[.pointer (some ⟨b, 0, none⟩)] w fun e w' => e = .returned (.tuple #[]) ∧ w' = w.setCell ⟨b, 0, none⟩ (.pointer (some ⟨b, 0, none⟩)) := by
  obtain ⟨j, hj, hjs⟩ := Option.map_eq_some_iff.1 sizeBuilder
  go_enter Tryz.func135, Tryz.ntmps135
  go_wp2
  rw [Lib.run_to_unsafe w ⟨b, 0, none⟩ Tryz.underlying146 Tryz.underlying183 hj (by rw [hjs]; decide) hsh (Nat.zero_lt_succ 1)]
  simp only [Result.andThen]
  rw [Oper.upon_value]
  go_wp2
  rw [run_callFunc_extern Tryz.func159 (by kernel_rfl) (by kernel_rfl) (by kernel_rfl) (e := Extern.AbiNoEscape.same) (by kernel_rfl)]
  rw [Lib.run_noEscape]
  simp only [Result.andThen]
  rw [Oper.upon_value]
  go_wp2
  rw [Lib.run_from_unsafe w ⟨b, 0, none⟩ Tryz.underlying183 Tryz.underlying146 hj hsh liesBuilder]
  simp only [Result.andThen]
  rw [Oper.upon_value]
  go_wp2
  go_end0
  exact ⟨rfl, rfl⟩

theorem check_calls (B b : Nat) (bs : List Value) (w : World) (h : Lib.IsBuilder 148 5 B b bs w) :
    Calls Tryz.prog 135 #[.pointer (some ⟨b, 0, none⟩)] w fun e w' => e = .returned (.tuple #[]) ∧ (Lib.BuilderAt 148 5 B b (.pointer (some ⟨b, 0, none⟩)) bs w' ∧ Below B w w') := by
  rcases h with h | h
  · refine (check_fresh b w h.cell0 h.shape h.frozen0).mono ?_
    rintro e w' ⟨rfl, rfl⟩
    exact ⟨rfl, h.used _, (Below.refl B w).setCell (p := ⟨b, 0, none⟩) h.1 _⟩
  · refine (check_used b w h.cell0).mono ?_
    rintro e w' ⟨rfl, rfl⟩
    exact ⟨rfl, h, Below.refl B _⟩

set_option maxHeartbeats 2000000 in
set_option maxRecDepth 100000 in
theorem writeByte_calls (B b : Nat) (bs : List Value) (c : Int) (w : World) (h : Lib.IsBuilder 148 5 B b bs w) (hlen : bs.length + 1 ≤ 140737488355328) (hBw : B ≤ w.heap.size) :
    Calls Tryz.prog 117 #[.pointer (some ⟨b, 0, none⟩), .int .u8 c] w fun e w' => e = .returned .nilIface ∧ (Lib.BuilderAt 148 5 B b (.pointer (some ⟨b, 0, none⟩)) (bs ++ [.int .u8 c]) w' ∧ Below B w w') := by
  obtain ⟨i0, hi, hz0, hz1, hz2⟩ := info_parts infoByte
  go_enter Tryz.func117, Tryz.ntmps117
  go_wp2_with fail
  refine (check_calls B b bs _ h).mono ?_
  rintro e w1 ⟨rfl, h1, hb1⟩
  obtain ⟨hB, v, hbk, hown, hne⟩ := h1
  have c0 : w1.cell? ⟨b, 0, none⟩ = some (.pointer (some ⟨b, 0, none⟩)) := by rw [Lib.cell_of_heap hbk]; rfl
  have c1 : w1.cell? ⟨b, 1, none⟩ = some v := by rw [Lib.cell_of_heap hbk]; rfl
  go_wp2_with (at_builtin; refine wpList_append_own _ rfl _ _ 29 rfl B 5 i0 (.int .u8 0) 1 1 Tryz.underlying29 hi hz0 hz1 hz2 rfl (by decide) _ _ _ rfl (hown.alloc _) ⟨w1.heap.size, 0, none⟩ 1 1 [.int .u8 c] rfl rfl ?c1 ?c2 ?c3 ?c4 ?c5 ?_)
  case c1 =>
    intro j u hj
    match j, hj with
    | 0, hj => simp at hj; subst hj; simp [Addr.add]
  case c2 => intro u hu; simp at hu; subst hu; rfl
  case c3 => unfold maxLen; omega
  case c4 => omega
  case c5 => have := hb1.size; simp; omega
  intro v' w2 hown' hgrow _
  have hlt : b < w1.heap.size := by
    rcases Nat.lt_or_ge b w1.heap.size with h' | h'
    · exact h'
    · simp [Array.getElem?_eq_none h'] at hbk
  have hb2 : w2.heap[b]? = some (.cells #[.pointer (some ⟨b, 0, none⟩), v] 148 (0, 0)) := by
    rw [hgrow.block b (by simp; omega) (fun e => hne e.symm), Lib.alloc_old w1 _ b hlt]
    exact hbk
  have d0 : w2.cell? ⟨b, 0, none⟩ = some (.pointer (some ⟨b, 0, none⟩)) := by rw [Lib.cell_of_heap hb2]; rfl
  have d1 : w2.cell? ⟨b, 1, none⟩ = some v := by rw [Lib.cell_of_heap hb2]; rfl
  have f1 : w2.frozen? ⟨b, 1, none⟩ = false := Lib.frozen_of_heap hb2 1
  obtain ⟨g, cap, rfl⟩ : ∃ g cap, v' = .slice (some ⟨g, 0, none⟩) (bs.length + 1) cap := by
    rcases hown'.2 with ⟨_, h0⟩ | ⟨g, cap, cur, hv, _⟩
    · omega
    · exact ⟨g, cap, hv⟩
  go_wp2
  go_ret
  refine ⟨rfl, ?_, ?_⟩
  · exact Lib.BuilderAt.put (T := 148) (e := 5) hB hb2 (bs' := bs ++ [.int .u8 c]) (by simpa using hown') (by decide)
  · exact ((hb1.alloc (by have := hb1.size; omega) _).grown hgrow (by have := hb1.size; simp; omega) (fun k hk => (hown.lt k hk).1)).setCell (p := ⟨b, 1, none⟩) hB _

set_option maxHeartbeats 2000000 in
set_option maxRecDepth 100000 in
theorem writeString_calls (B b : Nat) (bs : List Value) (s : ByteArray) (w : World) (h : Lib.IsBuilder 148 5 B b bs w) (hlen : bs.length + s.size ≤ 140737488355328) (hBw : B ≤ w.heap.size) :
    Calls Tryz.prog 116 #[.pointer (some ⟨b, 0, none⟩), .string s] w fun e w' => e = .returned (.tuple #[.int .i64 s.size, .nilIface]) ∧ (Lib.BuilderAt 148 5 B b (.pointer (some ⟨b, 0, none⟩)) (bs ++ Lib.strCells s) w' ∧ Below B w w') := by
  obtain ⟨i0, hi, hz0, hz1, hz2⟩ := info_parts infoByte
  go_enter Tryz.func116, Tryz.ntmps116
  go_wp2_with fail
  refine (check_calls B b bs _ h).mono ?_
  rintro e w1 ⟨rfl, h1, hb1⟩
  obtain ⟨hB, v, hbk, hown, hne⟩ := h1
  have c0 : w1.cell? ⟨b, 0, none⟩ = some (.pointer (some ⟨b, 0, none⟩)) := by rw [Lib.cell_of_heap hbk]; rfl
  have c1 : w1.cell? ⟨b, 1, none⟩ = some v := by rw [Lib.cell_of_heap hbk]; rfl
  go_wp2_with (at_builtin; refine Lib.wpList_append_own_string _ rfl _ _ 29 9 rfl B 5 i0 Tryz.underlying29 Tryz.underlying9 hi hz0 hz1 hz2 _ _ _ rfl hown s rfl ?c3 ?c4 ?c5 ?_)
  case c3 => unfold maxLen; omega
  case c4 => omega
  case c5 => have := hb1.size; omega
  intro v' w2 hown' hgrow _
  have hlt : b < w1.heap.size := by
    rcases Nat.lt_or_ge b w1.heap.size with h' | h'
    · exact h'
    · simp [Array.getElem?_eq_none h'] at hbk
  have hb2 : w2.heap[b]? = some (.cells #[.pointer (some ⟨b, 0, none⟩), v] 148 (0, 0)) := by
    rw [hgrow.block b hlt (fun e => hne e.symm)]
    exact hbk
  have d0 : w2.cell? ⟨b, 0, none⟩ = some (.pointer (some ⟨b, 0, none⟩)) := by rw [Lib.cell_of_heap hb2]; rfl
  have d1 : w2.cell? ⟨b, 1, none⟩ = some v := by rw [Lib.cell_of_heap hb2]; rfl
  have f1 : w2.frozen? ⟨b, 1, none⟩ = false := Lib.frozen_of_heap hb2 1
  obtain ⟨ao, n', cap, rfl⟩ : ∃ ao n' cap, v' = .slice ao n' cap := by
    rcases hown'.2 with ⟨hv, _⟩ | ⟨g, cap, cur, hv, _⟩
    · exact ⟨_, _, _, hv⟩
    · exact ⟨_, _, _, hv⟩
  go_wp2
  go_ret2
  refine ⟨rfl, ?_, ?_⟩
  · exact Lib.BuilderAt.put (T := 148) (e := 5) hB hb2 (bs' := bs ++ Lib.strCells s) (by simpa [Lib.strCells_length] using hown') (by decide)
  · exact (hb1.grown hgrow (by have := hb1.size; omega) (fun k hk => (hown.lt k hk).1)).setCell (p := ⟨b, 1, none⟩) hB _
end Go.Proofs.YtcmoidldalgljaaGreatDoor
set_option linter.unusedVariables false
set_option linter.unusedSimpArgs false
namespace Go.Proofs.YtcmoidldalgljaaGreatDoor
open Go.RowKit

namespace Hen
/-- A field of a contact. -/
structure Fld where
  k : Int
  l : Int
  v : ByteArray
instance : Inhabited Fld := ⟨⟨0, 0, ByteArray.empty⟩⟩
def Fld.cells (f : Fld) : List Value := [.int .i64 f.k, .int .i64 f.l, .string f.v]
def lessF (a b : Fld) : Bool := if a.k ≠ b.k then decide (a.k < b.k) else if a.l ≠ b.l then decide (a.l < b.l) else decide (a.v.data.toList < b.v.data.toList)
def ordF (a b : Fld) : Int := if lessF a b then -1 else if lessF b a then 1 else 0
end Hen
open Hen

def pairW (w : World) (a b : Fld) : World := (w.alloc (.cells #[.int .i64 a.k, .int .i64 a.l, .string a.v] 129)).alloc (.cells #[.int .i64 b.k, .int .i64 b.l, .string b.v] 129)

set_option maxHeartbeats 2000000 in
theorem less_calls (a b : Fld) (w : World) : Calls Tryz.prog 134 #[.agg #[.int .i64 a.k, .int .i64 a.l, .string a.v], .agg #[.int .i64 b.k, .int .i64 b.l, .string b.v]] w fun e w' => e = .returned (.bool (lessF a b)) ∧ w' = pairW w a b := by
  have hL : lessF a b = if a.k ≠ b.k then decide (a.k < b.k) else if a.l ≠ b.l then decide (a.l < b.l) else decide (a.v.data.toList < b.v.data.toList) := rfl
  have hP : pairW w a b = (w.alloc (.cells #[.int .i64 a.k, .int .i64 a.l, .string a.v] 129)).alloc (.cells #[.int .i64 b.k, .int .i64 b.l, .string b.v] 129) := rfl
  generalize lessF a b = L at hL ⊢
  generalize pairW w a b = P at hP ⊢
  obtain ⟨k1, l1, v1⟩ := a
  obtain ⟨k2, l2, v2⟩ := b
  simp only at hL hP ⊢
  have HP := Lib.hid hP
  clear hP
  by_cases hk : k1 = k2
  · rw [if_neg (by simp; exact hk)] at hL
    have b1 : (k1 != k2) = false := bne_eq_false_iff_eq.2 hk
    by_cases hl : l1 = l2
    · rw [if_neg (by simp; exact hl)] at hL
      have b2 : (l1 != l2) = false := bne_eq_false_iff_eq.2 hl
      have HL := Lib.hid hL
      clear hk hl hL
      go_enter Tryz.func134, Tryz.ntmps134
      go_wp2
      go_ret
      exact ⟨ret_bool (by rw [HL.out, bytesLess_eq, toList_data, toList_data]), by rw [HP.out]⟩
    · rw [if_pos (by simp; exact hl)] at hL
      have b2 : (l1 != l2) = true := bne_iff_ne.2 hl
      have HL := Lib.hid hL
      clear hk hl hL
      go_enter Tryz.func134, Tryz.ntmps134
      go_wp2
      go_ret
      exact ⟨ret_bool (by rw [HL.out]), by rw [HP.out]⟩
  · rw [if_pos (by simp; exact hk)] at hL
    have b1 : (k1 != k2) = true := bne_iff_ne.2 hk
    have HL := Lib.hid hL
    clear hk hL
    go_enter Tryz.func134, Tryz.ntmps134
    go_wp2
    go_ret
    exact ⟨ret_bool (by rw [HL.out]), by rw [HP.out]⟩

set_option maxHeartbeats 2000000 in
theorem order_calls (a b : Fld) (w : World) : Calls Tryz.prog 114 #[.agg #[.int .i64 a.k, .int .i64 a.l, .string a.v], .agg #[.int .i64 b.k, .int .i64 b.l, .string b.v]] w fun e w' => e = .returned (.int .i64 (ordF a b)) ∧ ∃ q os', w' = Sort.grow (w.drewN q) os' := by
  have hO : ordF a b = if lessF a b then -1 else if lessF b a then 1 else 0 := rfl
  have cA := fun W => less_calls a b W
  have cB := fun W => less_calls b a W
  have pA : ∀ W, pairW W a b = (W.alloc (.cells #[.int .i64 a.k, .int .i64 a.l, .string a.v] 129)).alloc (.cells #[.int .i64 b.k, .int .i64 b.l, .string b.v] 129) := fun _ => rfl
  have pB : ∀ W, pairW W b a = (W.alloc (.cells #[.int .i64 b.k, .int .i64 b.l, .string b.v] 129)).alloc (.cells #[.int .i64 a.k, .int .i64 a.l, .string a.v] 129) := fun _ => rfl
  simp only [pA] at cA
  simp only [pB] at cB
  generalize ordF a b = R at hO ⊢
  generalize lessF a b = A at cA hO
  generalize lessF b a = B at cB hO
  obtain ⟨k1, l1, v1⟩ := a
  obtain ⟨k2, l2, v2⟩ := b
  simp only at cA cB ⊢
  have CA := Lib.hid cA
  have CB := Lib.hid cB
  clear pA pB cA cB
  cases A with
  | true =>
    obtain rfl : R = -1 := by rw [hO]; rfl
    clear hO
    go_enter Tryz.func114, Tryz.ntmps114
    go_wp2_with fail
    refine (CA.out _).mono ?_
    rintro e w3 ⟨rfl, rfl⟩
    go_wp2
    go_ret
    exact ⟨rfl, 0, _, by simp only [Sort.alloc_eq_grow, Sort.grow_grow]; rfl⟩
  | false =>
    cases B with
    | true =>
      obtain rfl : R = 1 := by rw [hO]; rfl
      clear hO
      go_enter Tryz.func114, Tryz.ntmps114
      go_wp2_with fail
      refine (CA.out _).mono ?_
      rintro e w3 ⟨rfl, rfl⟩
      go_wp2_with fail
      refine (CB.out _).mono ?_
      rintro e w3 ⟨rfl, rfl⟩
      go_wp2
      go_ret
      exact ⟨rfl, 0, _, by simp only [Sort.alloc_eq_grow, Sort.grow_grow]; rfl⟩
    | false =>
      obtain rfl : R = 0 := by rw [hO]; rfl
      clear hO
      go_enter Tryz.func114, Tryz.ntmps114
      go_wp2_with fail
      refine (CA.out _).mono ?_
      rintro e w3 ⟨rfl, rfl⟩
      go_wp2_with fail
      refine (CB.out _).mono ?_
      rintro e w3 ⟨rfl, rfl⟩
      go_wp2
      go_ret
      exact ⟨rfl, 0, _, by simp only [Sort.alloc_eq_grow, Sort.grow_grow]; rfl⟩
end Go.Proofs.YtcmoidldalgljaaGreatDoor
set_option linter.unusedVariables false
set_option linter.unusedSimpArgs false
namespace Go.Proofs.YtcmoidldalgljaaGreatDoor
open Go.RowKit Go.Lib Go.Sort
open Hen

deriving instance DecidableEq for Hen.Fld

theorem cells3 (x : Fld) : x.cells.length = 3 := rfl
theorem cells1 (x : Fld) : ∀ v ∈ x.cells, v.oneCell' = true := by intro v hv; simp [Fld.cells] at hv; rcases hv with rfl | rfl | rfl <;> rfl

theorem fld_ne {u v : Fld} (huv : u ≠ v) : (u.k == v.k) = false ∨ ((u.k == v.k) = true ∧ (u.l == v.l) = false) ∨ ((u.k == v.k) = true ∧ (u.l == v.l) = true ∧ (u.v.toList == v.v.toList) = false) := by
  simp only [beq_iff_eq, beq_eq_false_iff_ne, ne_eq]
  by_cases a : u.k = v.k
  · by_cases b : u.l = v.l
    · refine .inr (.inr ⟨a, b, fun c => huv ?_⟩)
      have c' : u.v = v.v := by
        rw [toList_data, toList_data] at c
        have := congrArg (fun l => (⟨l.toArray⟩ : ByteArray)) c
        simpa only [mk_of] using this
      obtain ⟨uk, ul, uv⟩ := u
      obtain ⟨vk, vl, vv⟩ := v
      simp at a b c'
      rw [a, b, c']
    · exact .inr (.inl ⟨a, b⟩)
  · exact .inl a

abbrev HF (w : World) (g : Nat) (d : Array Fld) : Prop := HoldsK Fld.cells 3 w g 0 d
abbrev putF (w : World) (g : Nat) (d : Array Fld) : World := putRowK Fld.cells 3 w g 0 d

theorem HF.at_ {w : World} {g : Nat} {d : Array Fld} (h : HF w g d) (i : Nat) (hi : i < d.size) (x : Fld) (hx : d[i]! = x) :
    w.cell? ⟨g, i * 3, none⟩ = some (.int .i64 x.k) ∧ w.cell? ⟨g, i * 3 + 1, none⟩ = some (.int .i64 x.l) ∧ w.cell? ⟨g, i * 3 + 2, none⟩ = some (.string x.v) ∧
    w.frozen? ⟨g, i * 3, none⟩ = false ∧ w.frozen? ⟨g, i * 3 + 1, none⟩ = false ∧ w.frozen? ⟨g, i * 3 + 2, none⟩ = false := by
  have h0 := HoldsK.cell h hi (c := 0) (by omega)
  have h1 := HoldsK.cell h hi (c := 1) (by omega)
  have h2 := HoldsK.cell h hi (c := 2) (by omega)
  rw [hx] at h0 h1 h2
  simp only [Nat.zero_add, Nat.add_zero] at h0 h1 h2
  exact ⟨h0.1, h1.1, h2.1, h0.2, h1.2, h2.2⟩

theorem zeroFld : ∀ w, (zeroValue 129).run Tryz.prog w = .ok (.agg #[.int .i64 0, .int .i64 0, .string ⟨#[]⟩]) w := by
  intro w
  have h : (Tryz.prog.info? 129).map (·.zero) = some (some (.agg #[.int .i64 0, .int .i64 0, .string ⟨#[]⟩])) := by kernel_rfl
  obtain ⟨i, hi, hz⟩ := Option.map_eq_some_iff.1 h
  simp [zeroValue, typeInfo, hi, hz]

def zF : Fld := ⟨0, 0, ⟨#[]⟩⟩
def zeros (n : Nat) : List Value := (Builtin.zeroCells (Value.agg #[.int .i64 0, .int .i64 0, .string ⟨#[]⟩]).cells n).toList
theorem zeros_len (n : Nat) : (zeros n).length = n * 3 := by simp [zeros, Builtin.zeroCells, Value.cells]
theorem zeros_at (n j : Nat) (h : j < n * 3) : (zeros n)[j]! = zF.cells[j % 3]! := by
  rw [getElem!_pos _ _ (by rw [zeros_len]; exact h)]
  simp [zeros, Builtin.zeroCells, Value.cells, zF, Fld.cells]
theorem zeros_one (n : Nat) : ∀ v ∈ zeros n, v.oneCell' = true := by
  intro v hv
  obtain ⟨j, hj, rfl⟩ := List.getElem_of_mem hv
  have hz := zeros_at n j (by rw [← zeros_len]; exact hj)
  rw [getElem!_pos (zeros n) j hj] at hz
  rw [hz]
  have : j % 3 = 0 ∨ j % 3 = 1 ∨ j % 3 = 2 := by omega
  rcases this with e | e | e <;> rw [e] <;> rfl

theorem flat_lay (d : Array Fld) (k n : Nat) (h : k + n ≤ d.size) : setMany (flatK Fld.cells 3 d) (k * 3) (zeros n) = flatK Fld.cells 3 (Lib.lay d k (List.replicate n zF)) := by
  have hs : (Lib.lay d k (List.replicate n zF)).size = d.size := by
    have : ∀ (l : List Fld) (d : Array Fld) (k : Nat), (Lib.lay d k l).size = d.size := by
      intro l
      induction l with
      | nil => intros; rfl
      | cons x l ih => intro d k; rw [Lib.lay, ih]; simp
    exact this _ _ _
  refine ext_get! (by simp [hs]) fun t ht => ?_
  have ht' : t < d.size * 3 := by simpa using ht
  rw [get_setMany _ _ _ _ (by simpa using ht'), get_flatK Fld.cells 3 d t ht', get_flatK Fld.cells 3 (Lib.lay d k (List.replicate n zF)) t (by rw [hs]; exact ht'), zeros_len]
  have hl := Lib.lay_get? (List.replicate n zF) d k (t / 3) (by simpa using h)
  rw [List.length_replicate] at hl
  by_cases c : k * 3 ≤ t ∧ t < k * 3 + n * 3
  · rw [if_pos c, zeros_at _ _ (by omega)]
    rw [if_pos (by omega)] at hl
    rw [getElem!_pos (Lib.lay d k (List.replicate n zF)) (t / 3) (by rw [hs]; omega)]
    rw [Array.getElem?_eq_getElem (by rw [hs]; omega)] at hl
    have e : (Lib.lay d k (List.replicate n zF))[t / 3]'(by rw [hs]; omega) = zF := by
      have := List.getElem?_replicate (a := zF) (n := n) (i := t / 3 - k)
      rw [if_pos (by omega)] at this
      rw [this] at hl
      exact Option.some.inj hl
    rw [e, show (t - k * 3) % 3 = t % 3 by omega]
  · rw [if_neg c]
    rw [if_neg (by omega)] at hl
    rw [getElem!_pos (Lib.lay d k (List.replicate n zF)) (t / 3) (by rw [hs]; omega), getElem!_pos d (t / 3) (by omega)]
    rw [Array.getElem?_eq_getElem (by rw [hs]; omega), Array.getElem?_eq_getElem (by omega)] at hl
    rw [Option.some.inj hl]

theorem flat_set (d : Array Fld) (k : Nat) (u : Fld) (h : k < d.size) : setMany (flatK Fld.cells 3 d) (k * 3) u.cells = flatK Fld.cells 3 (d.setIfInBounds k u) := by
  refine ext_get! (by simp) fun t ht => ?_
  have ht' : t < d.size * 3 := by simpa using ht
  rw [get_setMany _ _ _ _ (by simpa using ht'), get_flatK Fld.cells 3 d t ht', get_flatK Fld.cells 3 (d.setIfInBounds k u) t (by simpa using ht')]
  rw [show u.cells.length = 3 from rfl]
  by_cases c : k * 3 ≤ t ∧ t < k * 3 + 3
  · obtain rfl : t / 3 = k := by omega
    rw [if_pos c, getElem!_set_same d (t / 3) u h, show t - t / 3 * 3 = t % 3 by omega]
  · rw [if_neg c, getElem!_set_other d k (t / 3) u (by omega)]

theorem store_fld {w wr : World} {n g : Nat} {dk : Array Fld} {i : Nat} (hi : i < dk.size) (hwr : wr = putF (Sort.ahead w n) g dk) (u : Fld) :
    (((wr.setCell ⟨g, i * 3, none⟩ (.int .i64 u.k)).setCell ⟨g, i * 3 + 1, none⟩ (.int .i64 u.l)).setCell ⟨g, i * 3 + 2, none⟩ (.string u.v)).drew = putF (Sort.ahead w (n + 1)) g (dk.setIfInBounds i u) := by
  have e : (((wr.setCell ⟨g, i * 3, none⟩ (.int .i64 u.k)).setCell ⟨g, i * 3 + 1, none⟩ (.int .i64 u.l)).setCell ⟨g, i * 3 + 2, none⟩ (.string u.v)) = wr.setCells g (0 + i * 3) u.cells := by
    rw [Nat.zero_add]; rfl
  rw [e, hwr]
  show ((putRow id (Sort.ahead w n) g 0 (flatK Fld.cells 3 dk)).setCells g (0 + i * 3) u.cells).drew = _
  rw [setCells_putRow _ _ _ _ _ _ (by rw [size_flatK]; show i * 3 + 3 ≤ _; omega), flat_set dk i u hi, ← ahead_drew]
  rfl

theorem run_clear_flds (w : World) (g o n c : Nat) (ty : TypeId) (hn : 0 < n) (hc : ∀ j, j < n * 3 → (w.cell? ⟨g, o + j, none⟩).isSome = true) (hf : ∀ j, j < n * 3 → w.frozen? ⟨g, o + j, none⟩ = false) :
    (Builtin.clear_ #[121] ty #[.slice (some ⟨g, o, none⟩) n c]).run Tryz.prog w = .ok (.tuple #[]) (w.setCells g o (zeros n)) := by
  have hst := run_storeCells_cells (P := Tryz.prog) g o (zeros n) 0 w (by simpa [zeros_len] using hc) (by simpa [zeros_len] using hf) (zeros_one n)
  simp only [Nat.add_zero] at hst
  obtain ⟨m, rfl⟩ : ∃ m, n = m + 1 := ⟨n - 1, by omega⟩
  unfold zeros at hst ⊢
  simp only [Builtin.clear_, List.getElem?_toArray, List.getElem?_cons_zero, Sem.run_bind, run_underlying Tryz.underlying121, zeroFld, Result.andThen_ok, hst, Sem.run_pure]

set_option maxHeartbeats 8000000 in
set_option maxRecDepth 100000 in
theorem compact_arr (g cap : Nat) (d : Array Fld) (w : World) (hH : HF w g d) (hsz : d.size ≤ 9223372036854775807) (hcap : d.size ≤ cap) :
    Calls Tryz.prog 115 #[.slice (some ⟨g, 0, none⟩) d.size cap] w fun e w' => e = .returned (.slice (some ⟨g, 0, none⟩) (compactUpTo d d.size).length cap) ∧
      ∃ q d', w' = putF (Sort.ahead w q) g d' ∧ d'.size = d.size ∧ d'.toList.take (compactUpTo d d.size).length = compactUpTo d d.size := by
  have same : ∀ q, (∀ j, j < d.size → keeps d j = true) → (compactUpTo d d.size).length = d.size ∧ w.drewN q = putF (Sort.ahead w q) g d ∧ d.toList.take (compactUpTo d d.size).length = compactUpTo d d.size := by
    intro q hall
    have e : compactUpTo d d.size = d.toList := by rw [compactUpTo_all d _ hall, range_map_get]
    rw [e]
    exact ⟨by simp, (putRowK_self Fld.cells 3 (Sort.ahead w q) g 0 d (holdsK_ahead Fld.cells 3 w q g 0 d hH)).symm, List.take_of_length_le (by simp)⟩
  have HS := Lib.hid same
  clear same
  by_cases h2 : d.size < 2
  · have HH := Lib.hid hH
    have b2 : (d.size : Int) < 2 := by omega
    clear hH
    go_enter Tryz.func115, Tryz.ntmps115
    go_wp2
    go_ret
    obtain ⟨e1, e2, e3⟩ := HS.out 0 (fun j hj => keeps_lt_one d j (by omega))
    exact ⟨by rw [e1]; rfl, 0, d, e2, rfl, e3⟩
  · have b2 : (2 : Int) ≤ d.size := by omega
    go_enter Tryz.func115, Tryz.ntmps115
    go_wp2
    go_loopg [3] d.size (fun gg s3 wr => ∃ k q : Nat, 1 ≤ k ∧ k ≤ d.size ∧ d.size - k ≤ gg ∧ s3 = .int .i64 k ∧ wr = w.drewN q ∧ Hid (∀ j, j < k → keeps d j = true))
    case atStart => exact ⟨1, 0, Nat.le_refl _, by omega, by omega, rfl, rfl, keeps_lt_one d⟩
    case round =>
      obtain ⟨k, q, hk1, hk, hg, rfl, rfl, A⟩ := hrel
      by_cases hlt : k < d.size
      · obtain ⟨hx, hX⟩ : ∃ x, d[k]! = x := ⟨_, rfl⟩
        obtain ⟨hy, hY⟩ : ∃ y, d[k - 1]! = y := ⟨_, rfl⟩
        obtain ⟨c10, c11, c12, f10, f11, f12⟩ := HF.at_ hH k hlt hx hX
        obtain ⟨c00, c01, c02, f00, f01, f02⟩ := HF.at_ hH (k - 1) (by omega) hy hY
        have HH := Lib.hid hH
        clear hH
        by_cases hdup : hx = hy
        · subst hdup
          have e1 : (hx.k == hx.k) = true := beq_self_eq_true _
          have e2 : (hx.l == hx.l) = true := beq_self_eq_true _
          have e3 : (hx.v.toList == hx.v.toList) = true := beq_self_eq_true _
          have b3 : (k : Int) < d.size := by omega
          have b4 : ((k : Int) - 1) = ((k - 1 : Nat) : Int) := by omega
          go_wp2_with fail
          go_region
          go_wp2
          clear c00 c01 c02 c10 c11 c12 f00 f01 f02 f10 f11 f12 e1 e2 e3
          go_loopg [3, 5] d.size (fun gg s3 s5 wr => ∃ (kk k2 q2 : Nat) (dk : Array Fld), s3 = .int .i64 kk ∧ s5 = .int .i64 k2 ∧ 1 ≤ k2 ∧ k + k2 ≤ d.size ∧ d.size - (k + k2) ≤ gg ∧ wr = putF (Sort.ahead w q2) g dk ∧ Hid (CompInv d (k + k2) kk dk))
          case atStart => exact ⟨k, 1, q + 1, d, rfl, rfl, Nat.le_refl _, by omega, by omega, (putRowK_self Fld.cells 3 (Sort.ahead w (q + 1)) g 0 d (holdsK_ahead Fld.cells 3 w (q + 1) g 0 d HH.out)).symm, CompInv.start A.out (keeps_neg (by omega) (by rw [hX, hY]))⟩
          case round =>
            obtain ⟨kk, k2, q2, dk, rfl, rfl, h1, hle, hg2, hwr, I2⟩ := hrel
            have hkk := I2.out.lt
            have hds := I2.out.size
            have hHk : HF wr g dk := by rw [hwr]; exact holdsK_putRowK Fld.cells 3 _ g 0 d dk (holdsK_ahead Fld.cells 3 w q2 g 0 d HH.out) hds
            have W2 := Lib.hid hwr
            clear hwr
            by_cases hlt2 : k + k2 < d.size
            · obtain ⟨u, hU⟩ : ∃ u, d[k + k2]! = u := ⟨_, rfl⟩
              obtain ⟨v, hV⟩ : ∃ v, d[k + k2 - 1]! = v := ⟨_, rfl⟩
              obtain ⟨c10, c11, c12, _, _, _⟩ := HF.at_ hHk (k + k2) (by omega) u ((I2.out.high (k + k2) (by omega)).trans hU)
              obtain ⟨c00, c01, c02, _, _, _⟩ := HF.at_ hHk (k + k2 - 1) (by omega) v ((I2.out.high (k + k2 - 1) (by omega)).trans hV)
              obtain ⟨old, hO⟩ : ∃ o, dk[kk]! = o := ⟨_, rfl⟩
              obtain ⟨q0, q1, q2', f0, f1, f2⟩ := HF.at_ hHk kk (by omega) old hO
              rw [show (k + k2) * 3 = k * 3 + k2 * 3 by omega] at c10 c11 c12
              rw [show (k + k2 - 1) * 3 = k * 3 + (k2 - 1) * 3 by omega] at c00 c01 c02
              have HHk := Lib.hid hHk
              clear hHk
              have b5 : (k2 : Int) < d.size - k := by omega
              have b6 : ((k2 : Int) - 1) = ((k2 - 1 : Nat) : Int) := by omega
              by_cases huv : u = v
              · subst huv
                have e1 : (u.k == u.k) = true := beq_self_eq_true _
                have e2 : (u.l == u.l) = true := beq_self_eq_true _
                have e3 : (u.v.toList == u.v.toList) = true := beq_self_eq_true _
                go_wp2_with fail
                go_region
                go_wp2
                go_roundg (d.size - (k + (k2 + 1)))
                case measure => omega
                case rel => exact ⟨kk, k2 + 1, q2 + 1, dk, rfl, by go_num, by omega, by omega, Nat.le_refl _, by rw [W2.out]; rfl, I2.out.skip (keeps_neg (by omega) (by rw [hU, hV]))⟩
              · have hne : (u.k == v.k) = false ∨ ((u.k == v.k) = true ∧ (u.l == v.l) = false) ∨ ((u.k == v.k) = true ∧ (u.l == v.l) = true ∧ (u.v.toList == v.v.toList) = false) := fld_ne huv
                rcases hne with e1 | ⟨e1, e2⟩ | ⟨e1, e2, e3⟩
                all_goals
                  go_wp2_with fail
                  go_region
                  go_wp2
                  go_roundg (d.size - (k + (k2 + 1)))
                  case measure => omega
                  case rel => exact ⟨kk + 1, k2 + 1, q2 + 1, dk.setIfInBounds kk u, by go_num, by go_num, by omega, by omega, Nat.le_refl _, store_fld (by omega) W2.out u, by have := I2.out.keep hlt2 (keeps_pos (by rw [hU, hV]; exact huv)); rwa [hU] at this⟩
            · have hend : k + k2 = d.size := by omega
              have b5 : (d.size : Int) - k ≤ k2 := by omega
              have hcl : ∀ ty, (Builtin.clear_ #[121] ty #[.slice (some ⟨g, kk * 3, none⟩) (d.size - kk) (cap - kk)]).run Tryz.prog wr = .ok (.tuple #[]) (wr.setCells g (kk * 3) (zeros (d.size - kk))) :=
                fun ty => run_clear_flds wr g (kk * 3) (d.size - kk) _ ty (by omega) (fun j hj => by have := hHk (kk * 3 + j) (by rw [size_flatK]; omega); rw [Nat.zero_add] at this; rw [this.1]; rfl) (fun j hj => by have := hHk (kk * 3 + j) (by rw [size_flatK]; omega); rw [Nat.zero_add] at this; exact this.2)
              clear hHk
              go_wp2
              go_ret
              have hI := I2.out
              rw [hend] at hI
              refine ⟨by rw [hI.len]; rfl, q2, Lib.lay dk kk (List.replicate (d.size - kk) zF), ?_, ?_, ?_⟩
              · rw [W2.out]
                show (putRow id (Sort.ahead w q2) g 0 (flatK Fld.cells 3 dk)).setCells g (kk * 3) (zeros (d.size - kk)) = _
                have hp := setCells_putRow (Sort.ahead w q2) g 0 (zeros (d.size - kk)) (kk * 3) (flatK Fld.cells 3 dk) (by rw [size_flatK, zeros_len]; omega)
                rw [Nat.zero_add] at hp
                rw [hp, flat_lay dk kk _ (by omega)]
                rfl
              · rw [hI.done zF]; simp [hI.len]; omega
              · rw [hI.done zF]; simp
        · have hne := fld_ne hdup
          have b3 : (k : Int) < d.size := by omega
          have b4 : ((k : Int) - 1) = ((k - 1 : Nat) : Int) := by omega
          rcases hne with e1 | ⟨e1, e2⟩ | ⟨e1, e2, e3⟩
          all_goals
            go_wp2_with fail
            go_region
            go_wp2
            go_roundg (d.size - (k + 1))
            case measure => omega
            case rel =>
              refine ⟨k + 1, q + 1, by omega, by omega, Nat.le_refl _, by go_num, rfl, fun j hj => ?_⟩
              by_cases e : j = k
              · subst e
                exact keeps_pos (by rw [hX, hY]; exact hdup)
              · exact A.out j (by omega)
      · have : k = d.size := by omega
        subst this
        have HH := Lib.hid hH
        clear hH
        go_wp2
        go_ret
        obtain ⟨e1, e2, e3⟩ := HS.out q A.out
        exact ⟨by rw [e1]; rfl, q, d, e2, rfl, e3⟩
end Go.Proofs.YtcmoidldalgljaaGreatDoor

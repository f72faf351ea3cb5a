/-
  Words for memory: rows of bytes that a call owns; what is below stays; slices that read as lists.
-/
import Derived.Test.YtcmoidldalgljaaGreatDoorShelf
import Derived.WalkKit
import Derived.WalkSpells
import Derived.WalkLawsBesides
import Derived.Below
import Derived.Outline
import Derived.KernelRfl
import Derived.RowKit
import Derived.LoopTactic
import Derived.Lib.Hide
import Derived.Laws.BytesArg
import Derived.Lib.UnsafeStr
import Derived.Maps.AppendAt
import Derived.OwnWalk
import Derived.Deep.QuietTactic
import Derived.BigQuiet
import Derived.Deep.AppendLies
import Derived.Laws.OwnMore
import Derived.Deep.Draws
import Derived.Laws.Rows
set_option linter.unusedVariables false
set_option linter.unusedSimpArgs false
namespace Go.Proofs.YtcmoidldalgljaaGreatDoor
open Go.RowKit

theorem ret_bool {a b : Bool} (h : a = b) : Ending.returned (.bool a) = .returned (.bool b) := by rw [h]
theorem ret_int {k : IntKind} {a b : Int} (h : a = b) : Ending.returned (.int k a) = .returned (.int k b) := by rw [h]

/-! ### What is below -/
theorem bcell {W w1 : World} (hb : Below W.heap.size W w1) : (∀ b o, b < W.heap.size → w1.cell? ⟨b, o, none⟩ = W.cell? ⟨b, o, none⟩) ∧ (∀ b o, b < W.heap.size → w1.frozen? ⟨b, o, none⟩ = W.frozen? ⟨b, o, none⟩) :=
  ⟨fun b o h => hb.cell (p := ⟨b, o, none⟩) h, fun b o h => hb.frozen (p := ⟨b, o, none⟩) h⟩
theorem below_drawn {B : Nat} {a w : World} (h : Below B a w) (n : Nat) : Below B a (w.drewN n) := ⟨h.os, h.tape, h.output, h.size, h.block⟩
theorem below_step {B : Nat} {a w w1 : World} (h : Below B a w) (hB : B ≤ w.heap.size) (k : Below w.heap.size w w1) : Below B a w1 := h.trans (k.mono hB)
theorem below_own {B : Nat} {a w w1 : World} {row : Option Nat} (h : Below B a w) (hg : w.grownBy w1 row) (hB : B ≤ w.heap.size) (hr : ∀ k, row = some k → B ≤ k) : Below B a w1 := h.grown hg hB hr

/-! ### The package-level variables of the library, as the program's text lays them -/
structure GL (w : World) : Prop where
  size : 6 ≤ w.heap.size
  maxLen : ∃ m : Int, w.cell? ⟨0, 0, none⟩ = some (.int .i64 m)
  tabs : Lib.Utf8Tabs 1 2 w
  pow : Lib.TabIs Tryz.prog w "internal/strconv.uint64pow10" .u64 Lib.pow10Tab
theorem GL.below {w w1 : World} (h : GL w) (hb : Below w.heap.size w w1) : GL w1 where
  size := Nat.le_trans h.size hb.size
  maxLen := by
    obtain ⟨m, hm⟩ := h.maxLen
    exact ⟨m, (hb.cell (by have := h.size; simp; omega)).trans hm⟩
  tabs := by
    obtain ⟨h1, h2⟩ := h.tabs
    have hs := h.size
    refine ⟨fun c hc => (hb.cell (by simp; omega)).trans (h1 c hc), fun i hi => ⟨(hb.cell (by simp; omega)).trans (h2 i hi).1, (hb.cell (by simp; omega)).trans (h2 i hi).2⟩⟩
  pow := var?_below hb (g := 3) (by kernel_rfl) (by have := h.size; omega) h.pow

/-! ### Rows of bytes that the call owns -/
def Row (w : World) (B : Nat) (v : Value) (l : List UInt8) : Prop := w.ownsRow B 5 1 v l.length (Lib.byteCells l)
theorem Row.nil_ (w : World) (B : Nat) : Row w B (.slice none 0 0) [] := World.ownsRow_nil _ _ _ _
theorem Row.at_ {w : World} {B : Nat} {v : Value} {l : List UInt8} (h : Row w B v l) (h0 : 0 < l.length) : ∃ g c, v = .slice (some ⟨g, 0, none⟩) l.length c ∧ B ≤ g ∧ g < w.heap.size ∧ ∀ i (hi : i < l.length), w.cell? ⟨g, i, none⟩ = some (.int .u8 ((l[i].toNat : Nat) : Int)) := by
  obtain ⟨g, cap, rfl, hB, hlt⟩ := World.ownsRow.form h h0
  refine ⟨g, cap, rfl, hB, hlt, fun i hi => ?_⟩
  have hc := World.ownsRow.cells h (g := g) rfl i (.int .u8 ((l[i].toNat : Nat) : Int)) (by simp [Lib.byteCells, List.getElem?_eq_getElem hi])
  have ha : (⟨g, 0, none⟩ : Addr).add i = ⟨g, i, none⟩ := by unfold Addr.add; split <;> simp_all
  rwa [ha] at hc
theorem Row.shape {w : World} {B : Nat} {v : Value} {l : List UInt8} (h : Row w B v l) : ∃ A c, v = .slice A l.length c := by
  rcases h.2 with ⟨rfl, h0⟩ | ⟨g, cap, cur, rfl, _⟩
  · exact ⟨none, 0, by rw [h0]⟩
  · exact ⟨_, cap, rfl⟩
theorem Row.le {w : World} {B : Nat} {A : Option Addr} {n c : Nat} {l : List UInt8} (h : Row w B (.slice A n c) l) : l.length ≤ c := by
  rcases h.2 with ⟨h1, h0⟩ | ⟨g, cap, cur, h1, _, _, hc, _⟩
  · injection h1 with _ _ hcc; omega
  · injection h1 with _ _ hcc; omega
theorem Row.cut {w : World} {B : Nat} {A : Option Addr} {n c : Nat} {l : List UInt8} (h : Row w B (.slice A n c) l) (k : Nat) (hk : k ≤ l.length) (hA : A ≠ none) : Row w B (.slice A k c) (l.take k) := by
  have hlen : (l.take k).length = k := by simp; omega
  rcases h.2 with ⟨h1, h0⟩ | ⟨g, cap, cur, h1, hb, hh, hc, hm, hs, ht⟩
  · injection h1 with h2; exact absurd h2 hA
  · injection h1 with hA' _ hcc
    subst hA' hcc
    refine ⟨by rw [Lib.byteCells_length, Nat.mul_one], .inr ⟨g, c, cur, by rw [hlen], hb, hh, by omega, hm, hs, ?_⟩⟩
    rw [hlen]
    have : Lib.byteCells (l.take k) = (Lib.byteCells l).take k := by simp [Lib.byteCells]
    rw [this, ← ht, List.take_take, Nat.mul_one, Nat.mul_one, Nat.min_eq_left hk]
theorem Row.base {w : World} {B : Nat} {v : Value} {l : List UInt8} (h : Row w B v l) : ∀ k, v.ownBlock = some k → B ≤ k := fun k hk => (World.ownsRow.lt h k hk).1
theorem Row.alloc {w : World} {B : Nat} {v : Value} {l : List UInt8} (h : Row w B v l) (o : Obj) : Row (w.alloc o) B v l := World.ownsRow.alloc h o
theorem Row.below {w w1 : World} {B : Nat} {v : Value} {l : List UInt8} (h : Row w B v l) (hb : Below w.heap.size w w1) : Row w1 B v l :=
  World.ownsRow.kept h (row := none) ⟨hb.os, hb.tape, hb.output, hb.size, fun i hi _ => hb.block i hi⟩ (by cases v.ownBlock <;> simp)
theorem mk_toList (l : List UInt8) : (⟨l.toArray⟩ : ByteArray).data.toList = l := by simp
theorem mk_of (s : ByteArray) : (⟨s.data.toList.toArray⟩ : ByteArray) = s := by cases s; simp
/-- 'string(b)' at a row of the call's own. -/
theorem Row.text {w : World} {B : Nat} {v : Value} {l : List UInt8} (h : Row w B v l) : (convert 29 9 v).run Tryz.prog w = .ok (.string ⟨l.toArray⟩) w := by
  rcases Nat.eq_zero_or_pos l.length with h0 | h0
  · obtain rfl : l = [] := List.eq_nil_of_length_eq_zero h0
    rcases h.2 with ⟨rfl, _⟩ | ⟨g, cap, cur, rfl, _⟩
    · exact run_convert_bytes_nil w _ _ Tryz.underlying29 Tryz.underlying5 0 0 _ Tryz.underlying9
    · exact run_convert_bytes_arg w _ _ Tryz.underlying29 Tryz.underlying5 g 0 0 cap [] rfl (fun i hi => absurd hi (by omega)) _ Tryz.underlying9
  · obtain ⟨g, c, rfl, _, _, hc⟩ := h.at_ h0
    have := run_convert_bytes_arg w _ _ Tryz.underlying29 Tryz.underlying5 g 0 l.length c (l.map fun b => ((b.toNat : Nat) : Int)) (by simp) (fun i hi => by rw [Nat.zero_add, hc i hi]; simp [List.getD_eq_getElem?_getD, List.getElem?_eq_getElem hi]) _ Tryz.underlying9
    have e : strOfNums (l.map fun b => ((b.toNat : Nat) : Int)) = ⟨l.toArray⟩ := by
      unfold strOfNums
      rw [List.map_map, show ((fun n : Int => UInt8.ofNat n.toNat) ∘ fun b : UInt8 => ((b.toNat : Nat) : Int)) = id from funext fun b => by simp, List.map_id]
    rw [this, e]
theorem infoByte : (Tryz.prog.info? 5).map (fun i => (i.zero, i.size, i.bytes)) = some (some (.int .u8 0), 1, 1) := by kernel_rfl
section
variable {ops : Array Oper} {rest : List Oper} {o : Oper} {a : Act} {Q : Exit → Act → World → Prop}
/-- 'append(v, y)' at a row of bytes of the call's own: behind 'at_builtin'; the goal's world is 'W.alloc' of the box of y. -/
theorem wp_append_byte {w0 W : World} (hgd : o.guard = none) (s x : Operand) (ho : o.op = .call { callee := .builtin .append, args := #[s, x], argTypes := #[29, 29] })
    (B : Nat) {v : Value} {l : List UInt8} (y : UInt8) (HO : Row W B v l) (hs : a.eval s = v) (hx : a.eval x = .slice (some ⟨W.heap.size, 0, none⟩) 1 1)
    (hb : Below B w0 W) (hB : B ≤ W.heap.size) (hl : l.length + 1 ≤ 140737488355328)
    (h : ∀ A c w1, Row w1 B (.slice A (l ++ [y]).length c) (l ++ [y]) → Below B w0 w1 → wpList Tryz.prog ops Q rest (a.put o.dst (.slice A (l ++ [y]).length c)) w1) :
    wpList Tryz.prog ops Q (o :: rest) a (W.alloc (.cells #[.int .u8 ((y.toNat : Nat) : Int)] 5)) := by
  obtain ⟨i0, hi, hz0, hz1, hz2⟩ := info_parts infoByte
  refine wpList_append_own_at (W.alloc (.cells #[.int .u8 ((y.toNat : Nat) : Int)] 5)) hgd s x _ ho B _ i0 (.int .u8 0) 1 1 Tryz.underlying29 hi hz0 hz1 hz2 rfl (by decide) v l.length (Lib.byteCells l) hs (World.ownsRow.alloc HO _) ⟨W.heap.size, 0, none⟩ 1 1 [.int .u8 ((y.toNat : Nat) : Int)] hx rfl
    (World.news_of_block (cs := #[.int .u8 ((y.toNat : Nat) : Int)]) (t := 5) (fr := (0, 0)) (heap_alloc_new W _)) (by intro u hu; simp at hu; subst hu; rfl) (by simp only [maxLen]; omega) (by omega) (by simp; omega) ?_
  intro v1 w1 hown hg _ hat
  have hr : Row w1 B v1 (l ++ [y]) := by unfold Row; simpa [Lib.byteCells] using hown
  obtain ⟨A, c, rfl⟩ := hr.shape
  exact h A c w1 hr ((hb.alloc hB _).grown hg (by simp; omega) (fun k hk => HO.base k hk))
end
end Go.Proofs.YtcmoidldalgljaaGreatDoor
set_option linter.unusedVariables false
set_option linter.unusedSimpArgs false
namespace Go.Proofs.YtcmoidldalgljaaGreatDoor
open Go.RowKit

namespace Hen
def smallN (n : Nat) : Bool := (decide (97 ≤ n) && decide (n ≤ 122)) || (decide (48 ≤ n) && decide (n ≤ 57))
/-- The byte at a place (0 beyond the end). -/
def at0 (l : List UInt8) (i : Nat) : Nat := (l.getD i 0).toNat
def nameB (l : List UInt8) : Bool :=
  decide (1 ≤ l.length) && decide (l.length ≤ 16) && decide (97 ≤ at0 l 0) && decide (at0 l 0 ≤ 122) && !decide (at0 l (l.length - 1) = 45) && l.all fun c => smallN c.toNat || decide (c.toNat = 45)
end Hen

theorem small_calls (n : Nat) (w : World) : Calls Tryz.prog 84 #[.int .u8 (n : Int)] w fun e w' => e = .returned (.bool (Hen.smallN n)) ∧ w = w' := by
  go_enter Tryz.func84, Tryz.ntmps84
  go_wp2
  all_goals (go_ret; exact ⟨ret_bool (by rw [Bool.eq_iff_iff]; simp [Hen.smallN]; omega), rfl⟩)

theorem byte_at0 (s : ByteArray) (i : Nat) (h : i < s.size) : s[i].toNat = Hen.at0 s.data.toList i := by
  unfold Hen.at0
  rw [List.getD_eq_getElem?_getD, List.getElem?_eq_getElem (by simpa using h)]
  rfl

/-- The loop's test over a front. -/
theorem take_all (s : ByteArray) (p : UInt8 → Bool) (k : Nat) (h : k < s.size) : (s.data.toList.take (k + 1)).all p = ((s.data.toList.take k).all p && p s[k]) := by
  rw [List.take_succ_eq_append_getElem (by simpa using h), List.all_append]; simp; rfl

theorem all_take_size (s : ByteArray) (p : UInt8 → Bool) : (s.data.toList.take s.size).all p = s.data.toList.all p := by
  rw [List.take_of_length_le (by simp)]

theorem all_false_of {s : ByteArray} {p : UInt8 → Bool} {k : Nat} (h : (s.data.toList.take k).all p = false) : s.data.toList.all p = false := by
  rw [List.all_eq_false] at h ⊢
  obtain ⟨x, hx, hp⟩ := h
  exact ⟨x, List.mem_of_mem_take hx, hp⟩

def Hen.nameHead (l : List UInt8) : Bool :=
  decide (1 ≤ l.length) && decide (l.length ≤ 16) && decide (97 ≤ Hen.at0 l 0) && decide (Hen.at0 l 0 ≤ 122) && !decide (Hen.at0 l (l.length - 1) = 45)
def Hen.nameRest (c : UInt8) : Bool := smallN c.toNat || decide (c.toNat = 45)
theorem Hen.nameB_eq (l : List UInt8) : Hen.nameB l = (Hen.nameHead l && l.all Hen.nameRest) := rfl

set_option maxHeartbeats 400000 in
theorem name_bad (s : ByteArray) (w : World) (hs : s.size ≤ maxLen) (hb : Hen.nameHead s.data.toList = false) : Calls Tryz.prog 66 #[.string s] w fun e w' => e = .returned (.bool (Hen.nameB s.data.toList)) ∧ w = w' := by
  unfold maxLen at hs
  rw [Hen.nameB_eq, hb, Bool.false_and]
  have HB := Lib.hid hb
  have H0 := Lib.hid (byte_at0 s 0)
  have H1 := Lib.hid (byte_at0 s (s.size - 1))
  have HL := Lib.hid (show s.data.toList.length = s.size by simp)
  clear hb
  go_enter Tryz.func66, Tryz.ntmps66
  go_wp2
  all_goals first
    | (go_ret; exact ⟨rfl, rfl⟩)
    | (exfalso
       have e0 := H0.out (by omega)
       have e1 := H1.out (by omega)
       have hx : ((s[s.size - 1].toNat : Int) == 45) = false := by simp_all
       rw [beq_eq_false_iff_ne] at hx
       have hb := HB.out
       have hL := HL.out
       simp [Hen.nameHead] at hb
       omega)

set_option maxHeartbeats 400000 in
theorem name_good (s : ByteArray) (w : World) (hs : s.size ≤ maxLen) (hb : Hen.nameHead s.data.toList = true) : Calls Tryz.prog 66 #[.string s] w fun e w' => e = .returned (.bool (Hen.nameB s.data.toList)) ∧ w = w' := by
  unfold maxLen at hs
  have HN := Lib.hid (show Hen.nameB s.data.toList = s.data.toList.all Hen.nameRest by rw [Hen.nameB_eq, hb, Bool.true_and])
  have hL : s.data.toList.length = s.size := by simp
  simp [Hen.nameHead, hL] at hb
  obtain ⟨⟨⟨⟨g1, g2⟩, g3⟩, g4⟩, g5⟩ := hb
  have e0 := byte_at0 s 0 (by omega)
  have e1 := byte_at0 s (s.size - 1) (by omega)
  have p0 : 0 < s.size := by omega
  have p1 : s.size - 1 < s.size := by omega
  have b1 : (1 : Int) ≤ s.size := by omega
  have b2 : (s.size : Int) ≤ 16 := by omega
  have b3 : (97 : Int) ≤ s[0].toNat := by omega
  have b4 : (s[0].toNat : Int) ≤ 122 := by omega
  have b5 : ((s[s.size - 1].toNat : Int) == 45) = false := by rw [beq_eq_false_iff_ne]; omega
  clear hL g3 g4 g5 e0 e1
  go_enter Tryz.func66, Tryz.ntmps66
  go_wp2
  go_loop [32] (fun c => ∃ k : Nat, k ≤ s.size ∧ c = .int .i64 k ∧ Hid ((s.data.toList.take k).all Hen.nameRest = true)) (fun c => s.size - (intOf c).toNat)
  case atStart => exact ⟨0, Nat.zero_le _, rfl, rfl⟩
  case round =>
    obtain ⟨k, hk, rfl, HK⟩ := hrel
    by_cases hlt : k < s.size
    · have HT := Lib.hid (take_all s Hen.nameRest k hlt)
      by_cases hs1 : Hen.smallN s[k].toNat = true
      · go_wp2_with (go_at_call 84; refine (small_calls _ _).mono ?_; rintro e w' ⟨rfl, rfl⟩)
        go_round
        case rel => exact ⟨k + 1, by omega, by go_num, by unfold Hid; rw [HT.out, HK.out]; simp [Hen.nameRest, hs1]⟩
        case measure => simp [intOf]; omega
      · have hs2 : Hen.smallN s[k].toNat = false := by simpa using hs1
        clear hs1
        by_cases h45 : s[k].toNat = 45
        · have b6 : ((s[k].toNat : Int) != 45) = false := by rw [bne_eq_false_iff_eq]; omega
          have H45 := Lib.hid h45
          clear h45
          go_wp2_with (go_at_call 84; refine (small_calls _ _).mono ?_; rintro e w' ⟨rfl, rfl⟩)
          go_round
          case rel => exact ⟨k + 1, by omega, by go_num, by unfold Hid; rw [HT.out, HK.out]; simp [Hen.nameRest, H45.out]⟩
          case measure => simp [intOf]; omega
        · have b6 : ((s[k].toNat : Int) != 45) = true := by rw [bne_iff_ne]; omega
          have H45 := Lib.hid h45
          clear h45
          go_wp2_with (go_at_call 84; refine (small_calls _ _).mono ?_; rintro e w' ⟨rfl, rfl⟩)
          go_ret
          exact ⟨ret_bool (HN.out.trans (all_false_of (k := k + 1) (by rw [HT.out, HK.out]; simp [Hen.nameRest, H45.out, hs2]))).symm, rfl⟩
    · obtain rfl : k = s.size := by omega
      go_wp2
      go_ret
      exact ⟨ret_bool (by rw [HN.out, ← all_take_size, HK.out]), rfl⟩

theorem name_calls (s : ByteArray) (w : World) (hs : s.size ≤ maxLen) : Calls Tryz.prog 66 #[.string s] w fun e w' => e = .returned (.bool (Hen.nameB s.data.toList)) ∧ w = w' := by
  cases hb : Hen.nameHead s.data.toList with
  | false => exact name_bad s w hs hb
  | true => exact name_good s w hs hb
end Go.Proofs.YtcmoidldalgljaaGreatDoor
set_option linter.unusedVariables false
set_option linter.unusedSimpArgs false
namespace Go.Proofs.YtcmoidldalgljaaGreatDoor
open Go.RowKit

namespace Hen
def ctl (c : UInt8) : Bool := decide (32 ≤ c.toNat) && !decide (c.toNat = 127)
/-- One byte more of what Clean collects. -/
def sqStep (o : List UInt8) (c : UInt8) : List UInt8 := if c.toNat = 32 ∧ (o = [] ∨ at0 o (o.length - 1) = 32) then o else o ++ [c]
def sq (l : List UInt8) : List UInt8 := l.foldl sqStep []
def trimB (o : List UInt8) : List UInt8 := if 0 < o.length ∧ at0 o (o.length - 1) = 32 then o.take (o.length - 1) else o
def cleanE (o : List UInt8) : Int := if o.length = 0 then 14 else if 64 < o.length then 2 else 0
def cleanS (l : List UInt8) : List UInt8 × Int :=
  if Lib.validD l && l.all ctl then (if cleanE (trimB (sq l)) = 0 then (trimB (sq l), 0) else ([], cleanE (trimB (sq l)))) else ([], 1)
def upB (c : UInt8) : UInt8 := if 65 ≤ c.toNat ∧ c.toNat ≤ 90 then c + 32 else c
def foldS (l : List UInt8) : List UInt8 := l.map upB
end Hen

theorem sq_snoc (s : ByteArray) (k : Nat) (h : k < s.size) : Hen.sq (s.data.toList.take (k + 1)) = Hen.sqStep (Hen.sq (s.data.toList.take k)) s[k] := by
  unfold Hen.sq
  rw [List.take_succ_eq_append_getElem (by simpa using h), List.foldl_append]
  rfl
theorem sq_len (l : List UInt8) : (Hen.sq l).length ≤ l.length := by
  have : ∀ (l o : List UInt8), (l.foldl Hen.sqStep o).length ≤ o.length + l.length := by
    intro l
    induction l with
    | nil => intro o; simp
    | cons c l ih =>
      intro o
      refine Nat.le_trans (ih _) ?_
      unfold Hen.sqStep
      split <;> simp <;> omega
  simpa [Hen.sq] using this l []
theorem sq_take_len (s : ByteArray) (k : Nat) (h : k ≤ s.size) : (Hen.sq (s.data.toList.take k)).length ≤ k := Nat.le_trans (sq_len _) (List.length_take_le _ _)
theorem at0_get (l : List UInt8) (i : Nat) (h : i < l.length) : Hen.at0 l i = l[i].toNat := by
  unfold Hen.at0
  rw [List.getD_eq_getElem?_getD, List.getElem?_eq_getElem h]
  rfl

set_option maxHeartbeats 1000000 in
theorem clean_invalid (s : ByteArray) (w : World) (hs : s.size ≤ maxLen) (hG : GL w) (hv : Lib.validD s.data.toList = false) :
    Calls Tryz.prog 130 #[.string s] w fun e w' => e = .returned (.tuple #[.string ⟨#[]⟩, .int .i64 1]) ∧ Below w.heap.size w w' := by
  have cV := Tryz.utf8_ValidString s w hs hG.tabs
  rw [hv] at cV
  have CV := Lib.hid cV
  clear cV hv
  unfold maxLen at hs
  go_enter Tryz.func130, Tryz.ntmps130
  go_wp2_with (go_at_call 145; refine CV.out.mono ?_; rintro e w1 ⟨rfl, hb⟩)
  go_ret2
  exact ⟨rfl, hb⟩

set_option maxHeartbeats 1000000 in
theorem clean_ctl (s : ByteArray) (w : World) (hs : s.size ≤ maxLen) (hG : GL w) (hv : Lib.validD s.data.toList = true) (hc : s.data.toList.all Hen.ctl = false) :
    Calls Tryz.prog 130 #[.string s] w fun e w' => e = .returned (.tuple #[.string ⟨#[]⟩, .int .i64 1]) ∧ Below w.heap.size w w' := by
  have cV := Tryz.utf8_ValidString s w hs hG.tabs
  rw [hv] at cV
  have CV := Lib.hid cV
  have HC := Lib.hid hc
  clear cV hv hc
  unfold maxLen at hs
  go_enter Tryz.func130, Tryz.ntmps130
  go_wp2_with (go_at_call 145; refine CV.out.mono ?_; rintro e w1 ⟨rfl, hb⟩)
  go_loop [13] (fun c => ∃ k : Nat, k ≤ s.size ∧ c = .int .i64 k ∧ Hid ((s.data.toList.take k).all Hen.ctl = true)) (fun c => s.size - (intOf c).toNat)
  case atStart => exact ⟨0, Nat.zero_le _, rfl, rfl⟩
  case round =>
    obtain ⟨k, hk, rfl, HK⟩ := hrel
    by_cases hlt : k < s.size
    · have HT := Lib.hid (take_all s Hen.ctl k hlt)
      by_cases h1 : 32 ≤ s[k].toNat
      · have b1 : (32 : Int) ≤ s[k].toNat := by omega
        by_cases h2 : s[k].toNat = 127
        · have b2 : ((s[k].toNat : Int) == 127) = true := by rw [beq_iff_eq]; omega
          clear h2
          go_wp2
          go_ret2
          exact ⟨rfl, hb⟩
        · have b2 : ((s[k].toNat : Int) == 127) = false := by rw [beq_eq_false_iff_ne]; omega
          have H2 := Lib.hid h2
          clear h2
          go_wp2
          go_round
          case rel => exact ⟨k + 1, by omega, by go_num, by unfold Hid; rw [HT.out, HK.out]; simp [Hen.ctl, h1, H2.out]⟩
          case measure => simp [intOf]; omega
      · have b1 : (s[k].toNat : Int) < 32 := by omega
        go_wp2
        go_ret2
        exact ⟨rfl, hb⟩
    · exfalso
      obtain rfl : k = s.size := by omega
      have := HK.out
      rw [all_take_size, HC.out] at this
      cases this

/-- The collected row, one byte more. -/
theorem sq_keep {l : List UInt8} {c : UInt8} (h : c.toNat = 32 ∧ (l = [] ∨ Hen.at0 l (l.length - 1) = 32)) : Hen.sqStep l c = l := by unfold Hen.sqStep; rw [if_pos h]
theorem sq_add {l : List UInt8} {c : UInt8} (h : ¬ (c.toNat = 32 ∧ (l = [] ∨ Hen.at0 l (l.length - 1) = 32))) : Hen.sqStep l c = l ++ [c] := by unfold Hen.sqStep; rw [if_neg h]

set_option maxHeartbeats 2000000 in
set_option maxRecDepth 100000 in
theorem clean_good (s : ByteArray) (w : World) (hs : s.size ≤ 140737488355327) (hG : GL w) (hv : Lib.validD s.data.toList = true) (hc : s.data.toList.all Hen.ctl = true) :
    Calls Tryz.prog 130 #[.string s] w fun e w' => e = .returned (.tuple #[.string ⟨(Hen.cleanS s.data.toList).1.toArray⟩, .int .i64 (Hen.cleanS s.data.toList).2]) ∧ Below w.heap.size w w' := by
  obtain ⟨i0, hi, hz0, hz1, hz2⟩ := info_parts infoByte
  have HS := Lib.hid (show Hen.cleanS s.data.toList = (if Hen.cleanE (Hen.trimB (Hen.sq s.data.toList)) = 0 then (Hen.trimB (Hen.sq s.data.toList), 0) else ([], Hen.cleanE (Hen.trimB (Hen.sq s.data.toList)))) by unfold Hen.cleanS; rw [hv, hc]; rfl)
  have cV := Tryz.utf8_ValidString s w (by omega) hG.tabs
  rw [hv] at cV
  have CV := Lib.hid cV
  have HC := Lib.hid hc
  have HB := Lib.hid hs
  have hm : s.size ≤ 2 ^ 63 - 1 := by omega
  clear cV hv hc hs
  go_enter Tryz.func130, Tryz.ntmps130
  go_wp2_with (go_at_call 145; refine CV.out.mono ?_; rintro e w1 ⟨rfl, hb⟩)
  clear CV
  go_loop [13] (fun c => ∃ k : Nat, k ≤ s.size ∧ c = .int .i64 k) (fun c => s.size - (intOf c).toNat)
  case atStart => exact ⟨0, Nat.zero_le _, rfl⟩
  case round =>
    obtain ⟨k, hk, rfl⟩ := hrel
    by_cases hlt : k < s.size
    · have hct : Hen.ctl s[k] = true := List.all_eq_true.1 HC.out s[k] (by
        have : s[k] = s.data.toList[k]'(by simpa using hlt) := rfl
        rw [this]; exact List.getElem_mem _)
      unfold Hen.ctl at hct
      have b1 : (32 : Int) ≤ s[k].toNat := by simp at hct; omega
      have b2 : ((s[k].toNat : Int) == 127) = false := by simp at hct; rw [beq_eq_false_iff_ne]; omega
      clear hct
      go_wp2
      go_round
      case rel => exact ⟨k + 1, by omega, by go_num⟩
      case measure => simp [intOf]; omega
    · obtain rfl : k = s.size := by omega
      clear HC hlt
      go_wp2
      go_loopw [5, 29] (fun v i wr => ∃ (k : Nat) (A : Option Addr) (c : Nat), k ≤ s.size ∧ i = .int .i64 k ∧ v = .slice A (Hen.sq (s.data.toList.take k)).length c ∧ Row wr w.heap.size (.slice A (Hen.sq (s.data.toList.take k)).length c) (Hen.sq (s.data.toList.take k)) ∧ Below w.heap.size w wr) (fun v i _ => s.size - (intOf i).toNat)
      case atStart => exact ⟨0, none, 0, Nat.zero_le _, rfl, rfl, Row.nil_ _ _, hb⟩
      case round =>
        obtain ⟨k, A, c, hk2, rfl, rfl, hown, hbr⟩ := hrel
        have hll := sq_take_len s k hk2
        by_cases hlt : k < s.size
        · have HT := Lib.hid (sq_snoc s k hlt)
          generalize Hen.sq (s.data.toList.take k) = l at hown HT hll ⊢
          by_cases h32 : s[k].toNat = 32
          · have b1 : ((s[k].toNat : Int) == 32) = true := by rw [beq_iff_eq]; omega
            have H32 := Lib.hid h32
            clear h32
            rcases Nat.eq_zero_or_pos l.length with h0 | h0
            · obtain rfl : l = [] := List.eq_nil_of_length_eq_zero h0
              clear h0
              go_wp2
              go_roundw
              case rel => exact ⟨k + 1, A, c, by omega, by go_num, by rw [HT.out, sq_keep ⟨H32.out, .inl rfl⟩], by rw [HT.out, sq_keep ⟨H32.out, .inl rfl⟩]; exact hown, hbr⟩
              case measure => simp [intOf]; omega
            · obtain ⟨g, c', hv, hBg, hgl, hcell⟩ := hown.at_ h0
              injection hv with hA _ hcc
              subst hA hcc
              have b3 : ((l.length : Int) == 0) = false := by rw [beq_eq_false_iff_ne]; omega
              have hcl := hcell (l.length - 1) (by omega)
              have b4 : (1 : Int) ≤ l.length := by omega
              by_cases hla : l[l.length - 1].toNat = 32
              · have b2 : ((l[l.length - 1].toNat : Int) == 32) = true := by rw [beq_iff_eq]; omega
                have HL := Lib.hid ((at0_get l (l.length - 1) (by omega)).trans hla)
                clear hla hcell
                go_wp2
                go_roundw
                case rel => exact ⟨k + 1, _, c, by omega, by go_num, by rw [HT.out, sq_keep ⟨H32.out, .inr HL.out⟩], by rw [HT.out, sq_keep ⟨H32.out, .inr HL.out⟩]; exact hown, hbr⟩
                case measure => simp [intOf]; omega
              · have b2 : ((l[l.length - 1].toNat : Int) == 32) = false := by rw [beq_eq_false_iff_ne]; omega
                have HL := Lib.hid (show ¬ (s[k].toNat = 32 ∧ (l = [] ∨ Hen.at0 l (l.length - 1) = 32)) by
                  rw [at0_get l (l.length - 1) (by omega)]
                  rintro ⟨_, h | h⟩
                  · subst h; simp at h0
                  · exact hla h)
                clear hla hcell
                go_wp2_with (at_builtin; go_must (refine wp_append_byte rfl _ _ rfl w.heap.size s[k] hown rfl rfl hbr hbr.size (by have := HB.out; omega) ?_); intro A1 c1 w2 hown1 hb1)
                go_roundw
                case rel => exact ⟨k + 1, A1, c1, by omega, by go_num, by rw [HT.out, sq_add (HL.out)]; simp, by rw [HT.out, sq_add (HL.out)]; exact hown1, hb1⟩
                case measure => simp [intOf]; omega
          · have b1 : ((s[k].toNat : Int) == 32) = false := by rw [beq_eq_false_iff_ne]; omega
            have HL := Lib.hid (show ¬ (s[k].toNat = 32 ∧ (l = [] ∨ Hen.at0 l (l.length - 1) = 32)) from fun h => h32 h.1)
            clear h32
            go_wp2_with (at_builtin; go_must (refine wp_append_byte rfl _ _ rfl w.heap.size s[k] hown rfl rfl hbr hbr.size (by have := HB.out; omega) ?_); intro A1 c1 w2 hown1 hb1)
            go_roundw
            case rel => exact ⟨k + 1, A1, c1, by omega, by go_num, by rw [HT.out, sq_add (HL.out)]; simp, by rw [HT.out, sq_add (HL.out)]; exact hown1, hb1⟩
            case measure => simp [intOf]; omega
        · obtain rfl : k = s.size := by omega
          rw [show s.data.toList.take s.size = s.data.toList from List.take_of_length_le (by simp)] at hown hll ⊢
          generalize Hen.sq s.data.toList = o at hown hll HS ⊢
          rcases Nat.eq_zero_or_pos o.length with h0 | h0
          · obtain rfl : o = [] := List.eq_nil_of_length_eq_zero h0
            clear h0
            go_wp2
            go_ret2
            exact ⟨by rw [HS.out]; rfl, hbr⟩
          · have hle := hown.le
            obtain ⟨g, c', hv, hBg, hgl, hcell⟩ := hown.at_ h0
            injection hv with hA _ hcc
            subst hA hcc
            have b3 : (0 : Int) < o.length := by omega
            have hidx : o.length - 1 < o.length := by omega
            have hcl := hcell (o.length - 1) hidx
            have b4 : (1 : Int) ≤ o.length := by omega
            have b5 : ((o.length - 1 : Nat) : Int) ≤ c := by omega
            have b6 : (o.length : Int) - 1 ≤ c := by omega
            by_cases hla : (o[o.length - 1]'hidx).toNat = 32
            · have b2 : (((o[o.length - 1]'hidx).toNat : Int) == 32) = true := by rw [beq_iff_eq]; omega
              have hE : Hen.trimB o = o.take (o.length - 1) := by unfold Hen.trimB; rw [if_pos ⟨h0, (at0_get o _ (by omega)).trans hla⟩]
              rw [hE] at HS
              have hrow := hown.cut (o.length - 1) (by omega) (by simp)
              have hcv := hrow.text
              have hlen : (o.take (o.length - 1)).length = o.length - 1 := by simp
              generalize o.take (o.length - 1) = o2 at HS hcv hlen
              clear hla hcell hrow hE
              have HL := Lib.hid hlen
              rcases Nat.lt_or_ge 64 o2.length with h64 | h64
              · have c1 : (64 : Int) < (o.length - 1 : Nat) := by omega
                have c2 : (((o.length - 1 : Nat) : Int) == 0) = false := by rw [beq_eq_false_iff_ne]; omega
                go_wp2
                go_ret2
                exact ⟨by rw [HS.out, show Hen.cleanE o2 = 2 by unfold Hen.cleanE; rw [if_neg (by omega), if_pos h64]]; rfl, hbr⟩
              · have c1 : ((o.length - 1 : Nat) : Int) ≤ 64 := by omega
                rcases Nat.eq_zero_or_pos o2.length with hz | hz
                · have c2 : (((o.length - 1 : Nat) : Int) == 0) = true := by rw [beq_iff_eq]; omega
                  go_wp2
                  go_ret2
                  exact ⟨by rw [HS.out, show Hen.cleanE o2 = 14 by unfold Hen.cleanE; rw [if_pos hz]]; rfl, hbr⟩
                · have c2 : (((o.length - 1 : Nat) : Int) == 0) = false := by rw [beq_eq_false_iff_ne]; omega
                  go_wp2
                  go_ret2
                  exact ⟨by rw [HS.out, show Hen.cleanE o2 = 0 by unfold Hen.cleanE; rw [if_neg (by omega), if_neg (by omega)]]; rfl, hbr⟩
            · have b2 : (((o[o.length - 1]'hidx).toNat : Int) == 32) = false := by rw [beq_eq_false_iff_ne]; omega
              have hE : Hen.trimB o = o := by unfold Hen.trimB; rw [if_neg (fun h => hla ((at0_get o _ (by omega)).symm.trans h.2))]
              rw [hE] at HS
              have hcv := hown.text
              have hlen : o.length = o.length := rfl
              clear hla hcell hE
              have HL := Lib.hid hlen
              rcases Nat.lt_or_ge 64 o.length with h64 | h64
              · have c1 : (64 : Int) < o.length := by omega
                have c2 : ((o.length : Int) == 0) = false := by rw [beq_eq_false_iff_ne]; omega
                go_wp2
                go_ret2
                exact ⟨by rw [HS.out, show Hen.cleanE o = 2 by unfold Hen.cleanE; rw [if_neg (by omega), if_pos h64]]; rfl, hbr⟩
              · have c1 : (o.length : Int) ≤ 64 := by omega
                rcases Nat.eq_zero_or_pos o.length with hz | hz
                · have c2 : ((o.length : Int) == 0) = true := by rw [beq_iff_eq]; omega
                  go_wp2
                  go_ret2
                  exact ⟨by rw [HS.out, show Hen.cleanE o = 14 by unfold Hen.cleanE; rw [if_pos hz]]; rfl, hbr⟩
                · have c2 : ((o.length : Int) == 0) = false := by rw [beq_eq_false_iff_ne]; omega
                  go_wp2
                  go_ret2
                  exact ⟨by rw [HS.out, show Hen.cleanE o = 0 by unfold Hen.cleanE; rw [if_neg (by omega), if_neg (by omega)]]; rfl, hbr⟩

theorem clean_calls (s : ByteArray) (w : World) (hs : s.size ≤ 140737488355327) (hG : GL w) :
    Calls Tryz.prog 130 #[.string s] w fun e w' => e = .returned (.tuple #[.string ⟨(Hen.cleanS s.data.toList).1.toArray⟩, .int .i64 (Hen.cleanS s.data.toList).2]) ∧ Below w.heap.size w w' := by
  cases hv : Lib.validD s.data.toList with
  | false =>
    have e : Hen.cleanS s.data.toList = ([], 1) := by unfold Hen.cleanS; rw [hv]; rfl
    rw [e]; exact clean_invalid s w (by unfold maxLen; omega) hG hv
  | true =>
    cases hc : s.data.toList.all Hen.ctl with
    | false =>
      have e : Hen.cleanS s.data.toList = ([], 1) := by unfold Hen.cleanS; rw [hv, hc]; rfl
      rw [e]; exact clean_ctl s w (by unfold maxLen; omega) hG hv hc
    | true => exact clean_good s w hs hG hv hc
end Go.Proofs.YtcmoidldalgljaaGreatDoor

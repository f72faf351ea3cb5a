/-
  Contracts: the reader of bytes: number.
-/
import Derived.Test.YtcmoidldalgljaaGreatDoorPm
set_option linter.unusedVariables false
set_option linter.unusedSimpArgs false
namespace Go.Proofs.YtcmoidldalgljaaGreatDoor
open Go.RowKit
open Hen

namespace Hen
def beN (l : List UInt8) : Nat := l.foldl (fun u c => u * 256 + c.toNat) 0
def numR (l : List UInt8) (p : Nat) : Nat × Nat × Int :=
  if l.length ≤ p then (0, 0, 14)
  else if at0 l p ≤ 247 then (at0 l p, p + 1, 0)
  else if l.length - p - 1 < at0 l p - 247 then (0, 0, 14)
  else if at0 l (p + 1) = 0 ∨ beN ((l.drop (p + 1)).take (at0 l p - 247)) ≤ 247 ∨ 9223372036854775808 ≤ beN ((l.drop (p + 1)).take (at0 l p - 247)) then (0, 0, 1)
  else (beN ((l.drop (p + 1)).take (at0 l p - 247)), p + 1 + (at0 l p - 247), 0)
end Hen

/-- A reader's block r, and the bytes' block g. -/
structure RD (w : World) (r g c : Nat) (l : List UInt8) (p : Nat) (err : Int) : Prop where
  box : Box w r [.slice (some ⟨g, 0, none⟩) l.length c, .int .i64 p, .int .i64 err]
  lt : g < w.heap.size
  bts : ∀ i (h : i < l.length), w.cell? ⟨g, i, none⟩ = some (.int .u8 ((l[i].toNat : Nat) : Int))
  ne : g ≠ r
  cap : l.length ≤ c

theorem beN_snoc (l : List UInt8) (c : UInt8) : beN (l ++ [c]) = beN l * 256 + c.toNat := by unfold beN; rw [List.foldl_append]; rfl
theorem beN_lt (l : List UInt8) : beN l < 256 ^ l.length := by
  have : ∀ (l : List UInt8) (u : Nat), l.foldl (fun u c => u * 256 + c.toNat) u < (u + 1) * 256 ^ l.length := by
    intro l
    induction l with
    | nil => intro u; simp
    | cons c l ih =>
      intro u
      have h1 := ih (u * 256 + c.toNat)
      have h2 := c.toNat_lt
      simp only [List.foldl_cons, List.length_cons, Nat.pow_succ]
      refine Nat.lt_of_lt_of_le h1 ?_
      rw [Nat.mul_comm (256 ^ l.length) 256, ← Nat.mul_assoc]
      exact Nat.mul_le_mul_right _ (by omega)
  simpa [beN] using this l 0

theorem or_byte (X y : Nat) (hX : X < 72057594037927936) (hy : y < 256) : bits BinOp.or IntKind.u64 ((X : Int) * 256) (y : Int) = ((X * 256 + y : Nat) : Int) := by
  have h1 : BitVec.ofInt (IntKind.bits .u64) ((X : Int) * 256) = BitVec.ofNat 64 (X * 256) := by
    rw [show ((X : Int) * 256) = ((X * 256 : Nat) : Int) by omega]; exact BitVec.ofInt_natCast ..
  have h2 : BitVec.ofInt (IntKind.bits .u64) (y : Int) = BitVec.ofNat 64 y := BitVec.ofInt_natCast ..
  unfold bits
  simp only [h1, h2]
  have h3 : ((BitVec.ofNat 64 (X * 256)) ||| (BitVec.ofNat 64 y)).toNat = X * 256 + y := by
    rw [BitVec.toNat_or, BitVec.toNat_ofNat, BitVec.toNat_ofNat, Nat.mod_eq_of_lt (by omega), Nat.mod_eq_of_lt (by omega)]
    have := Nat.two_pow_add_eq_or_of_lt (i := 8) (b := y) (by omega) X
    rw [show X * 256 = 2 ^ 8 * X by omega, ← this]
  show IntKind.u64.wrap ((((BitVec.ofNat 64 (X * 256)) ||| (BitVec.ofNat 64 y)).toNat : Nat) : Int) = _
  rw [h3]
  simp [IntKind.wrap, IntKind.bits, IntKind.signed]
  omega

set_option maxHeartbeats 8000000 in
set_option maxRecDepth 100000 in
theorem rnumber_calls (w : World) (r g c : Nat) (l : List UInt8) (p0 : Nat) (err : Int) (p : Nat) (h : RD w r g c l p0 err) (hl : l.length ≤ 1099511627776) (hp : p ≤ 1099511627776) :
    Calls Tryz.prog 65 #[.pointer (some ⟨r, 0, none⟩), .int .i64 p] w fun e w' => e = .returned (.tuple #[.int .i64 (numR l p).1, .int .i64 (numR l p).2.1, .int .i64 (numR l p).2.2]) ∧ w' = w := by
  have q0 : w.cell? ⟨r, 0, none⟩ = some (.slice (some ⟨g, 0, none⟩) l.length c) := h.box.cell 0 rfl
  have hR : numR l p = if l.length ≤ p then (0, 0, 14)
      else if at0 l p ≤ 247 then (at0 l p, p + 1, 0)
      else if l.length - p - 1 < at0 l p - 247 then (0, 0, 14)
      else if at0 l (p + 1) = 0 ∨ beN ((l.drop (p + 1)).take (at0 l p - 247)) ≤ 247 ∨ 9223372036854775808 ≤ beN ((l.drop (p + 1)).take (at0 l p - 247)) then (0, 0, 1)
      else (beN ((l.drop (p + 1)).take (at0 l p - 247)), p + 1 + (at0 l p - 247), 0) := rfl
  generalize numR l p = R at hR ⊢
  have hb := h.bts
  have hcap := h.cap
  by_cases h1 : l.length ≤ p
  · rw [if_pos h1] at hR
    subst hR
    have b1 : (l.length : Int) ≤ p := by omega
    clear hb h h1
    go_enter Tryz.func65, Tryz.ntmps65
    go_wp2
    go_ret3
    exact ⟨rfl, rfl⟩
  rw [if_neg h1] at hR
  have b1 : (p : Int) < l.length := by omega
  have hbp := hb p (by omega)
  have ha : at0 l p = l[p].toNat := at0_get l p (by omega)
  have hlt := l[p].toNat_lt
  rw [ha] at hR
  generalize l[p].toNat = f at *
  by_cases h2 : f ≤ 247
  · rw [if_pos h2] at hR
    subst hR
    have b2 : (f : Int) ≤ 247 := by omega
    clear hb h ha
    go_enter Tryz.func65, Tryz.ntmps65
    go_wp2
    go_ret3
    exact ⟨rfl, rfl⟩
  rw [if_neg h2] at hR
  obtain ⟨k, hk⟩ : ∃ k, f - 247 = k := ⟨_, rfl⟩
  rw [hk] at hR
  have e8 : ((f : Nat) : Int) - 247 = k := by omega
  have b2 : (247 : Int) < f := by omega
  by_cases h3 : l.length - p - 1 < k
  · rw [if_pos h3] at hR
    subst hR
    have b3 : (l.length : Int) - p - 1 < k := by omega
    clear hb h ha
    go_enter Tryz.func65, Tryz.ntmps65
    go_wp2
    go_ret3
    exact ⟨rfl, rfl⟩
  rw [if_neg h3] at hR
  have b3 : (k : Int) ≤ (l.length : Int) - p - 1 := by omega
  have b4 : (p : Int) + 1 + k ≤ c := by omega
  have HR := Lib.hid hR
  have HB := Lib.hid hb
  clear hR hb h ha
  go_enter Tryz.func65, Tryz.ntmps65
  go_wp2
  go_loopw [9, 56] (fun u i wr => wr = w ∧ ∃ j : Nat, j ≤ k ∧ i = .int .i64 j ∧ u = .int .u64 ((beN ((l.drop (p + 1)).take j) : Nat) : Int)) (fun _ i _ => k - (intOf i).toNat)
  case atStart => exact ⟨rfl, 0, Nat.zero_le _, rfl, rfl⟩
  case round =>
    obtain ⟨rfl, j, hj, rfl, rfl⟩ := hrel
    by_cases hlt2 : j < k
    · have b5 : (j : Int) < k := by omega
      have hx := HB.out (p + 1 + j) (by omega)
      have hsn : (l.drop (p + 1)).take (j + 1) = (l.drop (p + 1)).take j ++ [l[p + 1 + j]'(by omega)] := by
        rw [List.take_succ_eq_append_getElem (by simp; omega)]; simp
      have hbn := beN_snoc ((l.drop (p + 1)).take j) (l[p + 1 + j]'(by omega))
      rw [← hsn] at hbn
      have hbl := beN_lt ((l.drop (p + 1)).take j)
      have hyl := (l[p + 1 + j]'(by omega)).toNat_lt
      generalize (l[p + 1 + j]'(by omega)).toNat = y at hx hbn hyl
      generalize hXX : beN ((l.drop (p + 1)).take j) = X at hbn hbl
      have hX : X < 72057594037927936 := by
        refine Nat.lt_of_lt_of_le hbl ?_
        have : ((l.drop (p + 1)).take j).length ≤ 7 := by simp; omega
        exact Nat.le_trans (Nat.pow_le_pow_right (by omega) this) (by decide)
      have b6 : (X : Int) < 72057594037927936 := by omega
      have b7 : (y : Int) < 256 := by omega
      have HN := Lib.hid hbn
      clear hsn hbn hbl hXX
      go_wp2
      go_round
      case rel => exact ⟨trivial, j + 1, by omega, by go_num, by rw [or_byte X y hX hyl, HN.out]⟩
      case measure => simp [intOf]; omega
    · obtain rfl : j = k := by omega
      have hx := HB.out (p + 1) (by omega)
      have ha1 : at0 l (p + 1) = (l[p + 1]'(by omega)).toNat := at0_get l (p + 1) (by omega)
      have hR := HR.out
      rw [ha1] at hR
      generalize (l[p + 1]'(by omega)).toNat = y at hx hR
      generalize beN ((l.drop (p + 1)).take j) = X at hR
      clear ha1 HR HB
      by_cases hbad : y = 0 ∨ X ≤ 247 ∨ 9223372036854775808 ≤ X
      · rw [if_pos hbad] at hR
        subst hR
        have hway : ((y : Int) == 0) = true ∨ (((y : Int) == 0) = false ∧ (X : Int) ≤ 247) ∨ (((y : Int) == 0) = false ∧ (247 : Int) < X ∧ (9223372036854775808 : Int) ≤ X) := by
          simp only [beq_iff_eq, beq_eq_false_iff_ne]
          omega
        clear hbad
        rcases hway with e1 | ⟨e1, e2⟩ | ⟨e1, e2, e3⟩
        all_goals
          go_wp2
          go_ret3
          exact ⟨rfl, rfl⟩
      · rw [if_neg hbad] at hR
        subst hR
        have e1 : ((y : Int) == 0) = false := by rw [beq_eq_false_iff_ne]; omega
        have e2 : (247 : Int) < X := by omega
        have e3 : ¬ (9223372036854775808 : Int) ≤ (X : Int) := by omega
        have d3 : decide ((9223372036854775808 : Int) ≤ (X : Int)) = false := decide_eq_false e3
        have e5 : X ≤ 9223372036854775807 := by omega
        clear e3
        clear hbad
        go_wp2
        go_ret3
        exact ⟨rfl, rfl⟩
end Go.Proofs.YtcmoidldalgljaaGreatDoor
set_option linter.unusedVariables false
set_option linter.unusedSimpArgs false
namespace Go.Proofs.YtcmoidldalgljaaGreatDoor
open Go.RowKit
open Hen

/-- Nothing has turned but the blocks r and x, and new ones. -/
structure Kept (r x : Nat) (w w' : World) : Prop where
  os : w'.os = w.os
  tape : w'.tape = w.tape
  output : w'.output = w.output
  size : w.heap.size ≤ w'.heap.size
  block : ∀ k, k < w.heap.size → k ≠ r → k ≠ x → w'.heap[k]? = w.heap[k]?
theorem Kept.refl (r x : Nat) (w : World) : Kept r x w w := ⟨rfl, rfl, rfl, Nat.le_refl _, fun _ _ _ _ => rfl⟩
theorem Kept.trans {r x : Nat} {a b c : World} (h : Kept r x a b) (k : Kept r x b c) : Kept r x a c :=
  ⟨k.os.trans h.os, k.tape.trans h.tape, k.output.trans h.output, Nat.le_trans h.size k.size, fun i hi h1 h2 => (k.block i (Nat.lt_of_lt_of_le hi h.size) h1 h2).trans (h.block i hi h1 h2)⟩
theorem Kept.drew {r x : Nat} {a b : World} (h : Kept r x a b) : Kept r x a b.drew := ⟨h.os, h.tape, h.output, h.size, h.block⟩
theorem Kept.set_ {r x : Nat} {a b : World} (h : Kept r x a b) (i : Nat) (v : Value) : Kept r x a (b.setCell ⟨r, i, none⟩ v) := by
  have hh : ∀ k, k ≠ r → (b.setCell ⟨r, i, none⟩ v).heap[k]? = b.heap[k]? := fun k hk => Below.heap_setCell b ⟨r, i, none⟩ v k hk
  exact ⟨h.os, h.tape, h.output, by simpa using h.size, fun k hk h1 h2 => (hh k h1).trans (h.block k hk h1 h2)⟩
theorem Kept.setx {r x : Nat} {a b : World} (h : Kept r x a b) (i : Nat) (v : Value) : Kept r x a (b.setCell ⟨x, i, none⟩ v) := by
  have hh : ∀ k, k ≠ x → (b.setCell ⟨x, i, none⟩ v).heap[k]? = b.heap[k]? := fun k hk => Below.heap_setCell b ⟨x, i, none⟩ v k hk
  exact ⟨h.os, h.tape, h.output, by simpa using h.size, fun k hk h1 h2 => (hh k h2).trans (h.block k hk h1 h2)⟩
theorem Kept.of_below {r x : Nat} {a b : World} (h : Below a.heap.size a b) : Kept r x a b := ⟨h.os, h.tape, h.output, h.size, fun k hk _ _ => h.block k hk⟩
theorem Kept.more {r x : Nat} {a b : World} (h : Kept r r a b) : Kept r x a b := ⟨h.os, h.tape, h.output, h.size, fun k hk h1 _ => h.block k hk h1 h1⟩
theorem cell_of_block {w w' : World} {p : Addr} (h : w'.heap[p.block]? = w.heap[p.block]?) : w'.cell? p = w.cell? p := World.cell?_of_block h

theorem RD.set1 {w : World} {r g c : Nat} {l : List UInt8} {p : Nat} {err : Int} (h : RD w r g c l p err) (q : Nat) : RD (w.setCell ⟨r, 1, none⟩ (.int .i64 q)) r g c l q err where
  box := h.box.set_ 1 (by simp) _
  lt := by simpa using h.lt
  bts := fun i hi => (World.cell?_setCell_other w ⟨r, 1, none⟩ ⟨g, i, none⟩ _ (fun e => h.ne (congrArg Addr.block e).symm)).trans (h.bts i hi)
  ne := h.ne
  cap := h.cap
theorem RD.set2 {w : World} {r g c : Nat} {l : List UInt8} {p : Nat} {err : Int} (h : RD w r g c l p err) (q : Int) : RD (w.setCell ⟨r, 2, none⟩ (.int .i64 q)) r g c l p q where
  box := h.box.set_ 2 (by simp) _
  lt := by simpa using h.lt
  bts := fun i hi => (World.cell?_setCell_other w ⟨r, 2, none⟩ ⟨g, i, none⟩ _ (fun e => h.ne (congrArg Addr.block e).symm)).trans (h.bts i hi)
  ne := h.ne
  cap := h.cap
theorem RD.drew {w : World} {r g c : Nat} {l : List UInt8} {p : Nat} {err : Int} (h : RD w r g c l p err) : RD w.drew r g c l p err := ⟨h.box, h.lt, h.bts, h.ne, h.cap⟩

namespace Hen
/-- A reader's state: where it stands, its first error. -/
def numA (l : List UInt8) (p : Nat) (e : Int) : Nat × Nat × Int := if e ≠ 0 then (0, p, e) else if (numR l p).2.2 ≠ 0 then (0, p, (numR l p).2.2) else ((numR l p).1, (numR l p).2.1, 0)
end Hen

set_option maxHeartbeats 4000000 in
set_option maxRecDepth 100000 in
theorem rnum_calls (w : World) (r g c : Nat) (l : List UInt8) (p : Nat) (err : Int) (h : RD w r g c l p err) (hl : l.length ≤ 1099511627776) (hp : p ≤ 1099511627776) :
    Calls Tryz.prog 46 #[.pointer (some ⟨r, 0, none⟩)] w fun e w' => e = .returned (.int .i64 (numA l p err).1) ∧ RD w' r g c l (numA l p err).2.1 (numA l p err).2.2 ∧ Kept r r w w' := by
  have cN := rnumber_calls w r g c l p err p h hl hp
  have hA : numA l p err = if err ≠ 0 then (0, p, err) else if (numR l p).2.2 ≠ 0 then (0, p, (numR l p).2.2) else ((numR l p).1, (numR l p).2.1, 0) := rfl
  generalize numA l p err = R at hA ⊢
  generalize numR l p = N at cN hA
  obtain ⟨n, nx, e⟩ := N
  simp only at cN hA
  have q0 : w.cell? ⟨r, 0, none⟩ = some (.slice (some ⟨g, 0, none⟩) l.length c) := h.box.cell 0 rfl
  have q1 : w.cell? ⟨r, 1, none⟩ = some (.int .i64 p) := h.box.cell 1 rfl
  have q2 : w.cell? ⟨r, 2, none⟩ = some (.int .i64 err) := h.box.cell 2 rfl
  have f1 := h.box.free 1 (v := .int .i64 p) rfl
  have f2 := h.box.free 2 (v := .int .i64 err) rfl
  have H := Lib.hid h
  have CN := Lib.hid cN
  clear h cN
  by_cases he : err = 0
  · rw [if_neg (by simpa using he)] at hA
    have e0 : (err != 0) = false := by rw [bne_eq_false_iff_eq]; exact he
    by_cases hn : e = 0
    · rw [if_neg (by simpa using hn)] at hA
      subst hn
      subst hA
      have HE := Lib.hid he
      clear he
      go_enter Tryz.func46, Tryz.ntmps46
      go_wp2_with fail
      refine CN.out.mono ?_
      rintro e w1 ⟨rfl, rfl⟩
      go_wp2
      go_ret
      refine ⟨rfl, ?_, (Kept.refl r r _).set_ 1 _⟩
      have := H.out.set1 nx
      rwa [HE.out] at this
    · rw [if_pos (by simpa using hn)] at hA
      subst hA
      have e1 : (e != 0) = true := bne_iff_ne.2 hn
      clear hn he
      go_enter Tryz.func46, Tryz.ntmps46
      go_wp2_with fail
      refine CN.out.mono ?_
      rintro e w1 ⟨rfl, rfl⟩
      go_wp2
      go_ret
      exact ⟨rfl, H.out.set2 _, (Kept.refl r r _).set_ 2 _⟩
  · rw [if_pos he] at hA
    subst hA
    have e0 : (err != 0) = true := bne_iff_ne.2 he
    clear he
    go_enter Tryz.func46, Tryz.ntmps46
    go_wp2
    go_ret
    exact ⟨rfl, H.out, Kept.refl r r _⟩

set_option maxHeartbeats 1000000 in
theorem rerr_calls (w : World) (r g c : Nat) (l : List UInt8) (p : Nat) (err : Int) (h : RD w r g c l p err) :
    Calls Tryz.prog 48 #[.pointer (some ⟨r, 0, none⟩)] w fun e w' => e = .returned (.int .i64 err) ∧ w' = w := by
  have q2 : w.cell? ⟨r, 2, none⟩ = some (.int .i64 err) := h.box.cell 2 rfl
  clear h
  go_enter Tryz.func48, Tryz.ntmps48
  go_wp2
  go_ret
  exact ⟨rfl, rfl⟩

set_option maxHeartbeats 1000000 in
theorem rleft_calls (w : World) (r g c : Nat) (l : List UInt8) (p : Nat) (err : Int) (h : RD w r g c l p err) (hl : l.length ≤ 1099511627776) (hp : p ≤ 1099511627776) :
    Calls Tryz.prog 49 #[.pointer (some ⟨r, 0, none⟩)] w fun e w' => e = .returned (.int .i64 ((l.length : Int) - p)) ∧ ∃ n, w' = w.drewN n := by
  have q0 : w.cell? ⟨r, 0, none⟩ = some (.slice (some ⟨g, 0, none⟩) l.length c) := h.box.cell 0 rfl
  have q1 : w.cell? ⟨r, 1, none⟩ = some (.int .i64 p) := h.box.cell 1 rfl
  clear h
  go_enter Tryz.func49, Tryz.ntmps49
  go_wp2_with fail
  go_region
  go_wp2
  go_ret
  exact ⟨rfl, 1, rfl⟩
end Go.Proofs.YtcmoidldalgljaaGreatDoor
set_option linter.unusedVariables false
set_option linter.unusedSimpArgs false
namespace Go.Proofs.YtcmoidldalgljaaGreatDoor
open Go.RowKit
open Hen

namespace Hen
/-- What Text reads: the text, the place, the error. -/
def textE (l : List UInt8) (p most : Nat) : Int :=
  if (numR l p).2.2 ≠ 0 then (numR l p).2.2 else if l.length - (numR l p).2.1 < (numR l p).1 then 14 else if most < (numR l p).1 then 2 else 0
def textA (l : List UInt8) (p : Nat) (e : Int) (most : Nat) : List UInt8 × Nat × Int :=
  if e ≠ 0 then ([], p, e) else if textE l p most ≠ 0 then ([], p, textE l p most) else ((l.drop (numR l p).2.1).take (numR l p).1, (numR l p).2.1 + (numR l p).1, 0)
end Hen
theorem numR_next (l : List UInt8) (p : Nat) (h : (numR l p).2.2 = 0) : p < (numR l p).2.1 ∧ (numR l p).2.1 ≤ l.length := by
  have e : numR l p = if l.length ≤ p then (0, 0, 14)
      else if at0 l p ≤ 247 then (at0 l p, p + 1, 0)
      else if l.length - p - 1 < at0 l p - 247 then (0, 0, 14)
      else if at0 l (p + 1) = 0 ∨ beN ((l.drop (p + 1)).take (at0 l p - 247)) ≤ 247 ∨ 9223372036854775808 ≤ beN ((l.drop (p + 1)).take (at0 l p - 247)) then (0, 0, 1)
      else (beN ((l.drop (p + 1)).take (at0 l p - 247)), p + 1 + (at0 l p - 247), 0) := rfl
  generalize numR l p = R at e h ⊢
  (repeat' split at e) <;> subst e <;> simp at h ⊢ <;> omega
theorem numR_small (l : List UInt8) (p : Nat) : (numR l p).1 ≤ 9223372036854775807 := by
  have e : numR l p = if l.length ≤ p then (0, 0, 14)
      else if at0 l p ≤ 247 then (at0 l p, p + 1, 0)
      else if l.length - p - 1 < at0 l p - 247 then (0, 0, 14)
      else if at0 l (p + 1) = 0 ∨ beN ((l.drop (p + 1)).take (at0 l p - 247)) ≤ 247 ∨ 9223372036854775808 ≤ beN ((l.drop (p + 1)).take (at0 l p - 247)) then (0, 0, 1)
      else (beN ((l.drop (p + 1)).take (at0 l p - 247)), p + 1 + (at0 l p - 247), 0) := rfl
  generalize numR l p = R at e ⊢
  (repeat' split at e) <;> subst e <;> simp only <;> omega

theorem conv_cut (W : World) (g nx n c : Nat) (l : List UInt8) (hb : ∀ i (h : i < l.length), W.cell? ⟨g, i, none⟩ = some (.int .u8 ((l[i].toNat : Nat) : Int))) (h1 : nx + n ≤ l.length) (h2 : l.length ≤ c) :
    (convert 29 9 (.slice (if c = nx then some ⟨g, 0, none⟩ else some ⟨g, nx, none⟩) (nx + n - nx) (c - nx))).run Tryz.prog W = .ok (.string ⟨((l.drop nx).take n).toArray⟩) W := by
  rw [show nx + n - nx = n by omega]
  by_cases hc : c = nx
  · obtain rfl : n = 0 := by omega
    rw [if_pos hc]
    have := run_convert_bytes_arg W _ _ Tryz.underlying29 Tryz.underlying5 g 0 0 (c - nx) [] rfl (fun i hi => absurd hi (by omega)) _ Tryz.underlying9
    rw [this]
    simp [strOfNums]
  · rw [if_neg hc]
    have hlen : (((l.drop nx).take n).map fun b => ((b.toNat : Nat) : Int)).length = n := by simp; omega
    have := run_convert_bytes_arg W _ _ Tryz.underlying29 Tryz.underlying5 g nx n (c - nx) (((l.drop nx).take n).map fun b => ((b.toNat : Nat) : Int)) hlen (fun i hi => by
      rw [hb (nx + i) (by omega)]
      have hi' : i < ((l.drop nx).take n).length := by simp; omega
      simp [List.getD_eq_getElem?_getD, List.getElem?_eq_getElem, hi, show nx + i < l.length by omega]) _ Tryz.underlying9
    have e : strOfNums (((l.drop nx).take n).map fun b => ((b.toNat : Nat) : Int)) = ⟨((l.drop nx).take n).toArray⟩ := by
      unfold strOfNums
      rw [List.map_map, show ((fun n : Int => UInt8.ofNat n.toNat) ∘ fun b : UInt8 => ((b.toNat : Nat) : Int)) = id from funext fun b => by simp, List.map_id]
    rw [this, e]

set_option maxHeartbeats 4000000 in
set_option maxRecDepth 100000 in
theorem rtext_calls (w : World) (r g c : Nat) (l : List UInt8) (p : Nat) (err : Int) (most : Nat) (h : RD w r g c l p err) (hl : l.length ≤ 1099511627776) (hp : p ≤ 1099511627776) (hm : most ≤ 1099511627776) :
    Calls Tryz.prog 64 #[.pointer (some ⟨r, 0, none⟩), .int .i64 most] w fun e w' => e = .returned (.string ⟨(textA l p err most).1.toArray⟩) ∧ RD w' r g c l (textA l p err most).2.1 (textA l p err most).2.2 ∧ Kept r r w w' := by
  have cN := rnumber_calls w r g c l p err p h hl hp
  have hnx := numR_next l p
  have hns := numR_small l p
  have hA : textA l p err most = if err ≠ 0 then ([], p, err) else if textE l p most ≠ 0 then ([], p, textE l p most) else ((l.drop (numR l p).2.1).take (numR l p).1, (numR l p).2.1 + (numR l p).1, 0) := rfl
  have hT : textE l p most = if (numR l p).2.2 ≠ 0 then (numR l p).2.2 else if l.length - (numR l p).2.1 < (numR l p).1 then 14 else if most < (numR l p).1 then 2 else 0 := rfl
  generalize textA l p err most = R at hA ⊢
  generalize textE l p most = T at hA hT
  generalize numR l p = N at cN hA hT hnx hns
  obtain ⟨n, nx, e⟩ := N
  simp only at cN hA hT hnx hns
  have q0 : w.cell? ⟨r, 0, none⟩ = some (.slice (some ⟨g, 0, none⟩) l.length c) := h.box.cell 0 rfl
  have q1 : w.cell? ⟨r, 1, none⟩ = some (.int .i64 p) := h.box.cell 1 rfl
  have q2 : w.cell? ⟨r, 2, none⟩ = some (.int .i64 err) := h.box.cell 2 rfl
  have f1 := h.box.free 1 (v := .int .i64 p) rfl
  have f2 := h.box.free 2 (v := .int .i64 err) rfl
  have hcap := h.cap
  have H := Lib.hid h
  have CN := Lib.hid cN
  clear h cN
  by_cases he : err = 0
  · rw [if_neg (by simpa using he)] at hA
    have e0 : (err != 0) = false := by rw [bne_eq_false_iff_eq]; exact he
    have HE := Lib.hid he
    clear he
    by_cases hn : e = 0
    · rw [if_neg (by simpa using hn)] at hT
      subst hn
      obtain ⟨hn1, hn2⟩ := hnx rfl
      by_cases h1 : l.length - nx < n
      · rw [if_pos h1] at hT
        subst hT
        rw [if_pos (by decide)] at hA
        subst hA
        have b1 : (l.length : Int) - nx < n := by omega
        clear h1 hnx
        go_enter Tryz.func64, Tryz.ntmps64
        go_wp2_with fail
        refine CN.out.mono ?_
        rintro e w1 ⟨rfl, rfl⟩
        go_wp2
        go_ret
        exact ⟨rfl, H.out.set2 _, (Kept.refl r r _).set_ 2 _⟩
      · rw [if_neg h1] at hT
        have b1 : (n : Int) ≤ (l.length : Int) - nx := by omega
        by_cases h2 : most < n
        · rw [if_pos h2] at hT
          subst hT
          rw [if_pos (by decide)] at hA
          subst hA
          have b2 : (most : Int) < n := by omega
          clear h1 h2 hnx
          go_enter Tryz.func64, Tryz.ntmps64
          go_wp2_with fail
          refine CN.out.mono ?_
          rintro e w1 ⟨rfl, rfl⟩
          go_wp2
          go_ret
          exact ⟨rfl, H.out.set2 _, (Kept.refl r r _).set_ 2 _⟩
        · rw [if_neg h2] at hT
          subst hT
          rw [if_neg (by decide)] at hA
          subst hA
          have b2 : (n : Int) ≤ most := by omega
          have b3 : (nx : Int) + n ≤ c := by omega
          clear h1 h2 hnx
          go_enter Tryz.func64, Tryz.ntmps64
          go_wp2_with fail
          refine CN.out.mono ?_
          rintro e w1 ⟨rfl, rfl⟩
          go_wp2_with fail
          have hRD := (H.out.set1 (nx + n)).drew
          have hcv := conv_cut (w1.setCell ⟨r, 1, none⟩ (.int .i64 ((nx : Int) + n))).drew g nx n c l hRD.bts (by omega) hcap
          have hcv2 := hcv
          rw [show nx + n - nx = n by omega] at hcv2
          by_cases hcn : c = nx
          · rw [if_pos hcn, show c - nx = 0 by omega] at hcv hcv2
            go_region
            all_goals
              go_wp2
              go_ret
              refine ⟨rfl, ?_, ((Kept.refl r r _).set_ 1 _).drew⟩
              have := hRD
              rwa [HE.out] at this
          · rw [if_neg hcn] at hcv hcv2
            go_region
            all_goals
              go_wp2
              go_ret
              refine ⟨rfl, ?_, ((Kept.refl r r _).set_ 1 _).drew⟩
              have := hRD
              rwa [HE.out] at this
    · rw [if_pos hn] at hT
      subst hT
      rw [if_pos hn] at hA
      subst hA
      have e1 : (T != 0) = true := bne_iff_ne.2 hn
      clear hn hnx
      go_enter Tryz.func64, Tryz.ntmps64
      go_wp2_with fail
      refine CN.out.mono ?_
      rintro e w1 ⟨rfl, rfl⟩
      go_wp2
      go_ret
      exact ⟨rfl, H.out.set2 _, (Kept.refl r r _).set_ 2 _⟩
  · rw [if_pos he] at hA
    subst hA
    have e0 : (err != 0) = true := bne_iff_ne.2 he
    clear he
    go_enter Tryz.func64, Tryz.ntmps64
    go_wp2
    go_ret
    exact ⟨rfl, H.out, Kept.refl r r _⟩
end Go.Proofs.YtcmoidldalgljaaGreatDoor
set_option linter.unusedVariables false
set_option linter.unusedSimpArgs false
namespace Go.Proofs.YtcmoidldalgljaaGreatDoor
open Go.RowKit
open Hen

theorem Row.empty (w : World) : Row (w.alloc (.cells #[] 5)) w.heap.size (.slice (some ⟨w.heap.size, 0, none⟩) 0 0) [] := by
  refine ⟨rfl, .inr ⟨w.heap.size, 0, #[], rfl, Nat.le_refl _, heap_alloc_new w _, Nat.le_refl _, by simp [maxLen], rfl, rfl⟩⟩

/-- Where a slice of bytes lies, whosever it is. -/
def Src (w : World) (v : Value) (l : List UInt8) : Prop :=
  (v = .slice none 0 0 ∧ l = []) ∨ ∃ (ad : Addr) (c : Nat), v = .slice (some ad) l.length c ∧ ad.block < w.heap.size ∧ ∀ i (hi : i < l.length), w.cell? (ad.add i) = some (.int .u8 ((l[i].toNat : Nat) : Int))
theorem Row.src {w : World} {B : Nat} {v : Value} {l : List UInt8} (h : Row w B v l) : Src w v l := by
  rcases Nat.eq_zero_or_pos l.length with h0 | h0
  · obtain rfl : l = [] := List.eq_nil_of_length_eq_zero h0
    rcases h.2 with ⟨rfl, _⟩ | ⟨g, cap, cur, rfl, _, hg, _⟩
    · exact .inl ⟨rfl, rfl⟩
    · refine .inr ⟨⟨g, 0, none⟩, cap, rfl, ?_, fun i hi => absurd hi (by simp)⟩
      rcases Nat.lt_or_ge g w.heap.size with h' | h'
      · exact h'
      · rw [Array.getElem?_eq_none h'] at hg; cases hg
  · obtain ⟨g, c, rfl, _, hlt, hc⟩ := h.at_ h0
    exact .inr ⟨⟨g, 0, none⟩, c, rfl, hlt, fun i hi => by
      have ha : (⟨g, 0, none⟩ : Addr).add i = ⟨g, i, none⟩ := by unfold Addr.add; split <;> simp_all
      rw [ha]; exact hc i hi⟩
theorem add_block (a : Addr) (n : Nat) : (a.add n).block = a.block := by unfold Addr.add; split <;> rfl
theorem Src.below {w w1 : World} {v : Value} {l : List UInt8} (h : Src w v l) (hb : Below w.heap.size w w1) : Src w1 v l := by
  rcases h with h | ⟨ad, c, rfl, hlt, hc⟩
  · exact .inl h
  · exact .inr ⟨ad, c, rfl, Nat.lt_of_lt_of_le hlt hb.size, fun i hi => (hb.cell (p := ad.add i) (by rw [add_block]; exact hlt)).trans (hc i hi)⟩
theorem Src.alloc {w : World} {v : Value} {l : List UInt8} (h : Src w v l) (o : Obj) : Src (w.alloc o) v l := h.below ((Below.refl _ _).alloc (Nat.le_refl _) o)
theorem Src.shape {w : World} {v : Value} {l : List UInt8} (h : Src w v l) : ∃ A c, v = .slice A l.length c := by
  rcases h with ⟨rfl, rfl⟩ | ⟨ad, c, rfl, _⟩
  · exact ⟨none, 0, rfl⟩
  · exact ⟨_, c, rfl⟩

section
variable {ops : Array Oper} {rest : List Oper} {o : Oper} {a : Act} {Q : Exit → Act → World → Prop}
/-- 'append(v, x...)' at two rows, v no nil slice: the row has an address. -/
theorem wp_append_row2 {w0 W : World} (hgd : o.guard = none) (s x : Operand) (ho : o.op = .call { callee := .builtin .append, args := #[s, x], argTypes := #[29, 29] })
    (B : Nat) {v : Value} {l : List UInt8} {v2 : Value} {m : List UInt8} (HO : Row W B v l) (hv : v ≠ .slice none 0 0) (HS : Src W v2 m) (hs : a.eval s = v) (hx : a.eval x = v2)
    (hb : Below B w0 W) (hB : B ≤ W.heap.size) (hl : l.length + m.length ≤ 140737488355328)
    (h : ∀ g c w1, Row w1 B (.slice (some ⟨g, 0, none⟩) (l ++ m).length c) (l ++ m) → B ≤ g → g < w1.heap.size → Below B w0 w1 → wpList Tryz.prog ops Q rest (a.put o.dst (.slice (some ⟨g, 0, none⟩) (l ++ m).length c)) w1) :
    wpList Tryz.prog ops Q (o :: rest) a W := by
  obtain ⟨i0, hi, hz0, hz1, hz2⟩ := info_parts infoByte
  have fin : ∀ (v' : Value) (w1 : World) (q : List UInt8), Row w1 B v' q → v' ≠ .slice none 0 0 → ∃ g c, v' = .slice (some ⟨g, 0, none⟩) q.length c ∧ B ≤ g ∧ g < w1.heap.size := by
    intro v' w1 q hq hn
    rcases hq.2 with ⟨e, _⟩ | ⟨g, cap, cur, e, hb, hg, _⟩
    · exact absurd e hn
    · refine ⟨g, cap, e, hb, ?_⟩
      rcases Nat.lt_or_ge g w1.heap.size with h' | h'
      · exact h'
      · rw [Array.getElem?_eq_none h'] at hg; cases hg
  rcases Nat.eq_zero_or_pos m.length with h0 | h0
  · obtain rfl : m = [] := List.eq_nil_of_length_eq_zero h0
    rcases HS with ⟨rfl, _⟩ | ⟨ad, c, rfl, _⟩
    · refine wpList_append_own_none hgd s x _ ho B _ i0 1 Tryz.underlying29 hi _ l.length _ hs HO hx ?_
      obtain ⟨g, c, rfl, h1, h2⟩ := fin v W l HO hv
      have := h g c W (by simpa using HO) h1 h2 hb
      simpa using this
    · refine wpList_append_own_at W hgd s x _ ho B _ i0 (.int .u8 0) 1 1 Tryz.underlying29 hi hz0 hz1 hz2 rfl (by decide) _ l.length (Lib.byteCells l) hs HO _ 0 _ [] hx rfl (by intro j u hu; simp at hu) (by intro u hu; simp at hu) (by simp only [maxLen]; omega) (by omega) hB ?_
      intro v1 w1 hown hg hnil hat
      have hr : Row w1 B v1 l := by unfold Row; simpa [Lib.byteCells] using hown
      obtain ⟨g1, c1, rfl, h1, h2⟩ := fin v1 w1 l hr (fun e => hv (hnil.1 e).1)
      have := h g1 c1 w1 (by simpa using hr) h1 h2 (hb.grown hg hB (fun k hk => HO.base k hk))
      simpa using this
  · rcases HS with ⟨_, hm0⟩ | ⟨ad, c, rfl, _, hc⟩
    · rw [hm0] at h0; simp at h0
    refine wpList_append_own_at W hgd s x _ ho B _ i0 (.int .u8 0) 1 1 Tryz.underlying29 hi hz0 hz1 hz2 rfl (by decide) v l.length (Lib.byteCells l) hs HO ad m.length _ (Lib.byteCells m) hx (by rw [Lib.byteCells_length, Nat.mul_one]) (by
      intro j u hu
      have hj : j < m.length := by
        rcases Nat.lt_or_ge j m.length with h' | h'
        · exact h'
        · rw [List.getElem?_eq_none (by rw [Lib.byteCells_length]; omega)] at hu; cases hu
      rw [hc j hj, ← hu]
      simp [Lib.byteCells, List.getElem?_eq_getElem hj]) (by intro u hu; simp [Lib.byteCells] at hu; obtain ⟨b, _, rfl⟩ := hu; rfl) (by simp only [maxLen]; omega) (by omega) hB ?_
    intro v1 w1 hown hg hnil hat
    have hr : Row w1 B v1 (l ++ m) := by unfold Row; simpa [Lib.byteCells] using hown
    obtain ⟨g1, c1, rfl, h1, h2⟩ := fin v1 w1 _ hr (fun e => hv (hnil.1 e).1)
    exact h g1 c1 w1 hr h1 h2 (hb.grown hg hB (fun k hk => HO.base k hk))
end

set_option maxHeartbeats 4000000 in
set_option maxRecDepth 100000 in
theorem read_calls (v : Value) (l : List UInt8) (w : World) (h : Src w v l) (hl : l.length ≤ 1099511627776) :
    Calls Tryz.prog 42 #[v] w fun e w' => ∃ r g c, e = .returned (.pointer (some ⟨r, 0, none⟩)) ∧ RD w' r g c l 0 0 ∧ w.heap.size ≤ r ∧ w.heap.size ≤ g ∧ Below w.heap.size w w' := by
  obtain ⟨A, c, rfl⟩ := h.shape
  have hb1 := (Below.refl w.heap.size w).alloc (Nat.le_refl _) (.cells #[] 5)
  have hr1 := Row.empty w
  have hr0 := h.alloc (.cells #[] 5)
  go_enter Tryz.func42, Tryz.ntmps42
  go_wp2_with (at_builtin; go_must (refine wp_append_row2 rfl _ _ rfl w.heap.size (l := []) (m := l) hr1 (by simp) hr0 rfl rfl hb1 hb1.size (by simp; omega) ?_); intro g2 c2 w2 hr2 hg2 hl2 hb2)
  rw [List.nil_append] at hr2
  go_ret
  refine ⟨w2.heap.size, g2, c2, rfl, ?_, hb2.size, hg2, hb2.alloc hb2.size _⟩
  exact ⟨Box.new w2 #[.slice (some ⟨g2, 0, none⟩) l.length c2, .int .i64 0, .int .i64 0] 107, by simp; omega, fun i hi => by
    obtain ⟨g', c', e, _, _, hc⟩ := (hr2.alloc (.cells #[.slice (some ⟨g2, 0, none⟩) l.length c2, .int .i64 0, .int .i64 0] 107)).at_ (by omega)
    injection e with e1
    injection e1 with e1
    injection e1 with e1
    subst e1
    exact hc i hi, by omega, hr2.le⟩
end Go.Proofs.YtcmoidldalgljaaGreatDoor
set_option linter.unusedVariables false
set_option linter.unusedSimpArgs false
namespace Go.Proofs.YtcmoidldalgljaaGreatDoor
open Go.RowKit
open Hen

/-- A request's reader: block x, over the bytes' reader r. -/
structure XD (w : World) (x r g c : Nat) (l : List UInt8) (p : Nat) (err : Int) (bad : Bool) : Prop where
  rd : RD w r g c l p err
  box : Box w x [.pointer (some ⟨r, 0, none⟩), .bool bad]
  ne1 : x ≠ r
  ne2 : x ≠ g
theorem Box.kept {w w' : World} {x r y : Nat} {l : List Value} (h : Box w x l) (hk : Kept r y w w') (h1 : x ≠ r) (h2 : x ≠ y) : Box w' x l :=
  ⟨Nat.lt_of_lt_of_le h.1 hk.size, fun i v hv => ⟨(World.cell?_of_block (a := ⟨x, i, none⟩) (hk.block x h.1 h1 h2)).trans (h.2 i v hv).1, by
    have := (h.2 i v hv).2
    unfold World.frozen? at this ⊢
    rw [hk.block x h.1 h1 h2]; exact this⟩⟩

set_option maxHeartbeats 4000000 in
theorem xtext_calls (w : World) (x r g c : Nat) (l : List UInt8) (p : Nat) (err : Int) (bad : Bool) (h : XD w x r g c l p err bad) (hl : l.length ≤ 1099511627776) (hp : p ≤ 1099511627776) :
    Calls Tryz.prog 43 #[.pointer (some ⟨x, 0, none⟩)] w fun e w' => e = .returned (.string ⟨(textA l p err 20000).1.toArray⟩) ∧ XD w' x r g c l (textA l p err 20000).2.1 (textA l p err 20000).2.2 bad ∧ Kept r x w w' := by
  have cT := rtext_calls w r g c l p err 20000 h.rd hl hp (by omega)
  have q0 : w.cell? ⟨x, 0, none⟩ = some (.pointer (some ⟨r, 0, none⟩)) := h.box.cell 0 rfl
  generalize textA l p err 20000 = T at cT ⊢
  obtain ⟨t, p2, e2⟩ := T
  have H := Lib.hid h
  have CT := Lib.hid cT
  clear h cT
  go_enter Tryz.func43, Tryz.ntmps43
  go_wp2_with fail
  refine CT.out.mono ?_
  rintro e w1 ⟨rfl, hr, hk⟩
  have hX : XD w1 x r g c l p2 e2 bad := ⟨hr, H.out.box.kept hk H.out.ne1 H.out.ne1, H.out.ne1, H.out.ne2⟩
  go_wp2
  go_ret
  exact ⟨rfl, hX, hk.more⟩

namespace Hen
def numX (l : List UInt8) (p : Nat) (e : Int) (bad : Bool) : Bool := bad || decide (2147483647 < (numA l p e).1)
end Hen
theorem XD.mark {w : World} {x r g c : Nat} {l : List UInt8} {p : Nat} {err : Int} {bad : Bool} (h : XD w x r g c l p err bad) (b : Bool) : XD (w.setCell ⟨x, 1, none⟩ (.bool b)) x r g c l p err b where
  rd := ⟨h.rd.box.far (p := ⟨x, 1, none⟩) h.ne1 _, by simpa using h.rd.lt, fun i hi => (World.cell?_setCell_other w ⟨x, 1, none⟩ ⟨g, i, none⟩ _ (fun e => h.ne2 (congrArg Addr.block e))).trans (h.rd.bts i hi), h.rd.ne, h.rd.cap⟩
  box := h.box.set_ 1 (by simp) _
  ne1 := h.ne1
  ne2 := h.ne2

set_option maxHeartbeats 4000000 in
set_option maxRecDepth 100000 in
theorem xnum_calls (w : World) (x r g c : Nat) (l : List UInt8) (p : Nat) (err : Int) (bad : Bool) (h : XD w x r g c l p err bad) (hl : l.length ≤ 1099511627776) (hp : p ≤ 1099511627776) :
    Calls Tryz.prog 47 #[.pointer (some ⟨x, 0, none⟩)] w fun e w' => e = .returned (.int .i64 (numA l p err).1) ∧ XD w' x r g c l (numA l p err).2.1 (numA l p err).2.2 (numX l p err bad) ∧ Kept r x w w' := by
  have cT := rnum_calls w r g c l p err h.rd hl hp
  have hsm : (numA l p err).1 ≤ 9223372036854775807 := by unfold numA; have := numR_small l p; (repeat' split) <;> simp <;> omega
  have q0 : w.cell? ⟨x, 0, none⟩ = some (.pointer (some ⟨r, 0, none⟩)) := h.box.cell 0 rfl
  have hX : numX l p err bad = (bad || decide (2147483647 < (numA l p err).1)) := rfl
  generalize numX l p err bad = B at hX ⊢
  generalize numA l p err = T at cT hX hsm ⊢
  obtain ⟨n, p2, e2⟩ := T
  simp only at hX hsm
  have H := Lib.hid h
  have CT := Lib.hid cT
  clear h cT
  have hway : (bad = true ∧ B = true) ∨ (bad = false ∧ (2147483647 : Int) < n ∧ B = true) ∨ (bad = false ∧ (n : Int) ≤ 2147483647 ∧ B = false) := by
    cases bad with
    | true => exact .inl ⟨rfl, by rw [hX]; rfl⟩
    | false =>
      by_cases hb : 2147483647 < n
      · exact .inr (.inl ⟨rfl, by omega, by rw [hX]; simp [hb]⟩)
      · exact .inr (.inr ⟨rfl, by omega, by rw [hX]; simp; omega⟩)
  clear hX
  rcases hway with ⟨rfl, rfl⟩ | ⟨rfl, b1, rfl⟩ | ⟨rfl, b1, rfl⟩
  all_goals
    go_enter Tryz.func47, Tryz.ntmps47
    go_wp2_with fail
    refine CT.out.mono ?_
    rintro e w1 ⟨rfl, hr, hk⟩
    have hXD : XD w1 x r g c l p2 e2 _ := ⟨hr, H.out.box.kept hk H.out.ne1 H.out.ne1, H.out.ne1, H.out.ne2⟩
    have q1 := hXD.box.cell 1 rfl
    have f1 := hXD.box.free 1 (v := .bool _) rfl
    have HX := Lib.hid hXD
    clear hXD hr
    go_wp2
    go_ret
    first
      | exact ⟨rfl, HX.out.mark _, (hk.more).setx 1 _⟩
      | (rw [show decide ((2147483647 : Int) < (n : Int)) = false from decide_eq_false (by omega)]
         exact ⟨rfl, HX.out.mark _, (hk.more).setx 1 _⟩)
end Go.Proofs.YtcmoidldalgljaaGreatDoor
set_option linter.unusedVariables false
set_option linter.unusedSimpArgs false
namespace Go.Proofs.YtcmoidldalgljaaGreatDoor
open Go.RowKit
open Hen

theorem numA_place (l : List UInt8) (p : Nat) (e : Int) (n : Nat) (hp : p ≤ n) (hl : l.length ≤ n) : (numA l p e).2.1 ≤ n := by
  unfold numA
  split
  · exact hp
  · split
    · exact hp
    · rename_i h1 h2
      have := numR_next l p (by simpa using h2)
      simp only; omega
theorem XD.kept {w w' : World} {x r g c : Nat} {l : List UInt8} {p : Nat} {err : Int} {bad : Bool} (h : XD w x r g c l p err bad) (hb : Below w.heap.size w w') : XD w' x r g c l p err bad where
  rd := ⟨h.rd.box.step hb, Nat.lt_of_lt_of_le h.rd.lt hb.size, fun i hi => (hb.cell (p := ⟨g, i, none⟩) h.rd.lt).trans (h.rd.bts i hi), h.rd.ne, h.rd.cap⟩
  box := h.box.step hb
  ne1 := h.ne1
  ne2 := h.ne2

theorem RD.far {w : World} {r g c : Nat} {l : List UInt8} {p : Nat} {err : Int} (h : RD w r g c l p err) (q : Addr) (h1 : q.block ≠ r) (h2 : q.block ≠ g) (u : Value) : RD (w.setCell q u) r g c l p err :=
  ⟨h.box.far h1 u, by simpa using h.lt, fun i hi => (World.cell?_setCell_other w q ⟨g, i, none⟩ _ (fun e => h2 (congrArg Addr.block e))).trans (h.bts i hi), h.ne, h.cap⟩
theorem XD.far {w : World} {x r g c : Nat} {l : List UInt8} {p : Nat} {err : Int} {bad : Bool} (h : XD w x r g c l p err bad) (q : Addr) (h0 : q.block ≠ x) (h1 : q.block ≠ r) (h2 : q.block ≠ g) (u : Value) : XD (w.setCell q u) x r g c l p err bad :=
  ⟨h.rd.far q h1 h2 u, h.box.far h0 u, h.ne1, h.ne2⟩
theorem Kept.new {r x : Nat} {a b : World} (h : Kept r x a b) (q : Addr) (hq : a.heap.size ≤ q.block) (v : Value) : Kept r x a (b.setCell q v) :=
  ⟨h.os, h.tape, h.output, by simpa using h.size, fun k hk h1 h2 => (Below.heap_setCell b q v k (by omega)).trans (h.block k hk h1 h2)⟩

set_option maxHeartbeats 4000000 in
set_option maxRecDepth 100000 in
theorem xcond_calls (w : World) (x r g c : Nat) (l : List UInt8) (p : Nat) (err : Int) (bad : Bool) (h : XD w x r g c l p err bad) (hl : l.length ≤ 1099511627776) (hp : p ≤ 1099511627776) :
    Calls Tryz.prog 44 #[.pointer (some ⟨x, 0, none⟩)] w fun e w' =>
      e = .returned (.agg #[.int .i64 (numA l p err).1, .int .i64 (numA l (numA l p err).2.1 (numA l p err).2.2).1]) ∧
      XD w' x r g c l (numA l (numA l p err).2.1 (numA l p err).2.2).2.1 (numA l (numA l p err).2.1 (numA l p err).2.2).2.2 (numX l p err bad) ∧ Kept r x w w' := by
  have hpl := numA_place l p err 1099511627776 hp hl
  have h0 := h.kept ((Below.refl w.heap.size w).alloc (Nat.le_refl _) (.cells #[.int .i64 0, .int .i64 0] 23))
  have cN := xnum_calls _ x r g c l p err bad h0 hl hp
  have cM := fun W b (hW : XD W x r g c l (numA l p err).2.1 (numA l p err).2.2 b) => rnum_calls W r g c l _ _ hW.rd hl hpl
  generalize numX l p err bad = B at cN ⊢
  generalize numA l p err = T at cN cM ⊢
  obtain ⟨n, p2, e2⟩ := T
  simp only at cN cM ⊢
  generalize numA l p2 e2 = T2 at cM ⊢
  obtain ⟨n2, p3, e3⟩ := T2
  simp only at cM ⊢
  have H := Lib.hid h
  have CN := Lib.hid cN
  have CM := Lib.hid cM
  have hxl := h.box.1
  have hrl := h.rd.box.1
  clear h h0 cN cM
  go_enter Tryz.func44, Tryz.ntmps44
  go_wp2_with fail
  refine CN.out.mono ?_
  rintro e w1 ⟨rfl, hx, hk⟩
  have q0 : w1.cell? ⟨x, 0, none⟩ = some (.pointer (some ⟨r, 0, none⟩)) := hx.box.cell 0 rfl
  have hB0 := (Box.new w #[.int .i64 0, .int .i64 0] 23).kept hk (by omega) (by omega)
  have HX := Lib.hid hx
  clear hx
  go_wp2_with fail
  refine (CM.out w1 _ HX.out).mono ?_
  rintro e w2 ⟨rfl, hr2, hk2⟩
  have hB2 := hB0.kept hk2 (by omega) (by omega)
  have d0 := hB2.cell 0 rfl
  have d1 := hB2.cell 1 rfl
  have f0 := hB2.free 0 (v := .int .i64 0) rfl
  have f1 := hB2.free 1 (v := .int .i64 0) rfl
  have hz2 := hB2.1
  have hgl := H.out.rd.lt
  have hX2 : XD w2 x r g c l p3 e3 B := ⟨hr2, HX.out.box.kept hk2 HX.out.ne1 HX.out.ne1, HX.out.ne1, HX.out.ne2⟩
  have hfin := (hX2.far ⟨w.heap.size, 0, none⟩ (by simp; omega) (by simp; omega) (by simp; omega) (.int .i64 n)).far ⟨w.heap.size, 1, none⟩ (by simp; omega) (by simp; omega) (by simp; omega) (.int .i64 n2)
  have hkk : Kept r x w w2 := ((Kept.of_below ((Below.refl w.heap.size w).alloc (Nat.le_refl _) (.cells #[.int .i64 0, .int .i64 0] 23))).trans hk).trans hk2.more
  have hkf := (hkk.new ⟨w.heap.size, 0, none⟩ (Nat.le_refl _) (.int .i64 n)).new ⟨w.heap.size, 1, none⟩ (Nat.le_refl _) (.int .i64 n2)
  have HF := Lib.hid hfin
  have HK := Lib.hid hkf
  clear hX2 hfin hkk hkf hr2
  go_wp2
  refine bodyPost_ret (v := .agg #[.int .i64 n, .int .i64 n2]) (by simp [results, Tryz.results44, go_sem, d0, d1, f0, f1]) rfl ⟨rfl, HF.out, HK.out⟩
end Go.Proofs.YtcmoidldalgljaaGreatDoor
set_option linter.unusedVariables false
set_option linter.unusedSimpArgs false
namespace Go.Proofs.YtcmoidldalgljaaGreatDoor
open Go.RowKit
open Hen

def cellsO (l : List Opx) : List Value := l.flatMap Opx.cells
theorem cellsO_length (l : List Opx) : (cellsO l).length = l.length * 5 := by
  induction l with
  | nil => rfl
  | cons x l ih => simp [cellsO] at ih ⊢; rw [ih]; simp [Opx.cells]; omega
theorem cellsO_get (l : List Opx) (i j : Nat) (hi : i < l.length) (hj : j < 5) : (cellsO l)[i * 5 + j]? = l[i]!.cells[j]? := by
  induction l generalizing i with
  | nil => simp at hi
  | cons x l ih =>
    have e : cellsO (x :: l) = x.cells ++ cellsO l := rfl
    have h5 : x.cells.length = 5 := rfl
    rw [e]
    cases i with
    | zero => rw [List.getElem?_append_left (by rw [h5]; omega)]; simp
    | succ i =>
      rw [List.getElem?_append_right (by rw [h5]; omega), h5, show (i + 1) * 5 + j - 5 = i * 5 + j by omega, ih i (by simpa using hi)]
      simp
def ORow (w : World) (B : Nat) (v : Value) (l : List Opx) : Prop := w.ownsRow B 40 5 v l.length (cellsO l)
theorem ORow.nil_ (w : World) (B : Nat) : ORow w B (.slice none 0 0) [] := World.ownsRow_nil _ _ _ _
theorem ORow.shape {w : World} {B : Nat} {v : Value} {l : List Opx} (h : ORow w B v l) : ∃ A c, v = .slice A l.length c := by
  rcases h.2 with ⟨rfl, h0⟩ | ⟨g, cap, cur, rfl, _⟩
  · exact ⟨none, 0, by rw [h0]⟩
  · exact ⟨_, cap, rfl⟩
theorem ORow.base {w : World} {B : Nat} {v : Value} {l : List Opx} (h : ORow w B v l) : ∀ k, v.ownBlock = some k → B ≤ k := fun k hk => (World.ownsRow.lt h k hk).1
theorem ORow.alloc {w : World} {B : Nat} {v : Value} {l : List Opx} (h : ORow w B v l) (o : Obj) : ORow (w.alloc o) B v l := World.ownsRow.alloc h o
theorem ORow.below {w w1 : World} {B : Nat} {v : Value} {l : List Opx} (h : ORow w B v l) (hb : Below w.heap.size w w1) : ORow w1 B v l :=
  World.ownsRow.kept h (row := none) ⟨hb.os, hb.tape, hb.output, hb.size, fun i hi _ => hb.block i hi⟩ (by cases v.ownBlock <;> simp)
theorem ORow.at_ {w : World} {B : Nat} {A : Option Addr} {n c : Nat} {l : List Opx} (h : ORow w B (.slice A n c) l) : OpsAt w A l := by
  intro k hk
  rcases h.2 with ⟨e, e0⟩ | ⟨g, cap, cur, e, hb, hg, hn, hm, hs, ht⟩
  · omega
  · injection e with e1
    have hlt : g < w.heap.size := by
      rcases Nat.lt_or_ge g w.heap.size with h' | h'
      · exact h'
      · rw [Array.getElem?_eq_none h'] at hg; cases hg
    refine ⟨⟨g, 0, none⟩, e1, hlt, fun j u hu => ?_⟩
    have hj : j < 5 := by
      rcases Nat.lt_or_ge j 5 with h' | h'
      · exact h'
      · rw [List.getElem?_eq_none (by simp [Opx.cells]; omega)] at hu; cases hu
    have ha : ((⟨g, 0, none⟩ : Addr).add (k * 5)).add j = ⟨g, k * 5 + j, none⟩ := by unfold Addr.add; split <;> split <;> simp_all
    have hc := cellsO_get l k j hk hj
    rw [← ht, List.getElem?_take_of_lt (by omega), Array.getElem?_toList, hu] at hc
    rw [ha]
    simp only [World.cell?, hg]
    simpa using hc

theorem infoOp : (Tryz.prog.info? 40).map (fun i => (i.zero, i.size, i.bytes)) = some (some (.agg #[.bool false, .string ⟨#[]⟩, .string ⟨#[]⟩, .int .i64 0, .int .i64 0]), 5, 56) := by kernel_rfl
theorem cellsO1 (x : Opx) : ∀ v ∈ x.cells, v.oneCell' = true := by intro v hv; simp [Opx.cells] at hv; rcases hv with rfl | rfl | rfl | rfl | rfl <;> rfl
section
variable {ops : Array Oper} {rest : List Oper} {o : Oper} {a : Act} {Q : Exit → Act → World → Prop}
theorem wp_append_op {w0 W : World} (hgd : o.guard = none) (s x : Operand) (ho : o.op = .call { callee := .builtin .append, args := #[s, x], argTypes := #[24, 24] })
    (B : Nat) {v : Value} {l : List Opx} (y : Opx) {n : Nat} (HO : ORow W B v l) (hs : a.eval s = v) (hx : a.eval x = .slice (some ⟨n, 0, none⟩) 1 1) (hn : n = W.heap.size)
    (hB : B ≤ W.heap.size) (hl : l.length + 1 ≤ 4294967296)
    (h : ∀ A c w1, ORow w1 B (.slice A (l ++ [y]).length c) (l ++ [y]) → (W.alloc (.cells #[.bool y.del, .string y.uid, .string y.card, .int .i64 y.ck, .int .i64 y.cv] 40)).grownBy w1 v.ownBlock → wpList Tryz.prog ops Q rest (a.put o.dst (.slice A (l ++ [y]).length c)) w1) :
    wpList Tryz.prog ops Q (o :: rest) a (W.alloc (.cells #[.bool y.del, .string y.uid, .string y.card, .int .i64 y.ck, .int .i64 y.cv] 40)) := by
  subst hn
  obtain ⟨i0, hi, hz0, hz1, hz2⟩ := info_parts infoOp
  refine wpList_append_own_at (W.alloc (.cells #[.bool y.del, .string y.uid, .string y.card, .int .i64 y.ck, .int .i64 y.cv] 40)) hgd s x _ ho B _ i0 (.agg #[.bool false, .string ⟨#[]⟩, .string ⟨#[]⟩, .int .i64 0, .int .i64 0]) 5 56 Tryz.underlying24 hi hz0 hz1 hz2 rfl (by decide) v l.length (cellsO l) hs (World.ownsRow.alloc HO _) ⟨W.heap.size, 0, none⟩ 1 1 y.cells hx rfl
    (World.news_of_block (cs := #[.bool y.del, .string y.uid, .string y.card, .int .i64 y.ck, .int .i64 y.cv]) (t := 40) (fr := (0, 0)) (heap_alloc_new W _)) (cellsO1 y) (by simp only [maxLen]; omega) (by omega) (by simp; omega) ?_
  intro v1 w1 hown hg _ hat
  have hr : ORow w1 B v1 (l ++ [y]) := by unfold ORow; simpa [cellsO] using hown
  obtain ⟨A, c, rfl⟩ := hr.shape
  exact h A c w1 hr hg
end
end Go.Proofs.YtcmoidldalgljaaGreatDoor
set_option linter.unusedVariables false
set_option linter.unusedSimpArgs false
namespace Go.Proofs.YtcmoidldalgljaaGreatDoor
open Go.RowKit
open Hen

namespace Hen
/-- A request's reader's state: the place, the first error, bad. -/
structure St where
  p : Nat
  e : Int
  bad : Bool
def numQ (l : List UInt8) (s : St) : Nat × St := ((numA l s.p s.e).1, ⟨(numA l s.p s.e).2.1, (numA l s.p s.e).2.2, numX l s.p s.e s.bad⟩)
def textQ (l : List UInt8) (s : St) : List UInt8 × St := ((textA l s.p s.e 20000).1, ⟨(textA l s.p s.e 20000).2.1, (textA l s.p s.e 20000).2.2, s.bad⟩)
def longQ (l : List UInt8) (s : St) : Nat × St := ((numA l s.p s.e).1, ⟨(numA l s.p s.e).2.1, (numA l s.p s.e).2.2, s.bad⟩)
def condQ (l : List UInt8) (s : St) : (Nat × Nat) × St := (((numQ l s).1, (longQ l (numQ l s).2).1), (longQ l (numQ l s).2).2)
def St.or (s : St) (b : Bool) : St := ⟨s.p, s.e, s.bad || b⟩
def opQ (l : List UInt8) (s : St) : Opx × St :=
  match numQ l s with
  | (m, s1) => match textQ l (s1.or (decide (1 < m))) with
    | (u, s2) => match (if m = 1 then ([], s2) else textQ l s2) with
      | (c, s3) => match condQ l s3 with
        | ((k, v), s4) => (⟨decide (m = 1), ⟨u.toArray⟩, ⟨c.toArray⟩, k, v⟩, s4)
def loopQ (l : List UInt8) : Nat → St → List Opx × St
  | 0, s => ([], s)
  | n + 1, s => if s.bad = true ∨ s.e ≠ 0 then ([], s) else ((opQ l s).1 :: (loopQ l n (opQ l s).2).1, (loopQ l n (opQ l s).2).2)
def opsQ (l : List UInt8) (s : St) : List Opx × St := loopQ l (numQ l s).1 ((numQ l s).2.or (decide (16 < (numQ l s).1)))
end Hen

abbrev XS (w : World) (x r g c : Nat) (l : List UInt8) (s : St) : Prop := XD w x r g c l s.p s.e s.bad
theorem textA_place (l : List UInt8) (p : Nat) (e : Int) (m n : Nat) (hp : p ≤ n) (hl : l.length ≤ n) : (textA l p e m).2.1 ≤ n := by
  unfold textA
  split
  · exact hp
  · split
    · exact hp
    · rename_i h1 h2
      have h3 : textE l p m = 0 := by simpa using h2
      unfold textE at h3
      split at h3
      · rename_i h4; exact absurd h3 h4
      · rename_i h4
        have := numR_next l p (by simpa using h4)
        split at h3
        · cases h3
        · simp only; omega
/-- A place within what is met. -/
def In (s : St) : Prop := s.p ≤ 1099511627776
theorem numQ_in {l : List UInt8} {s : St} (h : In s) (hl : l.length ≤ 1099511627776) : In (numQ l s).2 := numA_place l s.p s.e _ h hl
theorem longQ_in {l : List UInt8} {s : St} (h : In s) (hl : l.length ≤ 1099511627776) : In (longQ l s).2 := numA_place l s.p s.e _ h hl
theorem textQ_in {l : List UInt8} {s : St} (h : In s) (hl : l.length ≤ 1099511627776) : In (textQ l s).2 := textA_place l s.p s.e _ _ h hl
theorem condQ_in {l : List UInt8} {s : St} (h : In s) (hl : l.length ≤ 1099511627776) : In (condQ l s).2 := longQ_in (numQ_in h hl) hl
theorem opQ_in {l : List UInt8} {s : St} (h : In s) (hl : l.length ≤ 1099511627776) : In (opQ l s).2 := by
  have h1 := numQ_in h hl
  unfold opQ
  generalize numQ l s = N at h1 ⊢
  obtain ⟨m, s1⟩ := N
  have h2 := textQ_in (l := l) (s := s1.or (decide (1 < m))) h1 hl
  simp only
  generalize textQ l (s1.or (decide (1 < m))) = T at h2 ⊢
  obtain ⟨u, s2⟩ := T
  have h3 : In (if m = 1 then ([], s2) else textQ l s2).2 := by
    split
    · exact h2
    · exact textQ_in h2 hl
  simp only
  generalize (if m = 1 then ([], s2) else textQ l s2) = C at h3 ⊢
  obtain ⟨c, s3⟩ := C
  exact condQ_in h3 hl

theorem xnumQ {w : World} {x r g c : Nat} {l : List UInt8} {s : St} (h : XS w x r g c l s) (hs : In s) (hl : l.length ≤ 1099511627776) :
    Calls Tryz.prog 47 #[.pointer (some ⟨x, 0, none⟩)] w fun e w' => e = .returned (.int .i64 (numQ l s).1) ∧ XS w' x r g c l (numQ l s).2 ∧ Kept r x w w' :=
  xnum_calls w x r g c l s.p s.e s.bad h hl hs
theorem xtextQ {w : World} {x r g c : Nat} {l : List UInt8} {s : St} (h : XS w x r g c l s) (hs : In s) (hl : l.length ≤ 1099511627776) :
    Calls Tryz.prog 43 #[.pointer (some ⟨x, 0, none⟩)] w fun e w' => e = .returned (.string ⟨(textQ l s).1.toArray⟩) ∧ XS w' x r g c l (textQ l s).2 ∧ Kept r x w w' :=
  xtext_calls w x r g c l s.p s.e s.bad h hl hs
theorem xcondQ {w : World} {x r g c : Nat} {l : List UInt8} {s : St} (h : XS w x r g c l s) (hs : In s) (hl : l.length ≤ 1099511627776) :
    Calls Tryz.prog 44 #[.pointer (some ⟨x, 0, none⟩)] w fun e w' => e = .returned (.agg #[.int .i64 (condQ l s).1.1, .int .i64 (condQ l s).1.2]) ∧ XS w' x r g c l (condQ l s).2 ∧ Kept r x w w' :=
  xcond_calls w x r g c l s.p s.e s.bad h hl hs
theorem ORow.kept {w w1 : World} {B r x : Nat} {v : Value} {l : List Opx} (h : ORow w B v l) (hk : Kept r x w w1) (h1 : v.ownBlock ≠ some r) (h2 : v.ownBlock ≠ some x) : ORow w1 B v l := by
  refine ⟨h.1, ?_⟩
  rcases h.2 with h' | ⟨g, cap, cur, e, hb, hg, rest⟩
  · exact .inl h'
  · have hlt : g < w.heap.size := by
      rcases Nat.lt_or_ge g w.heap.size with h' | h'
      · exact h'
      · rw [Array.getElem?_eq_none h'] at hg; cases hg
    subst e
    exact .inr ⟨g, cap, cur, rfl, hb, (hk.block g hlt (fun e => h1 (by simp [Value.ownBlock, e])) (fun e => h2 (by simp [Value.ownBlock, e]))).trans hg, rest⟩
end Go.Proofs.YtcmoidldalgljaaGreatDoor

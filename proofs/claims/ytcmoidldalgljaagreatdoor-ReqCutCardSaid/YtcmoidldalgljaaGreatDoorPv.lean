/-
  Contract: req.Decode.
-/
import Derived.Test.YtcmoidldalgljaaGreatDoorPs
import Derived.Test.YtcmoidldalgljaaGreatDoorPt
import Derived.Test.YtcmoidldalgljaaGreatDoorPu
import Derived.Test.YtcmoidldalgljaaGreatDoorPl
import Derived.Lib.SlBytesConst
import Derived.Laws.BitsLemmas
set_option linter.unusedVariables false
set_option linter.unusedSimpArgs false
namespace Go.Proofs.YtcmoidldalgljaaGreatDoor
open Go.RowKit
open Hen

set_option maxHeartbeats 4000000 in
set_option maxRecDepth 100000 in
theorem decode_bad (k : Int) (v : Value) (l : List UInt8) (w : World) (hk : isK k = false) : Calls Tryz.prog 14 #[.int .i64 k, v] w (DecPost k l w) := by
  have cI := fun W => is_calls k W
  rw [hk] at cI
  have hE : decE k l = 12 := by unfold decE; rw [if_pos hk]
  have hQ : decR k l = zeroQ := by unfold decR; rw [hE]; rfl
  unfold DecPost
  rw [hE, hQ]
  have CI := Lib.hid cI
  clear cI hE hQ hk
  have bb := Box.new w #[.int .i64 0, .string ⟨#[]⟩, .string ⟨#[]⟩, .string ⟨#[]⟩, .string ⟨#[]⟩, .int .i64 0, .int .i64 0, .slice none 0 0, .int .i64 0, .int .i64 0, .int .i64 0] 26
  have hb := (Below.refl w.heap.size w).alloc (Nat.le_refl _) (.cells #[.int .i64 0, .string ⟨#[]⟩, .string ⟨#[]⟩, .string ⟨#[]⟩, .string ⟨#[]⟩, .int .i64 0, .int .i64 0, .slice none 0 0, .int .i64 0, .int .i64 0, .int .i64 0] 26)
  go_enter Tryz.func14, Tryz.ntmps14
  go_wp2_with fail
  refine (CI.out _).mono ?_
  rintro e w1 ⟨rfl, rfl⟩
  go_wp2
  refine bodyPost_ret (v := .tuple #[.agg #[.int .i64 0, .string ⟨#[]⟩, .string ⟨#[]⟩, .string ⟨#[]⟩, .string ⟨#[]⟩, .int .i64 0, .int .i64 0, .slice none 0 0, .int .i64 0, .int .i64 0, .int .i64 0], .int .i64 12]) (by simp [results, Tryz.results14, go_sem]) rfl ⟨none, 0, rfl, OpsAt.nil_ _ _, ?_⟩
  first
    | exact hb
    | exact (box_fill bb hb (Nat.le_refl _) _ _ _ _ _ _ _ _ _ _ _).2
theorem decode_calls (k : Int) (v : Value) (l : List UInt8) (w : World) (hR : Src w v l) (hl : l.length ≤ 1099511627776) (hG : GL w) : Calls Tryz.prog 14 #[.int .i64 k, v] w (DecPost k l w) := by
  cases hk : isK k with
  | false => exact decode_bad k v l w hk
  | true =>
    by_cases h1 : k = 1
    · exact decode_0 k v l w hR hl hG hk (by unfold hasL; rw [if_pos h1])
    · by_cases h2 : k = 2 ∨ k = 3
      · exact decode_1 k v l w hR hl hG hk (by unfold hasL; rw [if_neg h1, if_pos h2])
      · by_cases h4 : k = 4
        · exact decode_2 k v l w hR hl hG hk (by unfold hasL; rw [if_neg h1, if_neg h2, if_pos h4])
        · by_cases h5 : k = 5
          · exact decode_3 k v l w hR hl hG hk (by unfold hasL; rw [if_neg h1, if_neg h2, if_neg h4, if_pos h5])
          · by_cases h6 : k = 6
            · exact decode_4 k v l w hR hl hG hk (by unfold hasL; rw [if_neg h1, if_neg h2, if_neg h4, if_neg h5, if_pos h6])
            · by_cases h7 : k = 7
              · exact decode_5 k v l w hR hl hG hk (by unfold hasL; rw [if_neg h1, if_neg h2, if_neg h4, if_neg h5, if_neg h6, if_pos h7])
              · by_cases h8 : k = 8
                · exact decode_6 k v l w hR hl hG hk (by unfold hasL; rw [if_neg h1, if_neg h2, if_neg h4, if_neg h5, if_neg h6, if_neg h7, if_pos h8])
                · by_cases h9 : k = 9
                  · exact decode_7 k v l w hR hl hG hk (by unfold hasL; rw [if_neg h1, if_neg h2, if_neg h4, if_neg h5, if_neg h6, if_neg h7, if_neg h8, if_pos h9])
                  · exact decode_8 k v l w hR hl hG hk (by unfold hasL; rw [if_neg h1, if_neg h2, if_neg h4, if_neg h5, if_neg h6, if_neg h7, if_neg h8, if_neg h9])
end Go.Proofs.YtcmoidldalgljaaGreatDoor
set_option linter.unusedVariables false
set_option linter.unusedSimpArgs false
namespace Go.Proofs.YtcmoidldalgljaaGreatDoor
open Go.RowKit
open Hen

theorem Src.lit (w : World) (cs : Array Value) (fr : Nat × Nat) (l : List UInt8) (h : cs.toList = Lib.byteCells l) : Src (w.alloc (.cells cs 5 fr)) (.slice (some ⟨w.heap.size, 0, none⟩) l.length l.length) l := by
  refine .inr ⟨⟨w.heap.size, 0, none⟩, l.length, rfl, by simp, fun i hi => ?_⟩
  have ha : (⟨w.heap.size, 0, none⟩ : Addr).add i = ⟨w.heap.size, i, none⟩ := by unfold Addr.add; split <;> simp_all
  rw [ha, World.cell?_alloc_mark]
  have : cs.toList[i]? = some (.int .u8 ((l[i].toNat : Nat) : Int)) := by rw [h]; simp [Lib.byteCells, List.getElem?_eq_getElem hi]
  simpa using this
namespace Hen
def getQ : Rq := ⟨6, ⟨#[]⟩, ⟨#[104, 111, 109, 101]⟩, ⟨#[117, 49]⟩, ⟨#[]⟩, 0, 0, [], 0, 0, 0⟩
def getL : List UInt8 := [4, 104, 111, 109, 101, 2, 117, 49]
theorem getQ_check : checkE getQ = 0 := by
  unfold checkE
  have h1 : isK getQ.k = true := by decide
  have h2 : strayB (hasL getQ.k) getQ = false := by
    simp [strayB, strayV, strayF, strayO, hasL, getQ, ByteArray.toList_eq]
  have h3 : namedB (hasL getQ.k) getQ = true := by decide +kernel
  have h4 : formedB (hasL getQ.k) getQ = true := by decide +kernel
  have h5 : rangeB (hasL getQ.k) getQ = false := by decide +kernel
  rw [h1, h2, h3, h4, h5]
  rfl
theorem getQ_bytes : encB getQ = getL := by decide +kernel
theorem getQ_64 : Num64 getQ := ⟨by decide, by decide, fun o ho => by cases ho⟩
theorem getQ_dec : decE 6 getL = 0 ∧ decR 6 getL = getQ := by
  have := dec_enc getQ getQ_check getQ_64
  rw [getQ_bytes] at this
  exact this
end Hen
theorem getQ_small : Small getQ := ⟨by decide, by decide, by decide, by decide, by decide, by decide, by decide, by decide, by decide, by decide, fun k hk => absurd hk (by simp [getQ])⟩

set_option maxHeartbeats 4000000 in
set_option maxRecDepth 100000 in
theorem first12_calls (w : World) (hG : GL w) : Calls Tryz.prog 11 #[] w fun e w' => e = .returned (.bool true) ∧ Below w.heap.size w w' := by
  have cE := fun W (hg : GL W) => encode_calls getQ none 0 W (OpsAt.nil_ _ _) getQ_small hg
  rw [getQ_check, getQ_bytes] at cE
  have cD := fun v W (hr : Src W v getL) (hg : GL W) => decode_calls 6 v getL W hr (by decide) hg
  unfold DecPost at cD
  rw [getQ_dec.1, getQ_dec.2] at cD
  simp only [Rq.val, getQ, List.length_nil] at cE cD
  have kc := fun (W : World) (C : Array Value) (n c : Nat) => Lib.run_convert_bytes_const (P := Tryz.prog) W 29 5 C n c Tryz.underlying29 Tryz.underlying5
  have HG := Lib.hid hG
  have CE := Lib.hid cE
  have CD := Lib.hid cD
  clear hG cE cD
  go_enter Tryz.func11, Tryz.ntmps11
  go_wp2_with fail
  refine (CE.out _ HG.out).mono ?_
  rintro e w1 ⟨v1, rfl, hr, hn, hb1⟩
  have hr := hr rfl
  clear hn
  have hl : Src (w1.alloc (.cells #[.int .u8 4, .int .u8 104, .int .u8 111, .int .u8 109, .int .u8 101, .int .u8 2, .int .u8 117, .int .u8 49] 5 (8, 9))) (.slice (some ⟨w1.heap.size, 0, none⟩) 8 8) getL := Src.lit w1 #[.int .u8 4, .int .u8 104, .int .u8 111, .int .u8 109, .int .u8 101, .int .u8 2, .int .u8 117, .int .u8 49] (8, 9) getL rfl
  have hb2 := (below_step hb1 hb1.size (Below.refl _ _)).alloc hb1.size (.cells #[.int .u8 4, .int .u8 104, .int .u8 111, .int .u8 109, .int .u8 101, .int .u8 2, .int .u8 117, .int .u8 49] 5 (8, 9))
  have hr2 := hr.alloc (.cells #[.int .u8 4, .int .u8 104, .int .u8 111, .int .u8 109, .int .u8 101, .int .u8 2, .int .u8 117, .int .u8 49] 5 (8, 9))
  clear hr hb1
  go_wp2_with fail
  refine (CD.out _ _ hl (HG.out.below hb2)).mono ?_
  rintro e w2 ⟨A, c, rfl, ho, hb3⟩
  have hr3 := (hr2.below hb3).alloc (.cells #[.int .i64 6, .string ⟨#[]⟩, .string ⟨#[104, 111, 109, 101]⟩, .string ⟨#[117, 49]⟩, .string ⟨#[]⟩, .int .i64 0, .int .i64 0, .slice A 0 c, .int .i64 0, .int .i64 0, .int .i64 0] 26)
  have hb4 := (below_step hb2 hb2.size hb3).alloc (by have := hb2.size; have := hb3.size; omega) (.cells #[.int .i64 6, .string ⟨#[]⟩, .string ⟨#[104, 111, 109, 101]⟩, .string ⟨#[117, 49]⟩, .string ⟨#[]⟩, .int .i64 0, .int .i64 0, .slice A 0 c, .int .i64 0, .int .i64 0, .int .i64 0] 26)
  have ht := hr3.text
  clear ho hr2 hr3 hb3 hb2 hl
  go_wp2
  go_ret
  exact ⟨rfl, hb4⟩
end Go.Proofs.YtcmoidldalgljaaGreatDoor
set_option linter.unusedVariables false
set_option linter.unusedSimpArgs false
namespace Go.Proofs.YtcmoidldalgljaaGreatDoor
open Go.RowKit
open Hen

namespace Hen
def zedS : ByteArray := ⟨#[122, 101, 100]⟩
theorem checkE_stray {q : Rq} (h1 : isK q.k = true) (h2 : strayB (hasL q.k) q = true) : checkE q = 1 := by
  unfold checkE
  rw [if_neg (by simp [h1]), if_pos h2]
theorem fields_0 (q : Rq) (h : checkE q = 0) : checkE { q with tenant := zedS, col := zedS } = 1 := by
  have hk := (checkE_parts h).1
  refine checkE_stray hk ?_
  unfold strayB strayV
  simp only
  unfold hasL
  (repeat' split) <;> simp [strayF, ByteArray.toList_eq, zedS]
theorem fields_1 (q : Rq) (h : checkE q = 0) : checkE { q with tok := 5, uid := zedS } = 1 := by
  have hk := (checkE_parts h).1
  refine checkE_stray hk ?_
  unfold strayB strayV
  simp only
  unfold hasL
  (repeat' split) <;> simp [strayF, ByteArray.toList_eq, zedS]
theorem fields_2 (q : Rq) (h : checkE q = 0) : checkE { q with most := 5, ticks := 5 } = 1 := by
  have hk := (checkE_parts h).1
  refine checkE_stray hk ?_
  unfold strayB strayV
  simp only
  unfold hasL
  (repeat' split) <;> simp [strayF]
theorem fields_3 (q : Rq) : checkE { q with k := 77 } = 12 := by
  unfold checkE
  rw [if_pos (show isK 77 = false by decide)]

/-! ### A batch -/
def batchQ (ops : List Opx) : Rq := ⟨7, ⟨#[]⟩, ⟨#[104, 111, 109, 101]⟩, ⟨#[]⟩, ⟨#[]⟩, 0, 0, ops, 0, 0, 0⟩
def opK (i : Nat) : Opx := ⟨false, ⟨(uidK i).toArray⟩, ⟨(cardK i).toArray⟩, 0, 0⟩
def opsK (n : Nat) : List Opx := (List.range n).map opK
theorem checkE_batch (ops : List Opx) : checkE (batchQ ops) = if strayO ops = true then 1 else if (ops.all fun o => uidB o.uid.data.toList) = false then 3 else if ops.all formO = false then 1 else if ops.length < 1 ∨ 8 < ops.length then 12 else 0 := by
  have h1 : isK (batchQ ops).k = true := rfl
  have hh : hasL (batchQ ops).k = [false, true, false, false, false, true, false, false, false] := rfl
  unfold checkE
  rw [if_neg (by rw [h1]; simp), hh]
  have h2 : strayB [false, true, false, false, false, true, false, false, false] (batchQ ops) = strayO ops := by
    unfold strayB strayV batchQ
    simp [strayF, ByteArray.toList_eq]
  have h3 : namedB [false, true, false, false, false, true, false, false, false] (batchQ ops) = ops.all fun o => uidB o.uid.data.toList := by
    have : nameB [104, 111, 109, 101] = true := by decide +kernel
    unfold namedB batchQ
    simp [this]
  have h4 : formedB [false, true, false, false, false, true, false, false, false] (batchQ ops) = ops.all formO := by
    unfold formedB batchQ
    simp
  have h5 : (rangeB [false, true, false, false, false, true, false, false, false] (batchQ ops) = true) ↔ (ops.length < 1 ∨ 8 < ops.length) := by
    unfold rangeB batchQ
    simp
  rw [h2, h3, h4]
  by_cases g5 : ops.length < 1 ∨ 8 < ops.length
  · rw [if_pos (h5.2 g5), if_pos g5]
  · rw [if_neg (fun e => g5 (h5.1 e)), if_neg g5]
theorem uidK_ok (i : Nat) : uidB (uidK i) = true := by
  have : i % 8 = 0 ∨ i % 8 = 1 ∨ i % 8 = 2 ∨ i % 8 = 3 ∨ i % 8 = 4 ∨ i % 8 = 5 ∨ i % 8 = 6 ∨ i % 8 = 7 := by omega
  unfold uidK
  rcases this with h | h | h | h | h | h | h | h <;> rw [h] <;> decide +kernel
theorem cardK_ok (i : Nat) : cardB (cardK i) = true := by
  have : i % 5 = 0 ∨ i % 5 = 1 ∨ i % 5 = 2 ∨ i % 5 = 3 ∨ i % 5 = 4 := by omega
  unfold cardK
  rcases this with h | h | h | h | h <;> rw [h] <;> decide +kernel
theorem opK_ok (i : Nat) : formO (opK i) = true := by
  unfold formO opK
  simp [cardK_ok, mayC]
theorem cardK_ne (i : Nat) : cardK i ≠ [] := by unfold cardK; split <;> simp
theorem opsK_mem {n : Nat} {o : Opx} (h : o ∈ opsK n) : o.del = false ∧ uidB o.uid.data.toList = true ∧ formO o = true := by
  obtain ⟨i, _, rfl⟩ := List.mem_map.1 h
  exact ⟨rfl, by simpa [opK] using uidK_ok i, opK_ok i⟩
theorem opsK_len (n : Nat) : (opsK n).length = n := by simp [opsK]
theorem strayO_del {ops : List Opx} (h : ∀ o ∈ ops, o.del = false) : strayO ops = false := by
  unfold strayO
  rw [List.any_eq_false]
  intro o ho
  rw [h o ho]
  simp
theorem names_good (n : Nat) (h1 : 1 ≤ n) (h8 : n ≤ 8) : checkE (batchQ (opsK n)) = 0 := by
  rw [checkE_batch, strayO_del fun o ho => (opsK_mem ho).1, if_neg (by simp), if_neg (by
    rw [List.all_eq_true.2 fun o ho => (opsK_mem ho).2.1]; simp), if_neg (by
    rw [List.all_eq_true.2 fun o ho => (opsK_mem ho).2.2]; simp), if_neg (by rw [opsK_len]; omega)]
theorem mem_set {l : List Opx} {i : Nat} {x o : Opx} (h : o ∈ l.set i x) : o ∈ l ∨ o = x := List.mem_or_eq_of_mem_set h
theorem names_0 (n a : Nat) (ha : a < n) (u : ByteArray) (hu : uidB u.data.toList = false) (o : Opx) (ho : o = { opK a with uid := u }) : checkE (batchQ ((opsK n).set a o)) = 3 := by
  have hs : strayO ((opsK n).set a o) = false := strayO_del fun x hx => by
    rcases mem_set hx with h | rfl
    · exact (opsK_mem h).1
    · rw [ho]; rfl
  have hm : o ∈ (opsK n).set a o := List.mem_set (by rw [opsK_len]; exact ha) _
  rw [checkE_batch, hs, if_neg (by simp), if_pos (List.all_eq_false.2 ⟨o, hm, by rw [ho]; simp [hu]⟩)]
theorem names_form (n a : Nat) (ha : a < n) (o : Opx) (hd : o.del = false) (hu : o.uid = (opK a).uid) (hf : formO o = false) : checkE (batchQ ((opsK n).set a o)) = 1 := by
  have hs : strayO ((opsK n).set a o) = false := strayO_del fun x hx => by
    rcases mem_set hx with h | rfl
    · exact (opsK_mem h).1
    · exact hd
  have hm : o ∈ (opsK n).set a o := List.mem_set (by rw [opsK_len]; exact ha) _
  have hn : ((opsK n).set a o).all (fun o => uidB o.uid.data.toList) = true := List.all_eq_true.2 fun x hx => by
    rcases mem_set hx with h | rfl
    · exact (opsK_mem h).2.1
    · rw [hu]; simpa [opK] using uidK_ok a
  rw [checkE_batch, hs, if_neg (by simp), if_neg (by rw [hn]; simp), if_pos (List.all_eq_false.2 ⟨o, hm, by simp [hf]⟩)]
theorem names_1 (n a : Nat) (ha : a < n) : checkE (batchQ ((opsK n).set a { opK a with card := ⟨#[120]⟩ })) = 1 := by
  refine names_form n a ha _ rfl rfl ?_
  have : cardB [120] = false := by decide +kernel
  unfold formO
  simp [opK, this]
theorem names_2 (n a : Nat) (ha : a < n) : checkE (batchQ ((opsK n).set a { opK a with del := true })) = 1 := by
  have hm : { opK a with del := true } ∈ (opsK n).set a { opK a with del := true } := List.mem_set (by rw [opsK_len]; exact ha) _
  have hs : strayO ((opsK n).set a { opK a with del := true }) = true := by
    unfold strayO
    refine List.any_eq_true.2 ⟨_, hm, ?_⟩
    simp [opK, ByteArray.toList_eq, cardK_ne]
  rw [checkE_batch, if_pos hs]
theorem names_3 (n a : Nat) (ha : a < n) : checkE (batchQ ((opsK n).set a { opK a with ck := 9, cv := 0 })) = 1 := by
  refine names_form n a ha _ rfl rfl ?_
  unfold formO
  simp [opK, mayC]

/-! ### Cut off -/
theorem numB_ne (n : Nat) : numB (n : Int) ≠ [] := by
  rw [numB_pos]
  split <;> simp
theorem textB_ne (s : List UInt8) : textB s ≠ [] := by
  unfold textB
  intro h
  exact numB_ne _ (List.append_eq_nil_iff.1 h).1
theorem encB_nil {q : Rq} (h : checkE q = 0) (he : encB q = []) : q.k = 10 ∨ q.k = 11 := by
  have hk := (checkE_parts h).1
  unfold isK at hk
  simp only [Bool.and_eq_true, decide_eq_true_eq] at hk
  by_cases h9 : q.k ≤ 9
  · exfalso
    unfold encB encF hasL at he
    have : q.k = 1 ∨ q.k = 2 ∨ q.k = 3 ∨ q.k = 4 ∨ q.k = 5 ∨ q.k = 6 ∨ q.k = 7 ∨ q.k = 8 ∨ q.k = 9 := by omega
    rcases this with e | e | e | e | e | e | e | e | e <;> rw [e] at he <;> simp [textB_ne] at he
  · omega
end Hen
end Go.Proofs.YtcmoidldalgljaaGreatDoor
set_option linter.unusedVariables false
set_option linter.unusedSimpArgs false
namespace Go.Proofs.YtcmoidldalgljaaGreatDoor
open Go.RowKit
open Hen

theorem i64_and255 (n : Int) : bits .and .i64 n 255 = n % 256 := by
  have h1 : (BitVec.ofInt 64 255).toNat = 2 ^ 8 - 1 := by decide
  have key : (BitVec.ofInt 64 n &&& BitVec.ofInt 64 255).toNat = (n % ((2 ^ 64 : Nat) : Int)).toNat % 2 ^ 8 := by
    rw [BitVec.toNat_and, BitVec.toNat_ofInt, h1, Nat.and_two_pow_sub_one_eq_mod]
  show IntKind.i64.wrap ((BitVec.ofInt 64 n &&& BitVec.ofInt 64 255).toNat : Nat) = n % 256
  rw [key, IntKind.wrap_i64]
  omega
theorem i64_and65535 (n : Int) : bits .and .i64 n 65535 = n % 65536 := by
  have h1 : (BitVec.ofInt 64 65535).toNat = 2 ^ 16 - 1 := by decide
  have key : (BitVec.ofInt 64 n &&& BitVec.ofInt 64 65535).toNat = (n % ((2 ^ 64 : Nat) : Int)).toNat % 2 ^ 16 := by
    rw [BitVec.toNat_and, BitVec.toNat_ofInt, h1, Nat.and_two_pow_sub_one_eq_mod]
  show IntKind.i64.wrap ((BitVec.ofInt 64 n &&& BitVec.ofInt 64 65535).toNat : Nat) = n % 65536
  rw [key, IntKind.wrap_i64]
  omega

/-- What is read of a request that comes in: its texts and numbers are such as a machine has. -/
structure Sizes (q : Rq) : Prop where
  tenant : q.tenant.size ≤ 140737488355327
  col : q.col.size ≤ 140737488355327
  uid : q.uid.size ≤ 140737488355327
  card : q.card.size ≤ 140737488355327
  ops : q.ops.length ≤ 140737488355327
  each : ∀ k, k < q.ops.length → q.ops[k]!.uid.size ≤ 140737488355327 ∧ q.ops[k]!.card.size ≤ 140737488355327
  num : Num64 q
  ck : q.ck ≤ 9223372036854775807
  most : q.most ≤ 9223372036854775807
  ticks : q.ticks ≤ 9223372036854775807
  cks : ∀ o ∈ q.ops, o.ck ≤ 9223372036854775807
theorem light_of {q : Rq} (A : Option Addr) (c : Nat) (w : World) (hO : OpsAt w A q.ops) (hS : Sizes q) :
    Calls Tryz.prog 12 #[q.val A c] w fun e w' => e = .returned (.bool (lightB q)) ∧ Below w.heap.size w w' :=
  light_calls q A c w hO hS.tenant hS.col hS.uid hS.card hS.ops hS.each
theorem lightB_small {q : Rq} (h : lightB q = true) (hS : Sizes q) : Small q := by
  unfold lightB at h
  simp only [Bool.and_eq_true, decide_eq_true_eq] at h
  obtain ⟨⟨⟨⟨⟨h1, h2⟩, h3⟩, h4⟩, h5⟩, h6⟩ := h
  have hm : ∀ k, k < q.ops.length → q.ops[k]! ∈ q.ops := fun k hk => by rw [getElem!_pos _ k hk]; exact List.getElem_mem _
  refine ⟨by omega, by omega, by omega, by omega, hS.ck, hS.num.cv, hS.num.tok, hS.most, hS.ticks, by omega, fun k hk => ?_⟩
  have := List.all_eq_true.1 h6 _ (hm k hk)
  unfold lightO at this
  simp only [Bool.and_eq_true, decide_eq_true_eq] at this
  exact ⟨by omega, by omega, hS.cks _ (hm k hk), hS.num.ops _ (hm k hk)⟩
end Go.Proofs.YtcmoidldalgljaaGreatDoor

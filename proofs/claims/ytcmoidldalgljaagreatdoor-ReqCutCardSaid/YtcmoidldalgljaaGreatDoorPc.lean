/-
  Contracts: fold.Fold, tel.Canon, mail.isLocal, mail.Parts, mail.Is, mail.Canon; for every string.
-/
import Derived.Test.YtcmoidldalgljaaGreatDoorPb
import Derived.Lib.SplitLaws
import Derived.Deep.RegionWith
set_option linter.unusedVariables false
set_option linter.unusedSimpArgs false
namespace Go.Proofs.YtcmoidldalgljaaGreatDoor
open Go.RowKit

set_option maxHeartbeats 4000000 in
theorem local_calls (s : ByteArray) (w : World) (hs : s.size < 4294967281) (hG : GL w) : Calls Tryz.prog 183 #[.string s] w fun e w' => e = .returned (.bool (Hen.localB s.data.toList)) ∧ w = w' := by
  have hl : s.data.toList.length = s.size := by simp
  have hR : Hen.localB s.data.toList = (decide (1 ≤ s.size) && decide (s.size ≤ 32) && !decide (Hen.at0 s.data.toList 0 = 46) && !decide (Hen.at0 s.data.toList (s.size - 1) = 46) && !Lib.contains s.data.toList [46, 46] && s.data.toList.all Hen.localRest) := by unfold Hen.localB; rw [hl]
  obtain ⟨m, hm⟩ := hG.maxLen
  have cC := Tryz.strings_Contains s ⟨#[46, 46]⟩ m w hs hm
  have hc0 : (⟨#[46, 46]⟩ : ByteArray).data.toList = [46, 46] := rfl
  rw [hc0] at cC
  have hs' : s.size ≤ 2 ^ 63 - 1 := by omega
  clear hl hm hc0 hs hG
  have H0 := Lib.hid (byte_at0 s 0)
  have H1 := Lib.hid (byte_at0 s (s.size - 1))
  generalize Hen.localB s.data.toList = R at hR ⊢
  generalize Lib.contains s.data.toList [46, 46] = C at hR cC
  have CC := Lib.hid cC
  clear cC
  rcases Nat.lt_or_ge s.size 1 with h1 | h1
  · have b1 : (s.size : Int) < 1 := by omega
    obtain rfl : R = false := by rw [hR, decide_eq_false (by omega)]; rfl
    clear hR
    go_enter Tryz.func183, Tryz.ntmps183
    go_wp2
    go_ret
    exact ⟨rfl, rfl⟩
  have b1 : (1 : Int) ≤ s.size := by omega
  rcases Nat.lt_or_ge 32 s.size with h2 | h2
  · have b2 : (32 : Int) < s.size := by omega
    obtain rfl : R = false := by rw [hR, decide_eq_false (show ¬ s.size ≤ 32 by omega)]; simp
    clear hR
    go_enter Tryz.func183, Tryz.ntmps183
    go_wp2
    go_ret
    exact ⟨rfl, rfl⟩
  have b2 : (s.size : Int) ≤ 32 := by omega
  have p0 : 0 < s.size := by omega
  have p1 : s.size - 1 < s.size := by omega
  by_cases h3 : Hen.at0 s.data.toList 0 = 46
  · have b3 : (((s[0]'p0).toNat : Int) == 46) = true := by rw [beq_iff_eq, H0.out p0, h3]; rfl
    obtain rfl : R = false := by rw [hR, decide_eq_true h3]; simp
    clear hR h3
    go_enter Tryz.func183, Tryz.ntmps183
    go_wp2
    go_ret
    exact ⟨rfl, rfl⟩
  have b3 : (((s[0]'p0).toNat : Int) == 46) = false := by rw [beq_eq_false_iff_ne, H0.out p0]; omega
  by_cases h4 : Hen.at0 s.data.toList (s.size - 1) = 46
  · have b4 : (((s[s.size - 1]'p1).toNat : Int) == 46) = true := by rw [beq_iff_eq, H1.out p1, h4]; rfl
    obtain rfl : R = false := by rw [hR, decide_eq_true h4]; simp
    clear hR h3 h4
    go_enter Tryz.func183, Tryz.ntmps183
    go_wp2
    go_ret
    exact ⟨rfl, rfl⟩
  have b4 : (((s[s.size - 1]'p1).toNat : Int) == 46) = false := by rw [beq_eq_false_iff_ne, H1.out p1]; omega
  rw [decide_eq_true h1, decide_eq_true h2, decide_eq_false h3, decide_eq_false h4] at hR
  cases C with
  | true =>
    obtain rfl : R = false := by rw [hR]; simp
    clear hR h3 h4
    go_enter Tryz.func183, Tryz.ntmps183
    go_wp2_with (go_at_call 193; refine CC.out.mono ?_; rintro e w' ⟨rfl, rfl⟩)
    go_ret
    exact ⟨rfl, rfl⟩
  | false =>
  have HR := Lib.hid hR
  clear hR h3 h4 H0 H1
  go_enter Tryz.func183, Tryz.ntmps183
  go_wp2_with (go_at_call 193; refine CC.out.mono ?_; rintro e w' ⟨rfl, rfl⟩)
  go_loop [33] (fun c => ∃ k : Nat, k ≤ s.size ∧ c = .int .i64 k ∧ Hid ((s.data.toList.take k).all Hen.localRest = true)) (fun c => s.size - (intOf c).toNat)
  case atStart => exact ⟨0, Nat.zero_le _, rfl, rfl⟩
  case round =>
    obtain ⟨k, hk, rfl, HK⟩ := hrel
    by_cases hlt : k < s.size
    · have HT := Lib.hid (take_all s Hen.localRest k hlt)
      have hi : s[k].toNat ≤ 42 ∨ (43 ≤ s[k].toNat ∧ s[k].toNat ≤ 43) ∨ (44 ≤ s[k].toNat ∧ s[k].toNat ≤ 44) ∨ (45 ≤ s[k].toNat ∧ s[k].toNat ≤ 45) ∨ (46 ≤ s[k].toNat ∧ s[k].toNat ≤ 46) ∨ (47 ≤ s[k].toNat ∧ s[k].toNat ≤ 47) ∨ (48 ≤ s[k].toNat ∧ s[k].toNat ≤ 57) ∨ (58 ≤ s[k].toNat ∧ s[k].toNat ≤ 64) ∨ (65 ≤ s[k].toNat ∧ s[k].toNat ≤ 90) ∨ (91 ≤ s[k].toNat ∧ s[k].toNat ≤ 94) ∨ (95 ≤ s[k].toNat ∧ s[k].toNat ≤ 95) ∨ (96 ≤ s[k].toNat ∧ s[k].toNat ≤ 96) ∨ (97 ≤ s[k].toNat ∧ s[k].toNat ≤ 122) ∨ 123 ≤ s[k].toNat := by omega
      rcases hi with h | h | h | h | h | h | h | h | h | h | h | h | h | h
      all_goals
        first | have n46 : ((s[k].toNat : Int) != 46) = true := by (rw [bne_iff_ne]; omega) | have n46 : ((s[k].toNat : Int) != 46) = false := by (rw [bne_eq_false_iff_eq]; omega)
        first | have n95 : ((s[k].toNat : Int) != 95) = true := by (rw [bne_iff_ne]; omega) | have n95 : ((s[k].toNat : Int) != 95) = false := by (rw [bne_eq_false_iff_eq]; omega)
        first | have n43 : ((s[k].toNat : Int) != 43) = true := by (rw [bne_iff_ne]; omega) | have n43 : ((s[k].toNat : Int) != 43) = false := by (rw [bne_eq_false_iff_eq]; omega)
        first | have n45 : ((s[k].toNat : Int) != 45) = true := by (rw [bne_iff_ne]; omega) | have n45 : ((s[k].toNat : Int) != 45) = false := by (rw [bne_eq_false_iff_eq]; omega)
        first
          | (have hp := Lib.hid (show Hen.localRest s[k] = true by simp [Hen.localRest, Hen.digB, Hen.smallN]; omega)
             go_wp2
             try any_goals (exfalso; rename_i hz; simp at hz; omega)
             go_round
             case rel => exact ⟨k + 1, by omega, by go_num, by unfold Hid; rw [HT.out, HK.out, hp.out]; rfl⟩
             case measure => simp [intOf]; omega)
          | (have HB1 := Lib.hid (all_false_of (k := k + 1) (show (s.data.toList.take (k + 1)).all Hen.localRest = false by rw [HT.out, HK.out, show Hen.localRest s[k] = false by simp [Hen.localRest, Hen.digB, Hen.smallN]; omega]; rfl))
             go_wp2
             try any_goals (exfalso; rename_i hz; simp at hz; omega)
             go_ret
             exact ⟨ret_bool (by rw [HR.out, HB1.out]; rfl), rfl⟩)
    · obtain rfl : k = s.size := by omega
      go_wp2
      go_ret
      exact ⟨ret_bool (by rw [HR.out, ← all_take_size, HK.out]; rfl), rfl⟩
end Go.Proofs.YtcmoidldalgljaaGreatDoor
set_option linter.unusedVariables false
set_option linter.unusedSimpArgs false
namespace Go.Proofs.YtcmoidldalgljaaGreatDoor
open Go.RowKit

/-! ### '[]byte(s)': a row of the call's own -/
def Bytes (w : World) (g : Nat) (l : List UInt8) : Prop := (∀ j (h : j < l.length), w.cell? ⟨g, j, none⟩ = some (.int .u8 ((l[j].toNat : Nat) : Int))) ∧ ∀ j, j < l.length → w.frozen? ⟨g, j, none⟩ = false
theorem Bytes.cell {w : World} {g : Nat} {l : List UInt8} (h : Bytes w g l) {j : Nat} (hj : j < l.length) : w.cell? ⟨g, j, none⟩ = some (.int .u8 ((l[j].toNat : Nat) : Int)) := h.1 j hj
theorem Bytes.free {w : World} {g : Nat} {l : List UInt8} (h : Bytes w g l) {j : Nat} (hj : j < l.length) : w.frozen? ⟨g, j, none⟩ = false := h.2 j hj
theorem Bytes.set_ {w : World} {g : Nat} {l : List UInt8} (h : Bytes w g l) (i : Nat) (hi : i < l.length) (y : UInt8) : Bytes (w.setCell ⟨g, i, none⟩ (.int .u8 ((y.toNat : Nat) : Int))) g (l.set i y) := by
  refine ⟨fun j hj => ?_, fun j hj => ?_⟩
  · have hj' : j < l.length := by simpa using hj
    by_cases e : i = j
    · subst e
      rw [World.cell?_setCell_same w _ _ (by rw [h.1 i hi])]
      simp
    · rw [World.cell?_setCell_other w _ _ _ (fun he => e (by injection he)), h.1 j hj']
      simp [List.getElem_set, e]
  · rw [World.frozen?_setCell]
    exact h.2 j (by simpa using hj)
theorem conv_bytes (s : ByteArray) (w : World) : ∃ c W, (convert 9 29 (.string s)).run Tryz.prog w = .ok (.slice (some ⟨w.heap.size, 0, none⟩) s.size c) W ∧ Bytes W w.heap.size s.data.toList ∧ Below w.heap.size w W ∧ w.heap.size < W.heap.size := by
  refine ⟨_, _, Lib.run_convert_string_bytes w _ _ 5 s Tryz.underlying9 Tryz.underlying29 Tryz.underlying5, ⟨fun j hj => ?_, fun j hj => ?_⟩, ⟨rfl, rfl, rfl, by rw [Lib.bytesWorld_size]; omega, fun k hk => Lib.bytesWorld_at_old w _ s k hk⟩, by rw [Lib.bytesWorld_size]; omega⟩
  · rw [Lib.bytesWorld_cell w _ s j (by simpa using hj), List.getD_eq_getElem?_getD, List.getElem?_eq_getElem hj]; rfl
  · have : j < (Lib.bytesCells w 5 s).size := by
      have : j < s.size := by simpa using hj
      simp [Lib.bytesCells]; omega
    simp [World.frozen?, Lib.bytesWorld_at_new]
    omega
/-- 'string(b)' at such a row. -/
theorem Bytes.text {w : World} {g c : Nat} {l : List UInt8} (h : Bytes w g l) : (convert 29 9 (.slice (some ⟨g, 0, none⟩) l.length c)).run Tryz.prog w = .ok (.string ⟨l.toArray⟩) w :=
  run_convert_bytes_back w _ _ 5 ⟨g, 0, none⟩ c l Tryz.underlying29 Tryz.underlying5 Tryz.underlying9 fun j hj => by
    have ha : (⟨g, 0, none⟩ : Addr).add j = ⟨g, j, none⟩ := by unfold Addr.add; split <;> simp_all
    rw [ha]; exact h.1 j hj

def Hen.foldTo (l : List UInt8) (k : Nat) : List UInt8 := (l.take k).map Hen.upB ++ l.drop k
theorem foldTo_length (l : List UInt8) (k : Nat) : (Hen.foldTo l k).length = l.length := by simp [Hen.foldTo]; omega
theorem foldTo_at (l : List UInt8) (k : Nat) (h : k < l.length) (h' : k < (Hen.foldTo l k).length) : (Hen.foldTo l k)[k] = l[k] := by
  simp [Hen.foldTo, List.getElem_append, Nat.min_eq_left (Nat.le_of_lt h)]
theorem foldTo_succ (l : List UInt8) (k : Nat) (h : k < l.length) : Hen.foldTo l (k + 1) = (Hen.foldTo l k).set k (Hen.upB l[k]) := by
  have hk : ((l.take k).map Hen.upB).length = k := by simp; omega
  unfold Hen.foldTo
  rw [List.set_append_right _ _ (by omega), hk, Nat.sub_self, List.take_succ_eq_append_getElem h, List.map_append, List.append_assoc, List.drop_eq_getElem_cons h, List.set_cons_zero]
  rfl
theorem foldTo_same (l : List UInt8) (k : Nat) (h : k < l.length) (hu : Hen.upB l[k] = l[k]) : Hen.foldTo l (k + 1) = Hen.foldTo l k := by
  rw [foldTo_succ l k h, hu]
  conv => lhs; rw [← foldTo_at l k h (by rw [foldTo_length]; exact h)]
  exact List.set_getElem_self _

set_option maxHeartbeats 2000000 in
theorem fold_calls (s : ByteArray) (w : World) (hs : s.size ≤ maxLen) : Calls Tryz.prog 143 #[.string s] w fun e w' => e = .returned (.string ⟨(Hen.foldS s.data.toList).toArray⟩) ∧ Below w.heap.size w w' := by
  unfold maxLen at hs
  have hl : s.data.toList.length = s.size := by simp
  obtain ⟨c, W, hconv, hB, hbel, hlt⟩ := conv_bytes s w
  have HL := Lib.hid hl
  have HBY := Lib.hid (show Bytes W w.heap.size (Hen.foldTo s.data.toList 0) by simpa [Hen.foldTo] using hB)
  clear hl hB
  go_enter Tryz.func143, Tryz.ntmps143
  go_wp2
  clear hconv
  go_loopw [10] (fun i wr => ∃ k : Nat, k ≤ s.size ∧ i = .int .i64 k ∧ Hid (Bytes wr w.heap.size (Hen.foldTo s.data.toList k)) ∧ Below w.heap.size w wr ∧ w.heap.size < wr.heap.size) (fun i _ => s.size - (intOf i).toNat)
  case atStart => exact ⟨0, Nat.zero_le _, rfl, HBY, hbel, hlt⟩
  case round =>
    obtain ⟨k, hk, rfl, HBk, hbr, hltr⟩ := hrel
    by_cases hk2 : k < s.size
    · have hkl : k < s.data.toList.length := by rw [HL.out]; exact hk2
      have hkf : k < (Hen.foldTo s.data.toList k).length := by rw [foldTo_length]; exact hkl
      have hcell := HBk.out.cell hkf
      have hfree := HBk.out.free hkf
      rw [foldTo_at _ _ hkl hkf] at hcell
      have hcc : (s.data.toList[k]'hkl) = s[k]'hk2 := rfl
      rw [hcc] at hcell
      by_cases hup : 65 ≤ (s[k]'hk2).toNat ∧ (s[k]'hk2).toNat ≤ 90
      · have b1 : (65 : Int) ≤ (s[k]'hk2).toNat := by omega
        have b2 : ((s[k]'hk2).toNat : Int) ≤ 90 := by omega
        have hu : ((Hen.upB (s.data.toList[k]'hkl)).toNat : Int) = (s[k]'hk2).toNat + 32 := by
          rw [hcc]; unfold Hen.upB; rw [if_pos hup, UInt8.toNat_add]; simp; omega
        have HU := Lib.hid hu
        clear hu hcc hup
        go_wp2
        go_roundw
        case rel => exact ⟨k + 1, by omega, by go_num, by unfold Hid; rw [foldTo_succ _ _ hkl]; have := HBk.out.set_ k hkf (Hen.upB (s.data.toList[k]'hkl)); rw [HU.out] at this; exact this, hbr.setCell (Nat.le_refl _) _, by simpa [World.setCell] using hltr⟩
        case measure => simp [intOf]; omega
      · have hsame : Hen.upB (s.data.toList[k]'hkl) = s.data.toList[k]'hkl := by rw [hcc]; unfold Hen.upB; rw [if_neg hup]
        have HSM := Lib.hid hsame
        have hup2 : (s[k]'hk2).toNat < 65 ∨ 90 < (s[k]'hk2).toNat := by omega
        clear hsame hcc hup
        rcases hup2 with h | h
        all_goals
          go_wp2
          go_roundw
          case rel => exact ⟨k + 1, by omega, by go_num, by unfold Hid; rw [foldTo_same _ _ hkl HSM.out]; exact HBk.out, hbr, hltr⟩
          case measure => simp [intOf]; omega
    · obtain rfl : k = s.size := by omega
      have hfin : Hen.foldTo s.data.toList s.size = Hen.foldS s.data.toList := by unfold Hen.foldTo Hen.foldS; rw [List.take_of_length_le (Nat.le_of_eq HL.out), List.drop_of_length_le (Nat.le_of_eq HL.out), List.append_nil]
      have hB := HBk.out
      rw [hfin] at hB
      have ht := hB.text (c := c)
      rw [show (Hen.foldS s.data.toList).length = s.size by unfold Hen.foldS; rw [List.length_map, HL.out]] at ht
      clear hfin hB
      go_wp2
      go_ret
      exact ⟨rfl, hbr⟩

/-! ### tel.Canon -/
def Hen.telKeep (c : UInt8) : Bool := !(decide (c.toNat = 32) || decide (c.toNat = 45) || decide (c.toNat = 46) || decide (c.toNat = 47) || decide (c.toNat = 40) || decide (c.toNat = 41))
def Hen.telCanonS (l : List UInt8) : List UInt8 × Int :=
  if (cleanS l).2 = 0 then (if rowB ((cleanS l).1.filter telKeep) then ((cleanS l).1.filter telKeep, 0) else ([], 1)) else ([], (cleanS l).2)
theorem filter_snoc (p : UInt8 → Bool) (s : ByteArray) (k : Nat) (h : k < s.size) : (s.data.toList.take (k + 1)).filter p = (s.data.toList.take k).filter p ++ (if p s[k] then [s[k]] else []) := by
  rw [List.take_succ_eq_append_getElem (by simpa using h), List.filter_append]
  congr 1
  show [s[k]].filter p = _
  cases hp : p s[k] <;> simp [List.filter, hp]
theorem cleanS_len (l : List UInt8) : (Hen.cleanS l).1.length ≤ 64 := by
  unfold Hen.cleanS
  split
  · split
    · rename_i h
      unfold Hen.cleanE at h
      simp only
      split at h
      · omega
      · split at h <;> omega
    · simp
  · simp

set_option maxHeartbeats 4000000 in
theorem tel_canon_calls (s : ByteArray) (w : World) (hs : s.size ≤ 140737488355327) (hG : GL w) :
    Calls Tryz.prog 128 #[.string s] w fun e w' => e = .returned (.tuple #[.string ⟨(Hen.telCanonS s.data.toList).1.toArray⟩, .int .i64 (Hen.telCanonS s.data.toList).2]) ∧ Below w.heap.size w w' := by
  have cC := clean_calls s w hs hG
  have hlen := cleanS_len s.data.toList
  have hT : Hen.telCanonS s.data.toList = (if (Hen.cleanS s.data.toList).2 = 0 then (if Hen.rowB ((Hen.cleanS s.data.toList).1.filter Hen.telKeep) then ((Hen.cleanS s.data.toList).1.filter Hen.telKeep, 0) else ([], 1)) else ([], (Hen.cleanS s.data.toList).2)) := rfl
  generalize Hen.telCanonS s.data.toList = T at hT ⊢
  generalize Hen.cleanS s.data.toList = C at cC hT hlen
  obtain ⟨cl, ce⟩ := C
  simp only at cC hT hlen
  clear hs hG
  have CC := Lib.hid cC
  clear cC
  by_cases he : ce = 0
  · subst he
    rw [if_pos rfl] at hT
    obtain ⟨d, hd⟩ : ∃ d : ByteArray, d = ⟨cl.toArray⟩ := ⟨_, rfl⟩
    obtain rfl : cl = d.data.toList := by rw [hd]
    rw [mk_of] at CC
    clear hd
    have hdl : d.size ≤ 64 := by simpa using hlen
    have HT := Lib.hid hT
    clear hT hlen
    have b0 : ((0 : Int) != 0) = false := rfl
    go_enter Tryz.func128, Tryz.ntmps128
    go_wp2_with (go_at_call 130; refine CC.out.mono ?_; rintro e w1 ⟨rfl, hb⟩)
    go_loopw [6, 18] (fun v i wr => ∃ (k : Nat) (A : Option Addr) (c : Nat), k ≤ d.size ∧ i = .int .i64 k ∧ v = .slice A ((d.data.toList.take k).filter Hen.telKeep).length c ∧ Row wr w.heap.size (.slice A ((d.data.toList.take k).filter Hen.telKeep).length c) ((d.data.toList.take k).filter Hen.telKeep) ∧ Below w.heap.size w wr) (fun v i _ => d.size - (intOf i).toNat)
    case atStart => exact ⟨0, none, 0, Nat.zero_le _, rfl, rfl, Row.nil_ _ _, hb⟩
    case round =>
      obtain ⟨k, A, c, hk, rfl, rfl, hown, hbr⟩ := hrel
      have hll : ((d.data.toList.take k).filter Hen.telKeep).length ≤ k := Nat.le_trans (List.length_filter_le _ _) (List.length_take_le _ _)
      by_cases hlt : k < d.size
      · have HF := Lib.hid (filter_snoc Hen.telKeep d k hlt)
        generalize (d.data.toList.take k).filter Hen.telKeep = l at hown HF hll ⊢
        have hi : d[k].toNat ≤ 31 ∨ (32 ≤ d[k].toNat ∧ d[k].toNat ≤ 32) ∨ (33 ≤ d[k].toNat ∧ d[k].toNat ≤ 39) ∨ (40 ≤ d[k].toNat ∧ d[k].toNat ≤ 40) ∨ (41 ≤ d[k].toNat ∧ d[k].toNat ≤ 41) ∨ (42 ≤ d[k].toNat ∧ d[k].toNat ≤ 44) ∨ (45 ≤ d[k].toNat ∧ d[k].toNat ≤ 45) ∨ (46 ≤ d[k].toNat ∧ d[k].toNat ≤ 46) ∨ (47 ≤ d[k].toNat ∧ d[k].toNat ≤ 47) ∨ 48 ≤ d[k].toNat := by omega
        rcases hi with h | h | h | h | h | h | h | h | h | h
        all_goals
          first | have e32 : ((d[k].toNat : Int) == 32) = true := by (rw [beq_iff_eq]; omega) | have e32 : ((d[k].toNat : Int) == 32) = false := by (rw [beq_eq_false_iff_ne]; omega)
          first | have e45 : ((d[k].toNat : Int) == 45) = true := by (rw [beq_iff_eq]; omega) | have e45 : ((d[k].toNat : Int) == 45) = false := by (rw [beq_eq_false_iff_ne]; omega)
          first | have e46 : ((d[k].toNat : Int) == 46) = true := by (rw [beq_iff_eq]; omega) | have e46 : ((d[k].toNat : Int) == 46) = false := by (rw [beq_eq_false_iff_ne]; omega)
          first | have e47 : ((d[k].toNat : Int) == 47) = true := by (rw [beq_iff_eq]; omega) | have e47 : ((d[k].toNat : Int) == 47) = false := by (rw [beq_eq_false_iff_ne]; omega)
          first | have e40 : ((d[k].toNat : Int) == 40) = true := by (rw [beq_iff_eq]; omega) | have e40 : ((d[k].toNat : Int) == 40) = false := by (rw [beq_eq_false_iff_ne]; omega)
          first | have e41 : ((d[k].toNat : Int) == 41) = true := by (rw [beq_iff_eq]; omega) | have e41 : ((d[k].toNat : Int) == 41) = false := by (rw [beq_eq_false_iff_ne]; omega)
          first
            | (have hp : Hen.telKeep d[k] = false := by simp [Hen.telKeep]; omega
               rw [hp] at HF
               clear hp
               go_wp2
               go_roundw
               case rel => exact ⟨k + 1, A, c, by omega, by go_num, by rw [HF.out]; simp, by rw [HF.out]; simpa using hown, hbr⟩
               case measure => simp [intOf]; omega)
            | (have hp : Hen.telKeep d[k] = true := by simp [Hen.telKeep]; omega
               rw [hp] at HF
               clear hp
               go_wp2_with (at_builtin; refine wp_append_byte rfl _ _ rfl w.heap.size d[k] hown rfl rfl hbr hbr.size (by omega) ?_; intro A1 c1 w2 hown1 hb1)
               go_roundw
               case rel => exact ⟨k + 1, A1, c1, by omega, by go_num, by rw [HF.out]; simp, by rw [HF.out]; exact hown1, hb1⟩
               case measure => simp [intOf]; omega)
      · obtain rfl : k = d.size := by omega
        rw [show d.data.toList.take d.size = d.data.toList from List.take_of_length_le (by simp)] at hown hll ⊢
        generalize hfl : d.data.toList.filter Hen.telKeep = o at hown hll HT ⊢
        have hcv := hown.text
        have cI := tel_is_calls ⟨o.toArray⟩ wr (by simp [maxLen, ByteArray.size]; omega)
        rw [mk_toList] at cI
        have CI := Lib.hid cI
        clear cI hown hfl
        cases hr : Hen.rowB o with
        | true =>
          rw [hr] at HT CI
          clear hr
          go_wp2_with (go_at_call 141; refine CI.out.mono ?_; rintro e w3 ⟨rfl, rfl⟩)
          go_ret2
          exact ⟨by rw [HT.out]; rfl, hbr⟩
        | false =>
          rw [hr] at HT CI
          clear hr
          go_wp2_with (go_at_call 141; refine CI.out.mono ?_; rintro e w3 ⟨rfl, rfl⟩)
          go_ret2
          exact ⟨by rw [HT.out]; rfl, hbr⟩
  · rw [if_neg he] at hT
    have b0 : (ce != 0) = true := by rw [bne_iff_ne]; exact he
    have HT := Lib.hid hT
    clear hT hlen he
    go_enter Tryz.func128, Tryz.ntmps128
    go_wp2_with (go_at_call 130; refine CC.out.mono ?_; rintro e w1 ⟨rfl, hb⟩)
    go_ret2
    exact ⟨by rw [HT.out]; rfl, hb⟩
end Go.Proofs.YtcmoidldalgljaaGreatDoor
set_option linter.unusedVariables false
set_option linter.unusedSimpArgs false
namespace Go.Proofs.YtcmoidldalgljaaGreatDoor
open Go.RowKit

/-- The labels of a domain. -/
def Hen.labels (b : List UInt8) : List ByteArray := Lib.splitB ⟨#[46]⟩ 0 (Lib.countB ⟨b.toArray⟩ ⟨#[46]⟩) ⟨b.toArray⟩
def Hen.domainB (b : List UInt8) : Bool := decide (2 ≤ (labels b).length) && (labels b).all fun x => labelB x.data.toList
def Hen.partsS (l : List UInt8) : List UInt8 × List UInt8 × Bool :=
  if l.length ≤ 64 && (Lib.cut l [64]).2.2 && localB (Lib.cut l [64]).1 && domainB (Lib.cut l [64]).2.1 then ((Lib.cut l [64]).1, (Lib.cut l [64]).2.1, true) else ([], [], false)
def Hen.mailB (l : List UInt8) : Bool := (partsS l).2.2

theorem cut_len (l s : List UInt8) : (Lib.cut l s).1.length ≤ l.length ∧ (Lib.cut l s).2.1.length ≤ l.length := by
  unfold Lib.cut
  split <;> simp
  omega
theorem splitB_small (sep : ByteArray) (save : Nat) : ∀ (k : Nat) (s : ByteArray), ∀ x ∈ Lib.splitB sep save k s, x.size ≤ s.size
  | 0, s => by simp [Lib.splitB]
  | k + 1, s => by
    unfold Lib.splitB
    split
    · simp
    · intro x hx
      rcases List.mem_cons.1 hx with rfl | hx
      · rw [ByteArray.size_extract]; omega
      · have := splitB_small sep save k _ x hx
        rw [ByteArray.size_extract] at this
        omega
theorem mk_size (l : List UInt8) : (⟨l.toArray⟩ : ByteArray).size = l.length := by simp [ByteArray.size]
theorem labels_len (b : List UInt8) : (Hen.labels b).length = Lib.countB ⟨b.toArray⟩ ⟨#[46]⟩ + 1 := Lib.splitB_all _ (by decide) _ _ _ rfl

theorem parts_no {l : List UInt8} (h : (decide (l.length ≤ 64) && (Lib.cut l [64]).2.2 && Hen.localB (Lib.cut l [64]).1 && Hen.domainB (Lib.cut l [64]).2.1) = false) : Hen.partsS l = ([], [], false) := by
  unfold Hen.partsS; rw [h]; rfl
theorem parts_yes {l : List UInt8} (h : (decide (l.length ≤ 64) && (Lib.cut l [64]).2.2 && Hen.localB (Lib.cut l [64]).1 && Hen.domainB (Lib.cut l [64]).2.1) = true) : Hen.partsS l = ((Lib.cut l [64]).1, (Lib.cut l [64]).2.1, true) := by
  unfold Hen.partsS; rw [h]; rfl

/-- What Parts hands back. -/
def PartsPost (l : List UInt8) (w : World) (e : Ending) (w' : World) : Prop := e = .returned (.tuple #[.string ⟨(Hen.partsS l).1.toArray⟩, .string ⟨(Hen.partsS l).2.1.toArray⟩, .bool (Hen.partsS l).2.2]) ∧ Below w.heap.size w w'

set_option maxHeartbeats 4000000 in
theorem parts_calls (s : ByteArray) (w : World) (hs : s.size ≤ maxLen) (hG : GL w) : Calls Tryz.prog 168 #[.string s] w (PartsPost s.data.toList w) := by
  unfold maxLen at hs
  have hl : s.data.toList.length = s.size := by simp
  rcases Nat.lt_or_ge 64 s.size with h64 | h64
  · have b0 : (64 : Int) < s.size := by omega
    have HN := Lib.hid (parts_no (l := s.data.toList) (by rw [hl, decide_eq_false (by omega)]; rfl))
    clear hl hG
    go_enter Tryz.func168, Tryz.ntmps168
    go_wp2
    go_ret3
    exact ⟨by rw [HN.out]; rfl, Below.refl _ _⟩
  have b0 : (s.size : Int) ≤ 64 := by omega
  obtain ⟨m, hm⟩ := hG.maxLen
  have cCut := Tryz.strings_Cut s ⟨#[64]⟩ m w (by omega) hm
  have hN := @parts_no s.data.toList
  have hY := @parts_yes s.data.toList
  have hcl := cut_len s.data.toList [64]
  rw [show (⟨#[64]⟩ : ByteArray).data.toList = [64] from rfl] at cCut
  rw [hl] at hN hY hcl
  rw [decide_eq_true h64] at hN hY
  have HPP := Lib.hid (show ∀ e w', (e = .returned (.tuple #[.string ⟨(Hen.partsS s.data.toList).1.toArray⟩, .string ⟨(Hen.partsS s.data.toList).2.1.toArray⟩, .bool (Hen.partsS s.data.toList).2.2]) ∧ Below w.heap.size w w') → PartsPost s.data.toList w e w' from fun _ _ h => h)
  generalize Hen.partsS s.data.toList = R at hN hY HPP
  generalize Lib.cut s.data.toList [64] = C at cCut hN hY hcl
  obtain ⟨a, b, ok⟩ := C
  simp only [Bool.true_and] at cCut hN hY hcl
  have CC := Lib.hid cCut
  have HM := Lib.hid hm
  have HG := Lib.hid hG
  clear cCut hl hm hG
  cases ok with
  | false =>
    obtain rfl := hN (by simp)
    clear hN hY
    go_enter Tryz.func168, Tryz.ntmps168
    go_wp2_with (go_at_call 95; refine CC.out.mono ?_; rintro e w1 ⟨rfl, nd, rfl⟩)
    go_ret3
    exact HPP.out _ _ ⟨rfl, below_drawn (Below.refl _ _) _⟩
  | true =>
    obtain ⟨hla, hlb⟩ := hcl
    have cL := fun n => local_calls ⟨a.toArray⟩ (w.drewN n) (by rw [mk_size]; omega) (HG.out.below (below_drawn (Below.refl _ _) n))
    have cS := fun n => Tryz.strings_Split ⟨b.toArray⟩ ⟨#[46]⟩ m (w.drewN n) (by rw [mk_size]; omega) HM.out (by decide)
    have hsm := splitB_small ⟨#[46]⟩ 0 (Lib.countB ⟨b.toArray⟩ ⟨#[46]⟩) ⟨b.toArray⟩
    have hln := labels_len b
    have hD : Hen.domainB b = (decide (2 ≤ (Hen.labels b).length) && (Hen.labels b).all fun x => Hen.labelB x.data.toList) := rfl
    have hbs : (⟨b.toArray⟩ : ByteArray).size ≤ s.size := by rw [mk_size]; exact hlb
    rw [mk_toList] at cL
    change ∀ x ∈ Hen.labels b, _ at hsm
    change ∀ n, Calls Tryz.prog 184 _ _ (fun e w' => e = .returned (.slice _ _ _) ∧ w' = (w.drewN n).alloc (.cells ((Hen.labels b).map Value.string).toArray 9)) at cS
    rw [← hln] at cS
    generalize Hen.domainB b = D at hD hN hY
    generalize Hen.labels b = ls at cS hsm hln hD
    have CL := Lib.hid cL
    have CS := Lib.hid cS
    clear cL cS
    cases hlo : Hen.localB a with
    | false =>
      rw [hlo] at hN CL
      obtain rfl := hN (by simp)
      clear hN hY hlo hln hD
      go_enter Tryz.func168, Tryz.ntmps168
      go_wp2_with (first | (go_at_call 95; refine CC.out.mono ?_; rintro e w1 ⟨rfl, nd, rfl⟩) | (go_at_call 183; refine (CL.out _).mono ?_; rintro e w1 ⟨rfl, rfl⟩))
      go_ret3
      exact HPP.out _ _ ⟨rfl, below_drawn (Below.refl _ _) _⟩
    | true =>
      rw [hlo] at hN hY CL
      simp only [Bool.true_and, Bool.and_true] at hN hY
      have HN := Lib.hid hN
      have HY := Lib.hid hY
      have HD := Lib.hid hD
      have HLN := Lib.hid hln
      have hpos : 0 < ls.length := by omega
      have hmx : ls.length ≤ 9223372036854775807 := by
        have := Lib.countB_le ⟨#[46]⟩ (by decide) (⟨b.toArray⟩ : ByteArray).size ⟨b.toArray⟩ (Nat.le_refl _)
        omega
      clear hN hY hlo hD hln
      go_enter Tryz.func168, Tryz.ntmps168
      go_wp2_with (first | (go_at_call 95; refine CC.out.mono ?_; rintro e w1 ⟨rfl, nd, rfl⟩) | (go_at_call 183; refine (CL.out _).mono ?_; rintro e w1 ⟨rfl, rfl⟩) | (go_at_call 184; refine (CS.out _).mono ?_; rintro e w1 ⟨rfl, rfl⟩))
      have hcells : ∀ j (h : j < ls.length), (((w.drewN nd).alloc (.cells ((ls.map Value.string).toArray) 9))).cell? ⟨w.heap.size, j, none⟩ = some (.string ls[j]) := fun j h => by
        refine (World.cell?_alloc_new (w := w.drewN nd) ((ls.map Value.string).toArray) 9 j).trans ?_
        simp [List.getElem?_eq_getElem h]
      have hbel : Below w.heap.size w ((w.drewN nd).alloc (.cells ((ls.map Value.string).toArray) 9)) := (below_drawn (Below.refl _ _) nd).alloc (Nat.le_refl _) _
      have HCE := Lib.hid hcells
      have HBE := Lib.hid hbel
      clear hcells hbel CC CL CS HM HG
      rcases Nat.lt_or_ge ls.length 2 with h2 | h2
      · have c0 : (ls.length : Int) < 2 := by omega
        have c1 : (0 : Int) < ls.length := by omega
        have hc0 := HCE.out 0 hpos
        obtain rfl := HN.out (by rw [HD.out, decide_eq_false (by omega)]; rfl)
        refine wp_loop_rounds 1 ?_
        rw [rounds_succ]
        go_wp2
        go_ret3
        exact HPP.out _ _ ⟨rfl, HBE.out⟩
      · have c0 : (2 : Int) ≤ ls.length := by omega
        have HD2 : Hid (D = ls.all fun x => Hen.labelB x.data.toList) := by unfold Hid; rw [HD.out, decide_eq_true h2]; rfl
        generalize hp : (fun x : ByteArray => Hen.labelB x.data.toList) = p at HD2
        have HP := Lib.hid hp
        clear hp
        go_loop [2, 3, 28] (fun x y c => x = .string ⟨a.toArray⟩ ∧ y = .string ⟨b.toArray⟩ ∧ ∃ k : Nat, k ≤ ls.length ∧ c = .int .i64 k ∧ Hid ((ls.take k).all p = true)) (fun _ _ c => ls.length - (intOf c).toNat)
        case atStart => exact ⟨rfl, rfl, 0, Nat.zero_le _, rfl, rfl⟩
        case round =>
          obtain ⟨rfl, rfl, k, hk, rfl, HK⟩ := hrel
          by_cases hlt : k < ls.length
          · have hc0 := HCE.out k hlt
            have cB := label_calls ls[k] ((w.drewN nd).alloc (.cells ((ls.map Value.string).toArray) 9)) (by have := hsm ls[k] (List.getElem_mem _); unfold maxLen; omega)
            have HT := Lib.hid (show (ls.take (k + 1)).all p = ((ls.take k).all p && p ls[k]) by rw [List.take_succ_eq_append_getElem hlt, List.all_append]; simp)
            have hpk : p ls[k] = Hen.labelB ls[k].data.toList := by rw [← HP.out]
            rw [← hpk] at cB
            have CB := Lib.hid cB
            clear cB hpk hsm
            cases hv : p ls[k] with
            | true =>
              have HV := Lib.hid hv
              rw [hv] at CB
              clear hv
              go_wp2_with (go_at_call 185; refine CB.out.mono ?_; rintro e w1 ⟨rfl, hw1⟩; subst hw1)
              go_round
              case rel => exact ⟨rfl, rfl, k + 1, by omega, by go_num, by unfold Hid; rw [HT.out, HK.out, HV.out]; rfl⟩
              case measure => simp [intOf]; omega
            | false =>
              have HV := Lib.hid hv
              rw [hv] at CB
              clear hv
              obtain rfl := HN.out (by
                rw [HD2.out, List.all_eq_false]
                exact ⟨ls[k], List.getElem_mem _, by rw [HV.out]; simp⟩)
              go_wp2_with (go_at_call 185; refine CB.out.mono ?_; rintro e w1 ⟨rfl, hw1⟩; subst hw1)
              go_ret3
              exact HPP.out _ _ ⟨rfl, HBE.out⟩
          · obtain rfl : k = ls.length := by omega
            obtain rfl := HY.out (by rw [HD2.out, ← HK.out, List.take_length])
            go_wp2
            go_ret3
            exact HPP.out _ _ ⟨rfl, HBE.out⟩

theorem mail_is_calls (s : ByteArray) (w : World) (hs : s.size ≤ maxLen) (hG : GL w) : Calls Tryz.prog 144 #[.string s] w fun e w' => e = .returned (.bool (Hen.mailB s.data.toList)) ∧ Below w.heap.size w w' := by
  have cP := parts_calls s w hs hG
  unfold PartsPost at cP
  rw [show Hen.mailB s.data.toList = (Hen.partsS s.data.toList).2.2 from rfl]
  generalize Hen.partsS s.data.toList = R at cP ⊢
  have CP := Lib.hid cP
  clear cP hG hs
  go_enter Tryz.func144, Tryz.ntmps144
  go_wp2_with (go_at_call 168; refine CP.out.mono ?_; rintro e w1 ⟨rfl, hb⟩)
  go_ret
  exact ⟨rfl, hb⟩

/-! ### mail.Canon -/
def Hen.atP (c : List UInt8) : Nat := (Lib.lastIndexByte ⟨c.toArray⟩ 64 + 1).toNat
def Hen.domFold (c : List UInt8) : List UInt8 := c.take (atP c) ++ foldS (c.drop (atP c))
def Hen.mailCanonS (l : List UInt8) : List UInt8 × Int :=
  if (cleanS l).2 = 0 then (if mailB (domFold (cleanS l).1) then (domFold (cleanS l).1, 0) else ([], 1)) else ([], (cleanS l).2)
theorem atP_le (c : List UInt8) : Lib.lastIndexByte ⟨c.toArray⟩ 64 + 1 = Hen.atP c ∧ Hen.atP c ≤ c.length := by
  unfold Hen.atP
  rcases Lib.lastIndexByte_spec ⟨c.toArray⟩ 64 with ⟨e, _⟩ | ⟨i, hi, e, _⟩
  · rw [e]; exact ⟨rfl, Nat.zero_le _⟩
  · rw [mk_size] at hi
    rw [e]; omega

set_option maxHeartbeats 4000000 in
theorem mail_canon_calls (s : ByteArray) (w : World) (hs : s.size ≤ 140737488355327) (hG : GL w) :
    Calls Tryz.prog 129 #[.string s] w fun e w' => e = .returned (.tuple #[.string ⟨(Hen.mailCanonS s.data.toList).1.toArray⟩, .int .i64 (Hen.mailCanonS s.data.toList).2]) ∧ Below w.heap.size w w' := by
  have cC := clean_calls s w hs hG
  have hlen := cleanS_len s.data.toList
  have hT : Hen.mailCanonS s.data.toList = (if (Hen.cleanS s.data.toList).2 = 0 then (if Hen.mailB (Hen.domFold (Hen.cleanS s.data.toList).1) then (Hen.domFold (Hen.cleanS s.data.toList).1, 0) else ([], 1)) else ([], (Hen.cleanS s.data.toList).2)) := rfl
  generalize Hen.mailCanonS s.data.toList = T at hT ⊢
  generalize Hen.cleanS s.data.toList = C at cC hT hlen
  obtain ⟨cl, ce⟩ := C
  simp only at cC hT hlen
  have HG := Lib.hid hG
  clear hs hG
  have CC := Lib.hid cC
  clear cC
  by_cases he : ce = 0
  · subst he
    rw [if_pos rfl] at hT
    obtain ⟨d, hd⟩ : ∃ d : ByteArray, d = ⟨cl.toArray⟩ := ⟨_, rfl⟩
    obtain rfl : cl = d.data.toList := by rw [hd]
    rw [mk_of] at CC
    clear hd
    have hdl : d.size ≤ 64 := by simpa using hlen
    obtain ⟨ha1, ha2⟩ := atP_le d.data.toList
    rw [mk_of] at ha1
    have cLI := fun W => Tryz.strings_LastIndexByte d 64 (by omega) W
    have b0 : ((0 : Int) != 0) = false := rfl
    have b1 : Hen.atP d.data.toList ≤ d.size := by simpa using ha2
    generalize hat : Hen.atP d.data.toList = at_ at ha1 b1
    generalize Lib.lastIndexByte d 64 = li at cLI ha1
    obtain rfl : li = (at_ : Int) - 1 := by omega
    have hfs : (d.extract at_ d.size).size ≤ maxLen := by rw [ByteArray.size_extract]; unfold maxLen; omega
    have cF := fun W => fold_calls (d.extract at_ d.size) W hfs
    obtain ⟨F, hF⟩ : ∃ F : ByteArray, F = ⟨(Hen.foldS (d.extract at_ d.size).data.toList).toArray⟩ := ⟨_, rfl⟩
    rw [← hF] at cF
    have hFs : F.size = d.size - at_ := by rw [hF, mk_size]; unfold Hen.foldS; rw [List.length_map, Array.length_toList]; show (d.extract at_ d.size).size = _; rw [ByteArray.size_extract]; omega
    have hadd := fun W => run_string_add_sum (P := Tryz.prog) W (d.extract 0 at_) F (by rw [ByteArray.size_extract]; omega)
    have hcat : d.extract 0 at_ ++ F = ⟨(Hen.domFold d.data.toList).toArray⟩ := by
      have e1 : d.extract 0 at_ = ⟨(d.data.toList.take at_).toArray⟩ := by rw [← mk_of (d.extract 0 at_), Lib.extract_from_zero]
      have e2 : (d.extract at_ d.size).data.toList = d.data.toList.drop at_ := Lib.extract_to_end d at_
      unfold Hen.domFold
      rw [hat, hF, e1, e2, ByteArray.mk_append_mk]
    rw [hcat] at hadd
    have cI := fun W (hW : GL W) => mail_is_calls ⟨(Hen.domFold d.data.toList).toArray⟩ W (by rw [← hcat, ByteArray.size_append, ByteArray.size_extract]; unfold maxLen; omega) hW
    rw [mk_toList] at cI
    generalize Hen.domFold d.data.toList = D at hadd cI hT
    have CI := Lib.hid cI
    have CF := Lib.hid cF
    have CLI := Lib.hid cLI
    have HAT := Lib.hid hat
    have HT := Lib.hid hT
    have b2 : ((at_ : Nat) : Int) ≤ 64 := by omega
    have b4 : ((at_ : Nat) : Int) ≤ (d.size : Int) := by omega
    have b5 : (0 : Int) ≤ ((at_ : Nat) : Int) := by omega
    clear hT hlen cLI ha1 ha2 hat cF hfs hF hFs hcat cI
    go_enter Tryz.func129, Tryz.ntmps129
    go_wp2_with (first | (go_at_call 130; refine CC.out.mono ?_; rintro e w1 ⟨rfl, hb⟩) | (go_at_call 142; refine (CLI.out _).mono ?_; rintro e w2 ⟨rfl, hw2⟩; subst hw2))
    go_region_with (go_at_call 143; refine (CF.out _).mono ?_; rintro e w3 ⟨rfl, hb3⟩)
    all_goals
      have hb4 : Below w.heap.size w w3 := hb.trans (Below.mono (B := w2.heap.size) ⟨hb3.os, hb3.tape, hb3.output, hb3.size, hb3.block⟩ hb.size)
      clear hb3 hb
      cases hm : Hen.mailB D with
      | true =>
        rw [hm] at CI HT
        go_wp2_with (go_at_call 144; refine (CI.out _ ?_).mono ?_; exact HG.out.below hb4; rintro e w4 ⟨rfl, hb5⟩)
        go_ret2
        exact ⟨by rw [HT.out]; rfl, below_step hb4 hb4.size hb5⟩
      | false =>
        rw [hm] at CI HT
        go_wp2_with (go_at_call 144; refine (CI.out _ ?_).mono ?_; exact HG.out.below hb4; rintro e w4 ⟨rfl, hb5⟩)
        go_ret2
        exact ⟨by rw [HT.out]; rfl, below_step hb4 hb4.size hb5⟩
  · rw [if_neg he] at hT
    have b0 : (ce != 0) = true := by rw [bne_iff_ne]; exact he
    have HT := Lib.hid hT
    clear hT hlen he
    go_enter Tryz.func129, Tryz.ntmps129
    go_wp2_with (go_at_call 130; refine CC.out.mono ?_; rintro e w1 ⟨rfl, hb⟩)
    go_ret2
    exact ⟨by rw [HT.out]; rfl, hb⟩
end Go.Proofs.YtcmoidldalgljaaGreatDoor

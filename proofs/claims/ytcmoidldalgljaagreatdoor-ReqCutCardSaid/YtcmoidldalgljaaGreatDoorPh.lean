/-
  Contract: card.Canon.
-/
import Derived.Test.YtcmoidldalgljaaGreatDoorPg
set_option linter.unusedVariables false
set_option linter.unusedSimpArgs false
namespace Go.Proofs.YtcmoidldalgljaaGreatDoor
open Go.RowKit Go.Lib
open Hen

namespace Hen
def canF (f : Fld) : Fld := ⟨f.k, f.l, ⟨(fieldC f.k f.v.data.toList).1.toArray⟩⟩
def canE (f : Fld) : Int := fieldE f.k f.l f.v.data.toList
def firstE : List Fld → Int
  | [] => 0
  | f :: l => if canE f = 0 then firstE l else canE f
def outS (fs : List Fld) : List Fld := sortD (fs.map canF)
def count (k : Int) (fs : List Fld) : Nat := (fs.filter fun f => f.k == k).length
def cardE (fs : List Fld) : Int :=
  if firstE fs ≠ 0 then firstE fs else if 12 < (outS fs).length then 2
  else if count 1 (outS fs) ≠ 1 ∨ 1 < count 2 (outS fs) ∨ 1 < count 5 (outS fs) then 1 else if 900 < (textS (outS fs)).length then 2 else 0
end Hen

theorem fieldC_len (k : Int) (v : List UInt8) : (fieldC k v).1.length ≤ 64 := by
  unfold fieldC
  split
  · unfold telCanonS
    split
    · split
      · exact Nat.le_trans (List.length_filter_le _ _) (cleanS_len v)
      · simp
    · simp
  · split
    · unfold mailCanonS
      split
      · split
        · have := cleanS_len v
          unfold domFold foldS
          simp
          omega
        · simp
      · simp
    · exact cleanS_len v
theorem firstE_snoc (fs : List Fld) (k : Nat) (h : k < fs.length) (h0 : firstE (fs.take k) = 0) : firstE (fs.take (k + 1)) = canE fs[k]! := by
  induction fs generalizing k with
  | nil => simp at h
  | cons f l ih =>
    cases k with
    | zero => simp [firstE]; intro h; exact h.symm
    | succ k =>
      simp only [List.take_succ_cons, firstE] at h0 ⊢
      by_cases hf : canE f = 0
      · rw [if_pos hf] at h0 ⊢
        rw [ih k (by simpa using h) h0]
        simp
      · rw [if_neg hf] at h0; exact absurd h0 hf
theorem firstE_cut (fs : List Fld) (k : Nat) (h : k ≤ fs.length) (h0 : firstE (fs.take k) ≠ 0) : firstE fs = firstE (fs.take k) := by
  induction fs generalizing k with
  | nil => simp
  | cons f l ih =>
    cases k with
    | zero => simp [firstE] at h0
    | succ k =>
      simp only [List.take_succ_cons, firstE] at h0 ⊢
      by_cases hf : canE f = 0
      · rw [if_pos hf] at h0 ⊢
        rw [if_pos hf]
        exact ih k (by simpa using h) h0
      · rw [if_neg hf, if_neg hf]
theorem cardE_first (fs : List Fld) (k : Nat) (h : k < fs.length) (h0 : firstE (fs.take k) = 0) (h1 : canE fs[k]! ≠ 0) : cardE fs = canE fs[k]! := by
  have e := firstE_snoc fs k h h0
  have e2 := firstE_cut fs (k + 1) (by omega) (by rw [e]; exact h1)
  unfold cardE
  rw [e2, e, if_pos h1]
theorem fieldE_kind {k l : Int} {v : List UInt8} (h : fieldE k l v = 0) : 1 ≤ k ∧ k ≤ 6 := by
  unfold fieldE at h
  by_cases hk : kindS k = []
  · rw [if_pos (.inr hk)] at h; cases h
  · unfold kindS at hk
    split at hk
    all_goals first | omega | (exact absurd rfl hk) | skip
    all_goals (repeat' split at hk)
    all_goals first | omega | (exact absurd rfl hk) | skip
theorem firstE_all {fs : List Fld} (h : firstE fs = 0) : ∀ f ∈ fs, canE f = 0 := by
  induction fs with
  | nil => simp
  | cons f l ih =>
    intro g hg
    unfold firstE at h
    by_cases hf : canE f = 0
    · rw [if_pos hf] at h
      rcases List.mem_cons.1 hg with rfl | hg
      · exact hf
      · exact ih h g hg
    · rw [if_neg hf] at h; exact absurd h hf
theorem outS_mem {fs : List Fld} (h : firstE fs = 0) : ∀ f ∈ outS fs, (1 ≤ f.k ∧ f.k ≤ 6) ∧ f.v.size ≤ 64 := by
  intro f hf
  unfold outS at hf
  rw [mem_sortD, List.mem_map] at hf
  obtain ⟨g, hg, rfl⟩ := hf
  refine ⟨fieldE_kind (firstE_all h g hg), ?_⟩
  show (⟨_⟩ : ByteArray).size ≤ 64
  rw [mk_size]
  exact fieldC_len _ _
theorem lineS_len (k l : Int) (v : List UInt8) : (lineS k l v).length ≤ v.length + 10 := by
  have hk : (Hen.kindS k).length ≤ 4 := by unfold Hen.kindS; (repeat' split); all_goals simp
  have hl : (Hen.labelS k l).1.length ≤ 5 := by unfold Hen.labelS; (repeat' split); all_goals simp
  unfold lineS
  split
  · simp; omega
  · simp
theorem textS_len (fs : List Fld) (h : ∀ f ∈ fs, f.v.size ≤ 64) : (textS fs).length ≤ fs.length * 75 := by
  induction fs with
  | nil => simp [textS]
  | cons f l ih =>
    have h1 := ih fun g hg => h g (by simp [hg])
    have h2 : f.v.size ≤ 64 := h f (by simp)
    have h3 := lineS_len f.k f.l f.v.data.toList
    have e : textS (f :: l) = lineF f ++ textS l := rfl
    rw [e, List.length_append]
    unfold lineF
    have h4 : f.v.data.toList.length = f.v.size := by simp
    simp only [List.length_append, List.length_cons, List.length_nil]
    omega

theorem infoFld : (Tryz.prog.info? 129).map (fun i => (i.zero, i.size, i.bytes)) = some (some (.agg #[.int .i64 0, .int .i64 0, .string ⟨#[]⟩]), 3, 32) := by kernel_rfl
section
variable {ops : Array Oper} {rest : List Oper} {o : Oper} {a : Act} {Q : Exit → Act → World → Prop}
theorem wp_append_fld {w0 W : World} (hgd : o.guard = none) (s x : Operand) (ho : o.op = .call { callee := .builtin .append, args := #[s, x], argTypes := #[121, 121] })
    (B : Nat) {v : Value} {l : List Fld} (y : Fld) {n : Nat} (HO : FRow W B v l) (hs : a.eval s = v) (hx : a.eval x = .slice (some ⟨n, 0, none⟩) 1 1) (hn : n = W.heap.size)
    (hb : Below B w0 W) (hB : B ≤ W.heap.size) (hl : l.length + 1 ≤ 4294967296)
    (h : ∀ A c w1, FRow w1 B (.slice A (l ++ [y]).length c) (l ++ [y]) → Below B w0 w1 → wpList Tryz.prog ops Q rest (a.put o.dst (.slice A (l ++ [y]).length c)) w1) :
    wpList Tryz.prog ops Q (o :: rest) a (W.alloc (.cells #[.int .i64 y.k, .int .i64 y.l, .string y.v] 129)) := by
  subst hn
  obtain ⟨i0, hi, hz0, hz1, hz2⟩ := info_parts infoFld
  refine wpList_append_own_at (W.alloc (.cells #[.int .i64 y.k, .int .i64 y.l, .string y.v] 129)) hgd s x _ ho B _ i0 (.agg #[.int .i64 0, .int .i64 0, .string ⟨#[]⟩]) 3 32 Tryz.underlying121 hi hz0 hz1 hz2 rfl (by decide) v l.length (cellsF l) hs (World.ownsRow.alloc HO _) ⟨W.heap.size, 0, none⟩ 1 1 y.cells hx rfl
    (World.news_of_block (cs := #[.int .i64 y.k, .int .i64 y.l, .string y.v]) (t := 129) (fr := (0, 0)) (heap_alloc_new W _)) (cells1 y) (by simp only [maxLen]; omega) (by omega) (by simp; omega) ?_
  intro v1 w1 hown hg _ hat
  have hr : FRow w1 B v1 (l ++ [y]) := by unfold FRow; simpa [cellsF] using hown
  obtain ⟨A, c, rfl⟩ := hr.shape
  exact h A c w1 hr ((hb.alloc hB _).grown hg (by simp; omega) (fun k hk => HO.base k hk))
end

def cnts (l : List Fld) : List Value := (List.range 7).map fun j => Value.int .i64 ((count (j : Nat) l : Nat) : Int)
theorem count_le (c : Int) (l : List Fld) : count c l ≤ l.length := List.length_filter_le _ _
theorem count_snoc (l : List Fld) (k : Nat) (h : k < l.length) (c : Int) : count c (l.take (k + 1)) = count c (l.take k) + if l[k]!.k = c then 1 else 0 := by
  unfold Hen.count
  rw [List.take_succ_eq_append_getElem h, List.filter_append, List.length_append, getElem!_pos l k h]
  congr 1
  by_cases e : l[k].k = c
  · simp [e]
  · simp [e]
theorem cnts_snoc (l : List Fld) (k j : Nat) (h : k < l.length) (hj : l[k]!.k = (j : Int)) : (cnts (l.take k)).set j (.int .i64 ((count (j : Nat) (l.take k) : Nat) + 1 : Int)) = cnts (l.take (k + 1)) := by
  unfold cnts
  apply List.ext_getElem?
  intro i
  rw [List.getElem?_set, List.getElem?_map, List.getElem?_map]
  by_cases hi : i < 7
  · rw [List.getElem?_range hi]
    simp only [Option.map_some]
    rw [count_snoc l k h, hj]
    by_cases e : j = i
    · subst e
      simp [hi]
    · rw [if_neg e, if_neg (by omega)]; simp
  · rw [List.getElem?_eq_none (by simp; omega)]
    simp
    intro e; subst e; omega
theorem cnts_at (l : List Fld) (j : Nat) (hj : j < 7) : (cnts l)[j]? = some (.int .i64 ((count (j : Nat) l : Nat) : Int)) := by
  unfold cnts
  rw [List.getElem?_map, List.getElem?_range hj]; rfl

def CanonPost (fs : List Fld) (w : World) (e : Ending) (w' : World) : Prop :=
  ∃ v', e = .returned (.tuple #[v', .int .i64 (cardE fs)]) ∧ (cardE fs = 0 → FRow w' w.heap.size v' (outS fs)) ∧ Below w.heap.size w w'
theorem CanonPost.bad (fs : List Fld) (w w' : World) (v' : Value) {n : Int} (hn : cardE fs = n) (h0 : n ≠ 0) (hb : Below w.heap.size w w') : CanonPost fs w (.returned (.tuple #[v', .int .i64 n])) w' :=
  ⟨v', by rw [hn], fun h => absurd (hn.symm.trans h) h0, hb⟩

set_option maxHeartbeats 8000000 in
set_option maxRecDepth 100000 in
theorem ccanon_calls (B : Nat) (v : Value) (fs : List Fld) (w : World) (h : FRow w B v fs) (hG : GL w) (hn : fs.length ≤ 65536) (hv : ∀ k, k < fs.length → fs[k]!.v.size ≤ 140737488355327) :
    Calls Tryz.prog 106 #[v] w (CanonPost fs w) := by
  obtain ⟨A, c, rfl⟩ := h.shape
  have H := Lib.hid h
  have HG := Lib.hid hG
  have HV := Lib.hid hv
  clear h hG hv
  go_enter Tryz.func106, Tryz.ntmps106
  go_wp2
  go_loopw [4, 14] (fun o i wr => ∃ (k : Nat) (A' : Option Addr) (c' : Nat), k ≤ fs.length ∧ i = .int .i64 k ∧ o = .slice A' k c' ∧ FRow wr w.heap.size (.slice A' k c') ((fs.take k).map canF) ∧ Below w.heap.size w wr ∧ Hid (firstE (fs.take k) = 0)) (fun _ i _ => fs.length - (intOf i).toNat)
  case atStart => exact ⟨0, none, 0, Nat.zero_le _, rfl, rfl, FRow.nil_ _ _, Below.refl _ _, rfl⟩
  case round =>
    obtain ⟨k, A', c', hk, rfl, rfl, hO, hb, HF⟩ := hrel
    by_cases hlt : k < fs.length
    · obtain ⟨x, hx⟩ : ∃ x, fs[k]! = x := ⟨_, rfl⟩
      obtain ⟨g, cap, hsl, hBg, hgl, c0, c1, c2⟩ := (H.out.below hb).at_ k hlt x hx
      injection hsl with hA _ hcap
      subst hA hcap
      have b1 : (k : Int) < fs.length := by omega
      have HX := Lib.hid hx
      have HO := Lib.hid hO
      clear hO hx
      have hz : w.heap.size ≤ wr.heap.size := hb.size
      go_wp2_with fail
      refine (canon_calls x.k x.l x.v _ (by have := HV.out k hlt; rw [HX.out] at this; exact this) (HG.out.below (hb.alloc hb.size _))).mono ?_
      rintro e w3 ⟨rfl, hb3⟩
      by_cases hE : canE x = 0
      · have hE' : fieldE x.k x.l x.v.data.toList = 0 := hE
        have hVV : fieldV x.k x.l x.v.data.toList = .agg #[.int .i64 (canF x).k, .int .i64 (canF x).l, .string (canF x).v] := by unfold fieldV; rw [if_pos hE']; rfl
        rw [hE', hVV]
        have hz3 : wr.heap.size + 1 ≤ w3.heap.size := by have := hb3.size; simpa using this
        have hO3 := ((HO.out.below ((Below.refl _ _).alloc (Nat.le_refl _) (.cells #[.int .i64 x.k, .int .i64 x.l, .string x.v] 129))).below hb3).alloc (.cells #[.int .i64 (canF x).k, .int .i64 (canF x).l, .string (canF x).v] 129)
        have hbw3 := (below_step (hb.alloc hb.size _) (by simp; omega) hb3).alloc (by omega) (.cells #[.int .i64 (canF x).k, .int .i64 (canF x).l, .string (canF x).v] 129)
        have hmap : ((fs.take k).map canF) ++ [canF x] = (fs.take (k + 1)).map canF := by
          rw [List.take_succ_eq_append_getElem hlt, List.map_append, ← HX.out, getElem!_pos fs k hlt]; rfl
        have hle : ((fs.take k).map canF).length + 1 ≤ 4294967296 := by simp; omega
        have hl1 : (((fs.take k).map canF) ++ [canF x]).length = k + 1 := by rw [hmap]; simp; omega
        have hF1 := (firstE_snoc fs k hlt HF.out).trans ((congrArg canE HX.out).trans hE)
        have HM := Lib.hid hmap
        have HF1 := Lib.hid hF1
        have HL := Lib.hid hl1
        clear hmap hF1 hl1 hE hE' hVV
        go_wp2_with (at_builtin; go_must (refine wp_append_fld rfl _ _ rfl w.heap.size (canF x) hO3 rfl rfl (by simp) hbw3 hbw3.size hle ?_); intro A1 c1 w4 hr4 hb4)
        rw [HL.out, HM.out] at hr4
        go_round
        case rel => exact ⟨k + 1, A1, c1, by omega, by go_num, rfl, hr4, hb4, HF1.out⟩
        case measure => simp [intOf]; omega
      · have hC := cardE_first fs k hlt HF.out (by rw [HX.out]; exact hE)
        rw [HX.out] at hC
        have hVV : fieldV x.k x.l x.v.data.toList = .agg #[.int .i64 0, .int .i64 0, .string ⟨#[]⟩] := by unfold fieldV; rw [if_neg (show ¬ fieldE x.k x.l x.v.data.toList = 0 from hE)]
        rw [hVV]
        have hC' : cardE fs = fieldE x.k x.l x.v.data.toList := hC
        have hE' : fieldE x.k x.l x.v.data.toList ≠ 0 := hE
        have hbw3 := below_step (hb.alloc hb.size _) (by simp; omega) hb3
        have hz3 : wr.heap.size + 1 ≤ w3.heap.size := by have := hb3.size; simpa using this
        have hP := fun o => CanonPost.bad fs w (w3.alloc o) (.slice none 0 0) hC' hE' (hbw3.alloc (by omega) o)
        generalize fieldE x.k x.l x.v.data.toList = E at hE' hP
        have e1 : (E != 0) = true := bne_iff_ne.2 hE'
        have HP := Lib.hid hP
        clear hC hC' hE hE' hP
        go_wp2
        go_ret2
        exact HP.out _
    · obtain rfl : k = fs.length := by omega
      rw [List.take_length] at hO HF
      have hz : w.heap.size ≤ wr.heap.size := hb.size
      have hmem := outS_mem HF.out
      have hCE : cardE fs = if 12 < (outS fs).length then 2 else if count 1 (outS fs) ≠ 1 ∨ 1 < count 2 (outS fs) ∨ 1 < count 5 (outS fs) then 1 else if 900 < (textS (outS fs)).length then 2 else 0 := by
        unfold cardE; rw [if_neg (by rw [HF.out]; simp)]
      have hOS : outS fs = sortD (fs.map canF) := rfl
      have hP : ∀ (w' : World) v' n, cardE fs = n → n ≠ 0 → Below w.heap.size w w' → CanonPost fs w (.returned (.tuple #[v', .int .i64 n])) w' := fun w' v' n h1 h2 h3 => CanonPost.bad fs w w' v' h1 h2 h3
      have hQ : ∀ (w' : World) v', cardE fs = 0 → FRow w' w.heap.size v' (outS fs) → Below w.heap.size w w' → CanonPost fs w (.returned (.tuple #[v', .int .i64 0])) w' := fun w' v' h0 h1 h2 => ⟨v', by rw [h0], fun _ => h1, h2⟩
      have hsc := sort_calls w.heap.size (.slice A' fs.length c') (fs.map canF) wr hO hz (by simp; omega)
      rw [← hOS] at hsc
      generalize outS fs = L at hsc hmem hCE hP hQ
      generalize cardE fs = E at hCE hP hQ
      have HM := Lib.hid hmem
      have HCE := Lib.hid hCE
      have HP := Lib.hid hP
      have HQ := Lib.hid hQ
      clear hmem hCE hP hQ hO hOS HF
      go_wp2_with fail
      refine hsc.mono ?_
      rintro e w4 ⟨rfl, ds, hdl, hr4, hb4, hcs⟩
      have hdl' : ds.length ≤ 9223372036854775807 := by rw [hdl]; simp; omega
      have hz4 : wr.heap.size ≤ w4.heap.size := hb4.size
      clear hsc hdl
      have hcc := compact_calls w.heap.size _ ds w4 hr4 (by omega) hdl'
      rw [hcs] at hcc
      clear hr4 hcs hdl'
      go_wp2_with fail
      refine hcc.mono ?_
      rintro e w5 ⟨v5, rfl, hr5, hb5⟩
      clear hcc
      obtain ⟨A5, c5, rfl⟩ := hr5.shape
      have hb5' : Below w.heap.size w w5 := (hb.trans hb4).trans hb5
      have hz5 : w4.heap.size ≤ w5.heap.size := hb5.size
      have HR := Lib.hid hr5
      clear hr5 hb4 hb5 hb
      by_cases h12 : 12 < L.length
      · have b1 : (12 : Int) < L.length := by omega
        have hE := HCE.out
        rw [if_pos h12] at hE
        clear h12
        have HP' := Lib.hid (HP.out w5 (.slice none 0 0) 2 hE (by decide) hb5')
        clear hE HP HQ HCE
        go_wp2
        go_ret2
        exact HP'.out
      · have b1 : (L.length : Int) ≤ 12 := by omega
        go_wp2
        go_loopw [40] (fun i wq => ∃ k : Nat, k ≤ L.length ∧ i = .int .i64 k ∧ Box wq w5.heap.size (cnts (L.take k)) ∧ Below w5.heap.size w5 wq) (fun i _ => L.length - (intOf i).toNat)
        case atStart => exact ⟨0, Nat.zero_le _, rfl, Box.new w5 #[.int .i64 0, .int .i64 0, .int .i64 0, .int .i64 0, .int .i64 0, .int .i64 0, .int .i64 0] 145, (Below.refl _ _).alloc (Nat.le_refl _) _⟩
        case round =>
          obtain ⟨k, hk, rfl, hbox, hbq⟩ := hrel
          by_cases hlt : k < L.length
          · obtain ⟨x, hx⟩ : ∃ x, L[k]! = x := ⟨_, rfl⟩
            have hxm := (HM.out x (by rw [← hx, getElem!_pos L k hlt]; exact List.getElem_mem _)).1
            obtain ⟨g, cap, hsl, hBg, hgl, c0, c1, c2⟩ := HR.out.at_ k hlt x hx
            injection hsl with hA _ hcap
            subst hA hcap
            obtain ⟨xk, xl, xv⟩ := x
            obtain ⟨j, hj⟩ : ∃ j : Nat, xk = (j : Int) := ⟨xk.toNat, by simp only at hxm; omega⟩
            subst hj
            simp only at hxm c0 c1 c2
            have d0 := (hbq.cell (p := ⟨g, k * 3, none⟩) hgl).trans c0
            have d1 := (hbq.cell (p := ⟨g, k * 3 + 1, none⟩) hgl).trans c1
            have d2 := (hbq.cell (p := ⟨g, k * 3 + 2, none⟩) hgl).trans c2
            have b2 : (k : Int) < L.length := by omega
            have b3 : (j : Int) < 7 := by omega
            have q0 := hbox.cell j (cnts_at (L.take k) j (by omega))
            have f0 := hbox.free j (cnts_at (L.take k) j (by omega))
            have hzq := hbox.1
            have hsn := cnts_snoc L k j hlt (by rw [hx])
            have hcl := count_le (j : Int) (L.take k)
            have hjl : j < (cnts (L.take k)).length := by unfold cnts; simp; omega
            have b4 : ((count (j : Int) (L.take k) : Nat) : Int) ≤ 12 := by simp at hcl; omega
            generalize count (j : Int) (L.take k) = n at q0 hsn b4
            have HS := Lib.hid hsn
            have HB := Lib.hid hbox
            clear c0 c1 c2 hx hsn hbox hcl
            go_wp2
            go_round
            case rel =>
              refine ⟨k + 1, by omega, by go_num, ?_, ?_⟩
              · rw [← HS.out]
                exact (HB.out.set_ j hjl _).alloc _
              · exact (hbq.setCell (p := ⟨w5.heap.size, j, none⟩) (Nat.le_refl _) _).alloc (by simp; omega) _
            case measure => simp [intOf]; omega
          · obtain rfl : k = L.length := by omega
            rw [List.take_length] at hbox
            have q1 : wr.cell? ⟨w5.heap.size, 1, none⟩ = some (.int .i64 ((Hen.count 1 L : Nat) : Int)) := hbox.cell 1 (cnts_at L 1 (by omega))
            have q2 : wr.cell? ⟨w5.heap.size, 2, none⟩ = some (.int .i64 ((Hen.count 2 L : Nat) : Int)) := hbox.cell 2 (cnts_at L 2 (by omega))
            have q5 : wr.cell? ⟨w5.heap.size, 5, none⟩ = some (.int .i64 ((Hen.count 5 L : Nat) : Int)) := hbox.cell 5 (cnts_at L 5 (by omega))
            have hE := HCE.out
            rw [if_neg h12] at hE
            generalize Hen.count 1 L = n1 at q1 hE
            generalize Hen.count 2 L = n2 at q2 hE
            generalize Hen.count 5 L = n5 at q5 hE
            have hbr : Below w.heap.size w wr := below_step hb5' (by omega) hbq
            by_cases hbad : n1 ≠ 1 ∨ 1 < n2 ∨ 1 < n5
            · rw [if_pos hbad] at hE
              have HP' := Lib.hid (HP.out wr (.slice none 0 0) 1 hE (by decide) hbr)
              have hway : ((n1 : Int) != 1) = true ∨ (((n1 : Int) != 1) = false ∧ (1 : Int) < n2) ∨ (((n1 : Int) != 1) = false ∧ (n2 : Int) ≤ 1 ∧ (1 : Int) < n5) := by
                by_cases a1 : n1 = 1
                · subst a1
                  by_cases a2 : 1 < n2
                  · exact .inr (.inl ⟨rfl, by omega⟩)
                  · exact .inr (.inr ⟨rfl, by omega, by omega⟩)
                · exact .inl (by rw [bne_iff_ne]; omega)
              clear hE HP HQ HCE hbad h12 hbox
              rcases hway with a1 | ⟨a1, a2⟩ | ⟨a1, a2, a5⟩
              all_goals
                go_wp2
                go_ret2
                exact HP'.out
            · rw [if_neg hbad] at hE
              have a1 : ((n1 : Int) != 1) = false := by rw [bne_eq_false_iff_eq]; omega
              have a2 : (n2 : Int) ≤ 1 := by omega
              have a5 : (n5 : Int) ≤ 1 := by omega
              have hL : ∀ f ∈ L, f.v.size ≤ 64 := fun f hf => (HM.out f hf).2
              have htl := textS_len L hL
              have htc := text_calls w.heap.size (.slice A5 L.length c5) L wr (HR.out.below hbq) (HG.out.below hbr) (by omega) (fun k hk => by have := hL L[k]! (by rw [getElem!_pos L k hk]; exact List.getElem_mem _); omega) (by omega)
              have hts := mk_size (textS L)
              obtain ⟨X, hX⟩ : ∃ X : ByteArray, X = ⟨(textS L).toArray⟩ := ⟨_, rfl⟩
              rw [← hX] at htc hts
              clear hbad hL htl hX
              by_cases h9 : 900 < (textS L).length
              · rw [if_pos h9] at hE
                have b9 : (900 : Int) < X.size := by omega
                have HP' := Lib.hid fun w' (hb' : Below wr.heap.size wr w') => HP.out w' (.slice none 0 0) 2 hE (by decide) (below_step hbr (by have := hbr.size; omega) hb')
                clear hE HP HQ HCE h12 hbox h9 hts
                go_wp2_with fail
                refine htc.mono ?_
                rintro e w6 ⟨rfl, hb6⟩
                go_wp2
                go_ret2
                exact HP'.out _ hb6
              · rw [if_neg h9] at hE
                have b9 : (X.size : Int) ≤ 900 := by omega
                have HQ' := Lib.hid fun w' (hb' : Below wr.heap.size wr w') => HQ.out w' (.slice A5 L.length c5) hE ((HR.out.below hbq).below hb') (below_step hbr (by have := hbr.size; omega) hb')
                clear hE HP HQ HCE h12 hbox h9 hts
                go_wp2_with fail
                refine htc.mono ?_
                rintro e w6 ⟨rfl, hb6⟩
                go_wp2
                go_ret2
                exact HQ'.out _ hb6
end Go.Proofs.YtcmoidldalgljaaGreatDoor
set_option linter.unusedVariables false
set_option linter.unusedSimpArgs false
namespace Go.Proofs.YtcmoidldalgljaaGreatDoor
open Go.RowKit
open Hen

namespace Hen
def cardT (fs : List Fld) : List UInt8 := if cardE fs = 0 then textS (outS fs) else []
def fldAt (line : List UInt8) (i : Nat) : Fld := ⟨1 + (i / 4 : Nat), (i % 4 : Nat), ⟨(Lib.cut line [58]).2.1.toArray⟩⟩
def parseL : Nat → List UInt8 → Option (List Fld)
  | _, [] => some []
  | 0, _ :: _ => none
  | n + 1, c :: s =>
    if (Lib.cut (c :: s) [10]).2.2 then
      match fparseI (Lib.cut (c :: s) [10]).1 with
      | some i => (parseL n (Lib.cut (c :: s) [10]).2.1).map (fldAt (Lib.cut (c :: s) [10]).1 i :: ·)
      | none => none
    else none
def cardB (s : List UInt8) : Bool :=
  decide (s.length ≤ 900) && match parseL s.length s with
    | some fs => decide (cardE fs = 0) && (textS (outS fs) == s)
    | none => false
end Hen

theorem cardE_zero {fs : List Fld} (h : cardE fs = 0) : firstE fs = 0 ∧ (outS fs).length ≤ 12 := by
  unfold cardE at h
  by_cases h1 : firstE fs ≠ 0
  · rw [if_pos h1] at h; exact absurd h h1
  · rw [if_neg h1] at h
    refine ⟨by simpa using h1, ?_⟩
    by_cases h2 : 12 < (outS fs).length
    · rw [if_pos h2] at h; cases h
    · omega

set_option maxHeartbeats 4000000 in
set_option maxRecDepth 100000 in
theorem ctext_calls (B : Nat) (v : Value) (fs : List Fld) (w : World) (h : FRow w B v fs) (hG : GL w) (hn : fs.length ≤ 65536) (hv : ∀ k, k < fs.length → fs[k]!.v.size ≤ 140737488355327) :
    Calls Tryz.prog 97 #[v] w fun e w' => e = .returned (.tuple #[.string ⟨(cardT fs).toArray⟩, .int .i64 (cardE fs)]) ∧ Below w.heap.size w w' := by
  have hcc := ccanon_calls B v fs w h hG hn hv
  obtain ⟨A, c, rfl⟩ := h.shape
  have hT : cardT fs = if cardE fs = 0 then textS (outS fs) else [] := rfl
  have hzz : cardE fs = 0 → (∀ f ∈ outS fs, f.v.size ≤ 64) ∧ (outS fs).length ≤ 12 := fun h0 => ⟨fun f hf => (outS_mem (cardE_zero h0).1 f hf).2, (cardE_zero h0).2⟩
  unfold CanonPost at hcc
  generalize cardT fs = T at hT ⊢
  generalize cardE fs = E at hT hcc hzz ⊢
  generalize outS fs = L at hT hcc hzz
  have HG := Lib.hid hG
  clear h hG hv
  by_cases h0 : E = 0
  · subst h0
    rw [if_pos rfl] at hT
    obtain ⟨hL, hl12⟩ := hzz rfl
    have htl := textS_len L hL
    have htc := fun V w' (hr : FRow w' w.heap.size V L) (hW : GL w') => text_calls w.heap.size V L w' hr hW (by omega) (fun k hk => by have := hL L[k]! (by rw [getElem!_pos L k hk]; exact List.getElem_mem _); omega) (by omega)
    rw [← hT] at htc
    obtain ⟨X, hX⟩ : ∃ X : ByteArray, X = ⟨T.toArray⟩ := ⟨_, rfl⟩
    rw [← hX] at htc ⊢
    have HTC := Lib.hid htc
    clear htc hT hzz hL htl hX
    go_enter Tryz.func97, Tryz.ntmps97
    go_wp2_with fail
    refine hcc.mono ?_
    rintro e w3 ⟨v3, rfl, hr3, hb3⟩
    have hr := hr3 trivial
    clear hr3 hcc
    go_wp2_with fail
    refine (HTC.out v3 w3 hr (HG.out.below hb3)).mono ?_
    rintro e w4 ⟨rfl, hb4⟩
    go_wp2
    go_ret2
    exact ⟨rfl, below_step hb3 hb3.size hb4⟩
  · rw [if_neg h0] at hT
    subst hT
    have e1 : (E != 0) = true := bne_iff_ne.2 h0
    have HE := Lib.hid h0
    clear hzz h0
    go_enter Tryz.func97, Tryz.ntmps97
    go_wp2_with fail
    refine hcc.mono ?_
    rintro e w3 ⟨v3, rfl, hr3, hb3⟩
    clear hr3 hcc
    go_wp2
    go_ret2
    exact ⟨rfl, hb3⟩

theorem index_bound (s : List UInt8) : (Lib.cut s [10]).2.2 = true → (Lib.cut s [10]).2.1.length < s.length := by
  unfold Lib.cut
  split
  · rename_i h
    intro _
    simp only [List.length_drop, List.length_cons, List.length_nil]
    cases s with
    | nil => exfalso; revert h; decide
    | cons c l => simp; omega
  · intro h; cases h

theorem parseL_nil (n : Nat) : parseL n [] = some [] := by cases n <;> rfl
theorem parseL_step (n : Nat) (s : List UInt8) (h : s ≠ []) : parseL (n + 1) s = if (Lib.cut s [10]).2.2 then
      match fparseI (Lib.cut s [10]).1 with
      | some i => (parseL n (Lib.cut s [10]).2.1).map (fldAt (Lib.cut s [10]).1 i :: ·)
      | none => none
    else none := by
  cases s with
  | nil => exact absurd rfl h
  | cons c s => rfl
theorem cardB_none {s : List UInt8} (h : parseL s.length s = none) : cardB s = false := by unfold cardB; rw [h]; simp
theorem cardB_some {s : List UInt8} {fs : List Fld} (h : parseL s.length s = some fs) (hl : s.length ≤ 900) : cardB s = (decide (cardE fs = 0) && (textS (outS fs) == s)) := by unfold cardB; rw [h]; simp [hl]

def CParsePost (s : List UInt8) (w : World) (e : Ending) (w' : World) : Prop := ∃ v', e = .returned (.tuple #[v', .int .i64 (if cardB s then 0 else 1)]) ∧ Below w.heap.size w w'
theorem CParsePost.no {s : List UInt8} {w w' : World} (v' : Value) (h : cardB s = false) (hb : Below w.heap.size w w') : CParsePost s w (.returned (.tuple #[v', .int .i64 1])) w' := ⟨v', by rw [h]; rfl, hb⟩
theorem CParsePost.yes {s : List UInt8} {w w' : World} (v' : Value) (h : cardB s = true) (hb : Below w.heap.size w w') : CParsePost s w (.returned (.tuple #[v', .int .i64 0])) w' := ⟨v', by rw [h]; rfl, hb⟩

set_option maxHeartbeats 4000000 in
set_option maxRecDepth 100000 in
theorem cparse_calls (s : ByteArray) (w : World) (hs : s.size ≤ 140737488355327) (hG : GL w) : Calls Tryz.prog 85 #[.string s] w (CParsePost s.data.toList w) := by
  have hlen : s.data.toList.length = s.size := by simp
  by_cases h9 : 900 < s.size
  · have HN := Lib.hid (CParsePost.no (w := w) (w' := w) (.slice none 0 0) (show cardB s.data.toList = false by unfold cardB; rw [decide_eq_false (by omega)]; rfl) (Below.refl _ _))
    have b9 : (900 : Int) < s.size := by omega
    clear hG h9 hlen hs
    go_enter Tryz.func85, Tryz.ntmps85
    go_wp2
    go_ret2
    exact HN.out
  · have b9 : (s.size : Int) ≤ 900 := by omega
    have HN := Lib.hid fun w' v' (h : cardB s.data.toList = false) hb => CParsePost.no (w := w) (w' := w') v' h hb
    have HY := Lib.hid fun w' v' (h : cardB s.data.toList = true) hb => CParsePost.yes (w := w) (w' := w') v' h hb
    have HG := Lib.hid hG
    have HL := Lib.hid hlen
    clear hG h9 hlen hs
    go_enter Tryz.func85, Tryz.ntmps85
    go_wp2
    go_loopw [4, 5] (fun o r wr => ∃ (acc : List Fld) (A : Option Addr) (c : Nat) (R : ByteArray) (m : Nat), o = .slice A acc.length c ∧ r = .string R ∧ FRow wr w.heap.size (.slice A acc.length c) acc ∧ acc.length + R.size ≤ s.size ∧ R.size ≤ m ∧ Below w.heap.size w wr ∧ Hid (∀ k, k < acc.length → acc[k]!.v.size ≤ 140737488355327) ∧ Hid (parseL s.size s.data.toList = (parseL m R.data.toList).map (acc ++ ·))) (fun _ r _ => match r with | .string R => R.size | _ => 0)
    case atStart => exact ⟨[], none, 0, s, s.size, rfl, rfl, FRow.nil_ _ _, by simp, Nat.le_refl _, Below.refl _ _, fun k hk => by simp at hk, by unfold Hid; cases parseL s.size s.data.toList <;> simp⟩
    case round =>
      obtain ⟨acc, A, c, R, m, rfl, rfl, hr, hsum, hRm, hb, HV, HP⟩ := hrel
      have hz : w.heap.size ≤ wr.heap.size := hb.size
      by_cases hR : R.size = 0
      · have hRe : R.data.toList = [] := List.eq_nil_of_length_eq_zero (by simpa using hR)
        have e0 : (R.toList == []) = true := by rw [beq_iff_eq, toList_data]; exact hRe
        have hP := HP.out
        rw [hRe, parseL_nil] at hP
        simp only [Option.map_some, List.append_nil] at hP
        have hcb := cardB_some (s := s.data.toList) (fs := acc) (by rw [HL.out]; exact hP) (by rw [HL.out]; omega)
        have hcT : cardT acc = if cardE acc = 0 then textS (outS acc) else [] := rfl
        have htc := ctext_calls w.heap.size (.slice A acc.length c) acc wr hr (HG.out.below hb) (by omega) HV.out
        generalize cardE acc = E at hcb hcT htc
        generalize cardT acc = T at hcT htc
        generalize textS (outS acc) = U at hcb hcT
        obtain ⟨X, hX⟩ : ∃ X : ByteArray, X = ⟨T.toArray⟩ := ⟨_, rfl⟩
        rw [← hX] at htc
        clear hP HP hRe hr hR
        by_cases hE : E = 0
        · subst hE
          rw [if_pos rfl] at hcT
          subst hcT
          by_cases hT : T = s.data.toList
          · have e1 : (X.toList == s.toList) = true := by rw [beq_iff_eq, toList_data, toList_data, hX]; simpa using hT
            have HB := Lib.hid (show cardB s.data.toList = true by rw [hcb, hT]; simp)
            clear hcb hT hX
            go_wp2_with fail
            refine htc.mono ?_
            rintro e w3 ⟨rfl, hb3⟩
            go_wp2
            go_ret2
            exact HY.out _ _ HB.out (below_step hb hb.size hb3)
          · have e1 : (X.toList == s.toList) = false := by rw [beq_eq_false_iff_ne, toList_data, toList_data, hX]; simpa using hT
            have HB := Lib.hid (show cardB s.data.toList = false by rw [hcb]; simp; exact hT)
            clear hcb hT hX
            go_wp2_with fail
            refine htc.mono ?_
            rintro e w3 ⟨rfl, hb3⟩
            go_wp2
            go_ret2
            exact HN.out _ _ HB.out (below_step hb hb.size hb3)
        · have e1 : (E != 0) = true := bne_iff_ne.2 hE
          have HB := Lib.hid (show cardB s.data.toList = false by rw [hcb, decide_eq_false hE]; rfl)
          clear hcb hcT hE hX
          go_wp2_with fail
          refine htc.mono ?_
          rintro e w3 ⟨rfl, hb3⟩
          go_wp2
          go_ret2
          exact HN.out _ _ HB.out (below_step hb hb.size hb3)
      · have hne : R.data.toList ≠ [] := by intro h; have := congrArg List.length h; simp at this; exact hR (by simpa using this)
        have e0 : (R.toList == []) = false := by rw [beq_eq_false_iff_ne, toList_data]; exact hne
        obtain ⟨m', rfl⟩ : ∃ m', m = m' + 1 := ⟨m - 1, by omega⟩
        have hst := parseL_step m' R.data.toList hne
        have hib := index_bound R.data.toList
        have hcl := cut_len R.data.toList [10]
        obtain ⟨mx, hmx⟩ := (HG.out.below hb).maxLen
        have cC := Tryz.strings_Cut R ⟨#[10]⟩ mx wr (by omega) hmx
        rw [show (⟨#[10]⟩ : ByteArray).data.toList = [10] from rfl] at cC
        have hRl : R.data.toList.length = R.size := by simp
        generalize Lib.cut R.data.toList [10] = C at hst hib hcl cC
        obtain ⟨line, behind, ok⟩ := C
        simp only at hst hib hcl cC
        have cF := fun n => fparse_calls ⟨line.toArray⟩ (wr.drewN n) (by rw [mk_size]; omega) (HG.out.below (below_drawn hb n))
        rw [mk_toList] at cF
        unfold FParsed at cF
        have HR := Lib.hid hr
        have CC := Lib.hid cC
        clear hr cC hmx hne
        have hbad : ∀ (hn : parseL (m' + 1) R.data.toList = none), cardB s.data.toList = false := fun hn => cardB_none (by rw [HL.out, HP.out, hn]; rfl)
        cases hfi : Hen.fparseI line with
        | none =>
          have HB := Lib.hid (hbad (by rw [hst, hfi]; cases ok <;> rfl))
          simp only [hfi] at cF
          have CF := Lib.hid cF
          clear cF hst hfi hbad HP
          cases ok
          all_goals
            go_wp2_with fail
            refine CC.out.mono ?_
            rintro e w2 ⟨rfl, nd, rfl⟩
            go_wp2_with fail
            refine (CF.out nd).mono ?_
            rintro e w3 ⟨hb3, rfl⟩
            have hbw := below_step (below_drawn hb nd) hb.size hb3
            go_wp2
            go_ret2
            exact HN.out _ _ HB.out (hbw.alloc hbw.size _)
        | some i =>
          simp only [hfi] at cF
          have CF := Lib.hid cF
          cases ok with
          | false =>
            have HB := Lib.hid (hbad (by rw [hst]; rfl))
            clear cF hst hfi hbad HP
            go_wp2_with fail
            refine CC.out.mono ?_
            rintro e w2 ⟨rfl, nd, rfl⟩
            go_wp2_with fail
            refine (CF.out nd).mono ?_
            rintro e w3 ⟨hb3, rfl⟩
            have hbw := below_step (below_drawn hb nd) hb.size hb3
            go_wp2
            go_ret2
            exact HN.out _ _ HB.out (hbw.alloc hbw.size _)
          | true =>
            have hbl := hib rfl
            rw [hfi, if_pos rfl] at hst
            have HP2 := Lib.hid (show parseL s.size s.data.toList = (parseL m' behind).map (acc ++ [fldAt line i] ++ ·) by
              rw [HP.out, hst]; simp only [Option.map_map]; congr 1; funext x; simp)
            have hbs : (⟨behind.toArray⟩ : ByteArray).size = behind.length := mk_size behind
            have hV2 : ∀ k, k < (acc ++ [fldAt line i]).length → (acc ++ [fldAt line i])[k]!.v.size ≤ 140737488355327 := by
              intro k hk
              rw [getElem!_pos _ k hk]
              by_cases h : k < acc.length
              · rw [List.getElem_append_left h]
                have := HV.out k h
                rwa [getElem!_pos acc k h] at this
              · rw [List.getElem_append_right (by omega)]
                simp only [List.getElem_singleton]
                show (⟨_⟩ : ByteArray).size ≤ _
                have := cut_len line [58]
                rw [mk_size]; omega
            have HV2 := Lib.hid hV2
            obtain ⟨X, hX⟩ : ∃ X : ByteArray, X = ⟨behind.toArray⟩ := ⟨_, rfl⟩
            rw [← hX] at hbs CC
            have HX := Lib.hid hX
            clear cF hst hfi hbad HP hib HV hV2 hX
            go_wp2_with fail
            refine CC.out.mono ?_
            rintro e w2 ⟨rfl, nd, rfl⟩
            go_wp2_with fail
            refine (CF.out nd).mono ?_
            rintro e w3 ⟨hb3, rfl⟩
            have hbw := (below_step (below_drawn hb nd) hb.size hb3).alloc (below_step (below_drawn hb nd) hb.size hb3).size (.cells #[.int .i64 (fldAt line i).k, .int .i64 (fldAt line i).l, .string (fldAt line i).v] 129)
            have hr3 : FRow (w3.alloc (.cells #[.int .i64 (fldAt line i).k, .int .i64 (fldAt line i).l, .string (fldAt line i).v] 129)) w.heap.size (.slice A acc.length c) acc := (FRow.below (w := wr.drewN nd) (w1 := w3) HR.out hb3).alloc _
            change Below (wr.drewN nd).heap.size _ w3 at hb3
            go_wp2_with (at_builtin; go_must (refine wp_append_fld rfl _ _ rfl w.heap.size (fldAt line i) hr3 rfl rfl (by simp) hbw hbw.size (by omega) ?_); intro A1 c1 w4 hr4 hb4)
            go_round
            case rel =>
              refine ⟨acc ++ [fldAt line i], A1, c1, X, m', by simp, rfl, hr4, by simp; omega, by omega, hb4, HV2.out, ?_⟩
              unfold Hid
              rw [HP2.out, HX.out, mk_toList]
            case measure => simp only; omega
set_option maxHeartbeats 1000000 in
theorem card_is_calls (s : ByteArray) (w : World) (hs : s.size ≤ 140737488355327) (hG : GL w) : Calls Tryz.prog 68 #[.string s] w fun e w' => e = .returned (.bool (cardB s.data.toList)) ∧ Below w.heap.size w w' := by
  have hc := cparse_calls s w hs hG
  unfold CParsePost at hc
  generalize cardB s.data.toList = b at hc ⊢
  clear hG hs
  cases b
  all_goals
    go_enter Tryz.func68, Tryz.ntmps68
    go_wp2_with fail
    refine hc.mono ?_
    rintro e w3 ⟨v3, rfl, hb3⟩
    go_wp2
    go_ret
    exact ⟨rfl, hb3⟩
end Go.Proofs.YtcmoidldalgljaaGreatDoor

/-
  Contract: req.reader ops.
-/
import Derived.Test.YtcmoidldalgljaaGreatDoorPo
set_option linter.unusedVariables false
set_option linter.unusedSimpArgs false
namespace Go.Proofs.YtcmoidldalgljaaGreatDoor
open Go.RowKit
open Hen

theorem Kept.grown {r x : Nat} {a b d : World} {row : Option Nat} (h : Kept r x a b) (hg : b.grownBy d row) (hr : ∀ k, row = some k → a.heap.size ≤ k) : Kept r x a d :=
  ⟨hg.os.trans h.os, hg.tape.trans h.tape, hg.output.trans h.output, Nat.le_trans h.size hg.size, fun k hk h1 h2 => (hg.block k (Nat.lt_of_lt_of_le hk h.size) (fun e => by have := hr k e.symm; omega)).trans (h.block k hk h1 h2)⟩
theorem XD.grown {w w' : World} {x r g c : Nat} {l : List UInt8} {p : Nat} {err : Int} {bad : Bool} {row : Option Nat} (h : XD w x r g c l p err bad) (hg : w.grownBy w' row) (h1 : row ≠ some x) (h2 : row ≠ some r) (h3 : row ≠ some g) : XD w' x r g c l p err bad := by
  have bx : ∀ {b : Nat} {q : List Value}, Box w b q → row ≠ some b → Box w' b q := fun hB hne => ⟨Nat.lt_of_lt_of_le hB.1 hg.size, fun i v hv => ⟨(World.cell?_of_block (a := ⟨_, i, none⟩) (hg.block _ hB.1 (fun e => hne e.symm))).trans (hB.2 i v hv).1, by
    have := (hB.2 i v hv).2
    unfold World.frozen? at this ⊢
    rw [hg.block _ hB.1 (fun e => hne e.symm)]; exact this⟩⟩
  exact ⟨⟨bx h.rd.box h2, Nat.lt_of_lt_of_le h.rd.lt hg.size, fun i hi => (World.cell?_of_block (a := ⟨g, i, none⟩) (hg.block g h.rd.lt (fun e => h3 e.symm))).trans (h.rd.bts i hi), h.rd.ne, h.rd.cap⟩, bx h.box h1, h.ne1, h.ne2⟩

theorem loopQ_stop (l : List UInt8) (n : Nat) (s : St) (h : s.bad = true ∨ s.e ≠ 0) : loopQ l n s = ([], s) := by
  cases n with
  | zero => rfl
  | succ n => unfold loopQ; rw [if_pos h]
theorem loopQ_go (l : List UInt8) (n : Nat) (s : St) (h : ¬ (s.bad = true ∨ s.e ≠ 0)) : loopQ l (n + 1) s = ((opQ l s).1 :: (loopQ l n (opQ l s).2).1, (loopQ l n (opQ l s).2).2) := by
  rw [loopQ, if_neg h]

theorem ORow.grownTo {w w1 : World} {B : Nat} {v : Value} {l : List Opx} (h : ORow w B v l) {r x : Nat} (hk : Kept r x w w1) (hr : r < B) (hx : x < B) : ORow w1 B v l :=
  h.kept hk (fun e => by have := (World.ownsRow.lt h r e).1; omega) (fun e => by have := (World.ownsRow.lt h x e).1; omega)
theorem ORow.same {w w1 : World} {B : Nat} {v : Value} {l : List Opx} (h : ORow w B v l) (hs : ∀ k, v.ownBlock = some k → w1.heap[k]? = w.heap[k]?) : ORow w1 B v l := by
  refine ⟨h.1, ?_⟩
  rcases h.2 with h' | ⟨g, cap, cur, e, hb, hg, rest⟩
  · exact .inl h'
  · subst e
    exact .inr ⟨g, cap, cur, rfl, hb, (hs g (by simp [Value.ownBlock])).trans hg, rest⟩
theorem ORow.lt {w : World} {B : Nat} {v : Value} {l : List Opx} (h : ORow w B v l) : ∀ k, v.ownBlock = some k → B ≤ k ∧ k < w.heap.size := fun k hk => World.ownsRow.lt h k hk
theorem ORow.far {w : World} {B : Nat} {v : Value} {l : List Opx} (h : ORow w B v l) (q : Addr) (hq : v.ownBlock ≠ some q.block) (u : Value) : ORow (w.setCell q u) B v l :=
  h.same fun k hk => Below.heap_setCell w q u k (fun e => hq (by rw [hk, e]))
theorem ORow.not {w : World} {B : Nat} {v : Value} {l : List Opx} (h : ORow w B v l) {n : Nat} (hn : w.heap.size ≤ n) : v.ownBlock ≠ some n := fun e => by have := (h.lt n e).2; omega
theorem loopQ_len (l : List UInt8) (n : Nat) (s : St) : (loopQ l n s).1.length ≤ n := by
  induction n generalizing s with
  | zero => simp [loopQ]
  | succ n ih =>
    unfold loopQ
    split
    · simp
    · have := ih (opQ l s).2
      simp only [List.length_cons]
      omega

def OpsPost (l : List UInt8) (R : List Opx × St) (w : World) (x r g c : Nat) (e : Ending) (w' : World) : Prop :=
  ∃ v', e = .returned v' ∧ ORow w' w.heap.size v' R.1 ∧ XS w' x r g c l R.2 ∧ Kept r x w w'
def OpsRel (l : List UInt8) (R : List Opx × St) (n : Nat) (w : World) (x r g c : Nat) (v i : Value) (wr : World) : Prop :=
  ∃ (k : Nat) (s : St) (acc : List Opx), k ≤ n ∧ i = .int .i64 k ∧ ORow wr w.heap.size v acc ∧ acc.length ≤ k ∧ XS wr x r g c l s ∧ In s ∧ Kept r x w wr ∧ Hid (R = (acc ++ (loopQ l (n - k) s).1, (loopQ l (n - k) s).2))
theorem OpsRel.next {l : List UInt8} {R : List Opx × St} {n k : Nat} {w w1 : World} {x r g c : Nat} {v : Value} {s t : St} {acc : List Opx} {o : Opx} (hlt : k < n) (hR : R = (acc ++ (loopQ l (n - k) s).1, (loopQ l (n - k) s).2)) (hgo : ¬ (s.bad = true ∨ s.e ≠ 0)) (ho : opQ l s = (o, t))
    (hv : ORow w1 w.heap.size v (acc ++ [o])) (hl : acc.length ≤ k) (hx : XS w1 x r g c l t) (hi : In t) (hk : Kept r x w w1) : OpsRel l R n w x r g c v (.int .i64 ((k : Int) + 1)) w1 := by
  refine ⟨k + 1, t, acc ++ [o], by omega, by go_num, hv, by simp; omega, hx, hi, hk, ?_⟩
  unfold Hid
  rw [hR, show n - k = (n - (k + 1)) + 1 by omega, loopQ_go l _ s hgo, ho]
  simp
theorem numQ_bad (l : List UInt8) (p : Nat) : (numQ l ⟨p, 0, false⟩).2.bad = decide (2147483647 < (numQ l ⟨p, 0, false⟩).1) := by unfold numQ numX; simp
theorem opQ_del {l : List UInt8} {s s1 s2 s4 : St} {u : List UInt8} {y : Nat × Nat} (h1 : numQ l s = (1, s1)) (h2 : textQ l (s1.or false) = (u, s2)) (h4 : condQ l s2 = (y, s4)) : opQ l s = (⟨true, ⟨u.toArray⟩, ⟨#[]⟩, y.1, y.2⟩, s4) := by
  unfold opQ
  rw [h1]
  simp only [show decide (1 < 1) = false from rfl]
  rw [h2]
  simp only [if_true]
  rw [h4]
  rfl
theorem opQ_put {l : List UInt8} {s s1 s2 s3 s4 : St} {m : Nat} {u d : List UInt8} {y : Nat × Nat} (hm : m ≠ 1) (h1 : numQ l s = (m, s1)) (h2 : textQ l (s1.or (decide (1 < m))) = (u, s2)) (h3 : textQ l s2 = (d, s3)) (h4 : condQ l s3 = (y, s4)) :
    opQ l s = (⟨false, ⟨u.toArray⟩, ⟨d.toArray⟩, y.1, y.2⟩, s4) := by
  unfold opQ
  rw [h1]
  simp only
  rw [h2]
  simp only [if_neg hm]
  rw [h3]
  simp only
  rw [h4]
  simp [hm]

set_option maxHeartbeats 16000000 in
set_option maxRecDepth 100000 in
theorem xops_calls (w : World) (x r g c : Nat) (l : List UInt8) (s : St) (h : XS w x r g c l s) (hs : In s) (hl : l.length ≤ 1099511627776) :
    Calls Tryz.prog 45 #[.pointer (some ⟨x, 0, none⟩)] w (OpsPost l (opsQ l s) w x r g c) := by
  have cN := xnumQ h hs hl
  have hin := numQ_in (l := l) hs hl
  have hsm : (numQ l s).1 ≤ 9223372036854775807 := by unfold numQ numA; have := numR_small l s.p; simp only; (repeat' split) <;> simp <;> omega
  have hQ : opsQ l s = loopQ l (numQ l s).1 ((numQ l s).2.or (decide (16 < (numQ l s).1))) := rfl
  generalize opsQ l s = R at hQ ⊢
  generalize numQ l s = N at cN hin hsm hQ
  obtain ⟨n, s1⟩ := N
  simp only at cN hin hsm hQ
  have hxl := h.box.1
  have hrl := h.rd.box.1
  have hgl := h.rd.lt
  have hn1 := h.ne1
  have hn2 := h.ne2
  have hn3 := h.rd.ne
  have CN := Lib.hid cN
  clear cN h
  obtain ⟨s2, hs2⟩ : ∃ s2, s2 = s1.or (decide (16 < n)) := ⟨_, rfl⟩
  rw [← hs2] at hQ
  have hb2 : s2.bad = (s1.bad || decide (16 < n)) := by rw [hs2]; rfl
  have hway : (s1.bad = true ∧ s2.bad = true) ∨ (s1.bad = false ∧ (16 : Int) < n ∧ s2.bad = true) ∨ (s1.bad = false ∧ (n : Int) ≤ 16 ∧ s2.bad = false) := by
    rw [hb2]
    cases s1.bad with
    | true => exact .inl ⟨rfl, rfl⟩
    | false =>
      by_cases hb : 16 < n
      · exact .inr (.inl ⟨rfl, by omega, by simp [hb]⟩)
      · exact .inr (.inr ⟨rfl, by omega, by simp; omega⟩)
  have HQ := Lib.hid hQ
  have HS2 := Lib.hid hs2
  clear hb2 hQ hs2
  have hin2 : In s2 := by rw [HS2.out]; exact hin
  rcases hway with ⟨b1, b2⟩ | ⟨b1, b0, b2⟩ | ⟨b1, b0, b2⟩
  all_goals
    first
      | have d0 : decide ((16 : Int) < (n : Int)) = false := decide_eq_false (by omega)
      | skip
    go_enter Tryz.func45, Tryz.ntmps45
    go_wp2_with fail
    refine CN.out.mono ?_
    rintro e w1 ⟨rfl, hx1, hk1⟩
    have q1 := hx1.box.cell 1 rfl
    rw [b1] at q1
    have f1 := hx1.box.free 1 (v := .bool _) rfl
    have hx2 : XS (w1.setCell ⟨x, 1, none⟩ (.bool s2.bad)) x r g c l s2 := by
      have := hx1.mark s2.bad
      have e1 : s2.p = s1.p := by rw [HS2.out]; rfl
      have e2 : s2.e = s1.e := by rw [HS2.out]; rfl
      unfold XS; rw [e1, e2]; exact this
    have hk2 := hk1.setx 1 (.bool s2.bad)
    rw [b2] at hk2
    have hw2 : w1.setCell ⟨x, 1, none⟩ (.bool s2.bad) = w1.setCell ⟨x, 1, none⟩ (.bool true) ∨ w1.setCell ⟨x, 1, none⟩ (.bool s2.bad) = w1.setCell ⟨x, 1, none⟩ (.bool false) := by cases s2.bad <;> simp
    have HX2 := Lib.hid hx2
    have HK2 := Lib.hid hk2
    have HB2 := Lib.hid b2
    clear hx2 hk2 hx1 hw2 b2
  iterate 2
    · have hx2 := HX2.out
      rw [HB2.out] at hx2
      have HX3 := Lib.hid hx2
      clear hx2 HX2
      go_wp2
      go_loopw [3, 5] (fun v i wr => v = .slice none 0 0 ∧ i = .int .i64 0 ∧ XS wr x r g c l s2 ∧ Kept r x w wr) (fun _ _ _ => 0)
      case atStart => exact ⟨rfl, rfl, HX3.out, HK2.out⟩
      case round =>
        obtain ⟨rfl, rfl, hx, hk⟩ := hrel
        have q1' := hx.box.cell 1 rfl
        rw [HB2.out] at q1'
        have hR : R = ([], s2) := by rw [HQ.out]; exact loopQ_stop l n s2 (.inl HB2.out)
        have HR := Lib.hid hR
        clear hR
        by_cases h0 : (0 : Int) < n
        all_goals
          go_wp2 <;> (go_ret; exact ⟨_, rfl, by rw [HR.out]; exact ORow.nil_ _ _, by rw [HR.out]; exact hx, hk⟩)
  have hx2 := HX2.out
  have HX3 : Hid (XS (w1.setCell ⟨x, 1, none⟩ (.bool false)) x r g c l s2) := by
    rw [HB2.out] at hx2; exact hx2
  clear hx2 HX2
  go_wp2
  go_loopw [3, 5] (fun v i wr => OpsRel l R n w x r g c v i wr) (fun _ i _ => n - (intOf i).toNat)
  case atStart => exact ⟨0, s2, [], Nat.zero_le _, rfl, ORow.nil_ _ _, Nat.le_refl _, HX3.out, hin2, HK2.out, by unfold Hid; rw [HQ.out]; rfl⟩
  case round =>
    obtain ⟨k, s, acc, hk, rfl, hv, hlen, hx, hi, hkp, HR⟩ := hrel
    obtain ⟨p, e, bad⟩ := s
    have stop : (bad = true ∨ e ≠ 0 ∨ n ≤ k) → R = (acc, ⟨p, e, bad⟩) := by
      intro hs
      have : loopQ l (n - k) ⟨p, e, bad⟩ = ([], ⟨p, e, bad⟩) := by
        rcases hs with hs | hs | hs
        · exact loopQ_stop _ _ _ (.inl hs)
        · exact loopQ_stop _ _ _ (.inr hs)
        · rw [show n - k = 0 by omega]; rfl
      rw [HR.out, this, List.append_nil]
    have STOP := Lib.hid stop
    have HV := Lib.hid hv
    have HX := Lib.hid hx
    have HK := Lib.hid hkp
    have q0 := hx.box.cell 0 rfl
    have q1' := hx.box.cell 1 rfl
    have f1' := hx.box.free 1 (v := .bool bad) rfl
    have cE := rerr_calls wr r g c l p e hx.rd
    have fin : ∀ v', ORow wr w.heap.size v' acc → R = (acc, ⟨p, e, bad⟩) → OpsPost l R w x r g c (.returned v') wr := fun v' e' hR => ⟨v', rfl, by rw [hR]; exact e', by rw [hR]; exact HX.out, HK.out⟩
    have FIN := Lib.hid fin
    clear hx hv hkp stop fin
    simp only at q1' f1'
    by_cases hlt : k < n
    · cases bad with
      | true =>
        clear cE
        have HF := Lib.hid (FIN.out _ HV.out (STOP.out (.inl rfl)))
        clear FIN STOP HV
        go_wp2
        go_ret
        exact HF.out
      | false =>
        by_cases he : e = 0
        · subst he
          have hin16 : (n : Int) ≤ 16 := b0
          have hbad := numQ_bad l p
          have hM : numQ l ⟨p, 0, false⟩ = ((numQ l ⟨p, 0, false⟩).1, (numQ l ⟨p, 0, false⟩).2) := rfl
          have cM := xnumQ HX.out hi hl
          have hi1 := numQ_in (l := l) hi hl
          generalize (numQ l ⟨p, 0, false⟩).1 = m at hbad hM cM hi1
          generalize (numQ l ⟨p, 0, false⟩).2 = t1 at hbad hM cM hi1
          have hT : textQ l (t1.or (decide (1 < m))) = ((textQ l (t1.or (decide (1 < m)))).1, (textQ l (t1.or (decide (1 < m)))).2) := rfl
          have cT := fun W (h : XS W x r g c l (t1.or (decide (1 < m)))) => xtextQ h hi1 hl
          have hi2 := textQ_in (l := l) (s := t1.or (decide (1 < m))) hi1 hl
          generalize (textQ l (t1.or (decide (1 < m)))).1 = u at hT cT hi2
          generalize (textQ l (t1.or (decide (1 < m)))).2 = t2 at hT cT hi2
          have hgo : ¬ (((⟨p, 0, false⟩ : St)).bad = true ∨ (⟨p, 0, false⟩ : St).e ≠ 0) := by simp
          have hR := HR.out
          clear STOP FIN HR
          obtain ⟨B, hB⟩ : ∃ B, B = w.heap.size := ⟨_, rfl⟩
          have NEXT := Lib.hid fun (w1 : World) (v : Value) (o : Opx) (t : St) (ho : opQ l ⟨p, 0, false⟩ = (o, t)) (hv : ORow w1 w.heap.size v (acc ++ [o])) (hx : XS w1 x r g c l t) (hi : In t) (hk : Kept r x w w1) => OpsRel.next hlt hR hgo ho hv hlen hx hi hk
          by_cases hm1 : m = 1
          · subst hm1
            have b1 : t1.bad = false := by rw [hbad]; rfl
            have hY : condQ l t2 = ((condQ l t2).1, (condQ l t2).2) := rfl
            have cY := fun W (h : XS W x r g c l t2) => xcondQ h hi2 hl
            have hi4 := condQ_in (l := l) (s := t2) hi2 hl
            generalize (condQ l t2).1 = y at hY cY hi4
            generalize (condQ l t2).2 = t4 at hY cY hi4
            have ho := opQ_del hM hT hY
            obtain ⟨ya, yb⟩ := y
            simp only at ho cY
            have CE := Lib.hid cE
            have CM := Lib.hid cM
            have CT := Lib.hid cT
            have CY := Lib.hid cY
            have HO := Lib.hid ho
            have HB1 := Lib.hid b1
            clear cE cM cT cY ho b1 hbad hM hT hY hR hgo hi1 hi2
            go_wp2_with fail
            refine CE.out.mono ?_
            rintro e' w2 ⟨rfl, hw⟩
            obtain rfl := hw.symm
            go_wp2_with fail
            refine CM.out.mono ?_
            rintro e' v1 ⟨rfl, hx1, hk1⟩
            have p1 := hx1.box.cell 1 rfl
            rw [HB1.out] at p1
            have g1 := hx1.box.free 1 (v := .bool _) rfl
            have hx1' : XS (v1.setCell ⟨x, 1, none⟩ (.bool false)) x r g c l (t1.or (decide (1 < 1))) := by
              have := hx1.mark false
              unfold XS St.or; rw [HB1.out]; exact this
            have hk1' := hk1.setx 1 (.bool false)
            have HX1 := Lib.hid hx1'
            clear q0 q1' f1' hx1 hx1'
            go_wp2_with fail
            refine (CT.out _ HX1.out).mono ?_
            rintro e' v2 ⟨rfl, hx2, hk2⟩
            have hz2 : w.heap.size ≤ v2.heap.size := Nat.le_trans HK.out.size (Nat.le_trans hk1'.size hk2.size)
            have hx2' := hx2.kept ((Below.refl _ _).alloc (Nat.le_refl _) (.cells #[.bool true, .string ⟨u.toArray⟩, .string ⟨#[]⟩, .int .i64 0, .int .i64 0] 40))
            have hb2 := Box.new v2 #[.bool true, .string ⟨u.toArray⟩, .string ⟨#[]⟩, .int .i64 0, .int .i64 0] 40
            have d0 := hb2.cell 0 rfl
            have hv2 := (((HV.out.grownTo hk1' (by omega) (by omega)).grownTo hk2 (by omega) (by omega)).alloc (.cells #[.bool true, .string ⟨u.toArray⟩, .string ⟨#[]⟩, .int .i64 0, .int .i64 0] 40))
            have hkk := ((HK.out.trans hk1').trans hk2).trans (Kept.of_below ((Below.refl _ v2).alloc (Nat.le_refl _) (.cells #[.bool true, .string ⟨u.toArray⟩, .string ⟨#[]⟩, .int .i64 0, .int .i64 0] 40)))
            clear hx2 p1 g1
            go_wp2_with fail
            refine (CY.out _ hx2').mono ?_
            rintro e' v3 ⟨rfl, hx3, hk3⟩
            have hb3 := hb2.kept hk3 (by omega) (by omega)
            have hz3 := hk3.size
            simp at hz3
            have hv3 := hv2.grownTo hk3 (by omega) (by omega)
            have hkk := hkk.trans hk3
            clear d0 hb2 hv2 hx2'
            have e3 := hb3.cell 3 rfl
            have e4 := hb3.cell 4 rfl
            have f3 := hb3.free 3 (v := .int .i64 0) rfl
            have f4 := hb3.free 4 (v := .int .i64 0) rfl
            have hb4 := (hb3.set_ 3 (by simp) (.int .i64 ya)).set_ 4 (by simp) (.int .i64 yb)
            have k0 := hb4.cell 0 rfl
            have k1 := hb4.cell 1 rfl
            have k2 := hb4.cell 2 rfl
            have k3 := hb4.cell 3 rfl
            have k4 := hb4.cell 4 rfl
            have hnb := HV.out.not (n := v2.heap.size) (Nat.le_trans hk1'.size hk2.size)
            have hv4 := (hv3.far ⟨v2.heap.size, 3, none⟩ hnb (.int .i64 ya)).far ⟨v2.heap.size, 4, none⟩ hnb (.int .i64 yb)
            have hx4 := (hx3.far ⟨v2.heap.size, 3, none⟩ (by simp; omega) (by simp; omega) (by simp; omega) (.int .i64 ya)).far ⟨v2.heap.size, 4, none⟩ (by simp; omega) (by simp; omega) (by simp; omega) (.int .i64 yb)
            have hk4 := (hkk.new ⟨v2.heap.size, 3, none⟩ hz2 (.int .i64 ya)).new ⟨v2.heap.size, 4, none⟩ hz2 (.int .i64 yb)
            have HV4 := Lib.hid hv4
            have HX4 := Lib.hid hx4
            have HK4 := Lib.hid hk4
            clear hb3 hb4 hv3 hkk hx3 hv4 hx4 hk4 hnb
            have hs5 : v3.heap.size = ((v3.setCell ⟨v2.heap.size, 3, none⟩ (.int .i64 ya)).setCell ⟨v2.heap.size, 4, none⟩ (.int .i64 yb)).heap.size := by simp
            have hm5 : w.heap.size ≤ ((v3.setCell ⟨v2.heap.size, 3, none⟩ (.int .i64 ya)).setCell ⟨v2.heap.size, 4, none⟩ (.int .i64 yb)).heap.size := by rw [← hs5]; omega
            have hl5 : acc.length + 1 ≤ 4294967296 := by omega
            have HS5 := Lib.hid hs5
            have HM5 := Lib.hid hm5
            have HL5 := Lib.hid hl5
            clear hs5 hm5 hl5
            go_wp2_with (at_builtin; go_must (refine wp_append_op (w0 := w) rfl _ _ rfl w.heap.size (l := acc) ⟨true, ⟨u.toArray⟩, ⟨#[]⟩, ya, yb⟩ HV4.out rfl rfl HS5.out HM5.out HL5.out ?_); intro A cc w5 hr5 hg5)
            simp only [List.length_append, List.length_cons, List.length_nil, Nat.zero_add] at hr5
            have hx5 := (HX4.out.kept ((Below.refl _ _).alloc (Nat.le_refl _) (.cells #[.bool true, .string ⟨u.toArray⟩, .string ⟨#[]⟩, .int .i64 ya, .int .i64 yb] 40))).grown hg5
              (fun e => by have := (HV.out.lt _ e).1; omega) (fun e => by have := (HV.out.lt _ e).1; omega) (fun e => by have := (HV.out.lt _ e).1; omega)
            have hk5 := (HK4.out.trans (Kept.of_below ((Below.refl _ _).alloc (Nat.le_refl _) (.cells #[.bool true, .string ⟨u.toArray⟩, .string ⟨#[]⟩, .int .i64 ya, .int .i64 yb] 40)))).grown hg5 (fun k e => (HV.out.lt _ e).1)
            go_roundw
            case rel => exact NEXT.out _ _ _ t4 HO.out hr5 hx5 hi4 hk5
            case measure => simp [intOf]; omega
          · have hC : textQ l t2 = ((textQ l t2).1, (textQ l t2).2) := rfl
            have cC := fun W (h : XS W x r g c l t2) => xtextQ h hi2 hl
            have hi3 := textQ_in (l := l) (s := t2) hi2 hl
            generalize (textQ l t2).1 = dd at hC cC hi3
            generalize (textQ l t2).2 = t3 at hC cC hi3
            have hY : condQ l t3 = ((condQ l t3).1, (condQ l t3).2) := rfl
            have cY := fun W (h : XS W x r g c l t3) => xcondQ h hi3 hl
            have hi4 := condQ_in (l := l) (s := t3) hi3 hl
            generalize (condQ l t3).1 = y at hY cY hi4
            generalize (condQ l t3).2 = t4 at hY cY hi4
            have ho := opQ_put hm1 hM hT hC hY
            obtain ⟨ya, yb⟩ := y
            simp only at ho cY
            have hway : (t1.bad = false ∧ (m == 1) = false ∧ ((m : Int) == 1) = false ∧ (m : Int) ≤ 1 ∧ decide (1 < m) = false ∧ decide ((1 : Int) < m) = false) ∨ (t1.bad = false ∧ ((m : Int) == 1) = false ∧ (1 : Int) < m ∧ decide (1 < m) = true) ∨ (t1.bad = true ∧ ((m : Int) == 1) = false ∧ decide (1 < m) = true) := by
              have hm : ((m : Int) == 1) = false := beq_eq_false_iff_ne.2 (by omega)
              by_cases a1 : m ≤ 1
              · exact .inl ⟨by rw [hbad]; simp; omega, by simpa using hm1, hm, by omega, by simp; omega, by simp; omega⟩
              · by_cases a2 : m ≤ 2147483647
                · exact .inr (.inl ⟨by rw [hbad]; simp; omega, hm, by omega, by simp; omega⟩)
                · exact .inr (.inr ⟨by rw [hbad]; simp; omega, hm, by simp; omega⟩)
            have CE := Lib.hid cE
            have CM := Lib.hid cM
            have CT := Lib.hid cT
            have CC := Lib.hid cC
            have CY := Lib.hid cY
            have HO := Lib.hid ho
            clear cE cM cT cC cY ho hbad hM hT hC hY hR hgo hi1 hi2 hi3 hm1
            rcases hway with ⟨b1, b5, b2, b3, b4, b6⟩ | ⟨b1, b2, b3, b4⟩ | ⟨b1, b2, b4⟩
            all_goals
              have HB1 := Lib.hid b1
              have HB4 := Lib.hid b4
              clear b1 b4
              go_wp2_with fail
              refine CE.out.mono ?_
              rintro e' w2 ⟨rfl, hw⟩
              obtain rfl := hw.symm
              go_wp2_with fail
              refine CM.out.mono ?_
              rintro e' v1 ⟨rfl, hx1, hk1⟩
              have p1 := hx1.box.cell 1 rfl
              rw [HB1.out] at p1
              have g1 := hx1.box.free 1 (v := .bool _) rfl
              have hx1' : ∀ b, b = (t1.bad || decide (1 < m)) → XS (v1.setCell ⟨x, 1, none⟩ (.bool b)) x r g c l (t1.or (decide (1 < m))) := by
                intro b hb
                have := hx1.mark b
                unfold XS St.or; rw [← hb]; exact this
              have hk1' : ∀ b, Kept r x wr (v1.setCell ⟨x, 1, none⟩ (.bool b)) := fun b => hk1.setx 1 (.bool b)
              have HX1 := Lib.hid hx1'
              have HK1 := Lib.hid hk1'
              clear q0 q1' f1' hx1 hx1' hk1'
              go_wp2_with fail
              refine (CT.out _ (HX1.out _ (by rw [HB1.out, HB4.out]; rfl))).mono ?_
              rintro e' v2 ⟨rfl, hx2, hk2⟩
              have hk1' := HK1.out _ |>.trans hk2
              have hz2 : w.heap.size ≤ v2.heap.size := Nat.le_trans HK.out.size hk1'.size
              have hx2' := hx2.kept ((Below.refl _ _).alloc (Nat.le_refl _) (.cells #[.bool false, .string ⟨u.toArray⟩, .string ⟨#[]⟩, .int .i64 0, .int .i64 0] 40))
              have hb2 := Box.new v2 #[.bool false, .string ⟨u.toArray⟩, .string ⟨#[]⟩, .int .i64 0, .int .i64 0] 40
              have d0 := hb2.cell 0 rfl
              have hv2 := ((HV.out.grownTo hk1' (by omega) (by omega)).alloc (.cells #[.bool false, .string ⟨u.toArray⟩, .string ⟨#[]⟩, .int .i64 0, .int .i64 0] 40))
              have hkk := (HK.out.trans hk1').trans (Kept.of_below ((Below.refl _ v2).alloc (Nat.le_refl _) (.cells #[.bool false, .string ⟨u.toArray⟩, .string ⟨#[]⟩, .int .i64 0, .int .i64 0] 40)))
              have hnb := HV.out.not (n := v2.heap.size) hk1'.size
              clear hx2 p1 g1
              go_wp2_with fail
              refine (CC.out _ hx2').mono ?_
              rintro e' v3 ⟨rfl, hx3, hk3⟩
              have hb3 := hb2.kept hk3 (by omega) (by omega)
              have hz3 := hk3.size
              simp at hz3
              have hv3 := hv2.grownTo hk3 (by omega) (by omega)
              have hkk := hkk.trans hk3
              clear d0 hb2 hv2 hx2'
              have e2 := hb3.cell 2 rfl
              have f2 := hb3.free 2 (v := .string ⟨#[]⟩) rfl
              have hb3 := hb3.set_ 2 (by simp) (.string ⟨dd.toArray⟩)
              have hv3 := hv3.far ⟨v2.heap.size, 2, none⟩ hnb (.string ⟨dd.toArray⟩)
              have hx3 := hx3.far ⟨v2.heap.size, 2, none⟩ (by simp; omega) (by simp; omega) (by simp; omega) (.string ⟨dd.toArray⟩)
              have hkk := hkk.new ⟨v2.heap.size, 2, none⟩ hz2 (.string ⟨dd.toArray⟩)
              have HX3' := Lib.hid hx3
              clear hx3
              go_wp2_with fail
              refine (CY.out _ HX3'.out).mono ?_
              rintro e' v4 ⟨rfl, hx4, hk4⟩
              have hb4 := hb3.kept hk4 (by omega) (by omega)
              have hz4 := hk4.size
              simp at hz4
              have hv4 := hv3.grownTo hk4 (by omega) (by omega)
              have hkk := hkk.trans hk4
              clear hb3 hv3 e2 f2
              have e3 := hb4.cell 3 rfl
              have e4 := hb4.cell 4 rfl
              have f3 := hb4.free 3 (v := .int .i64 0) rfl
              have f4 := hb4.free 4 (v := .int .i64 0) rfl
              have hb5 := (hb4.set_ 3 (by simp) (.int .i64 ya)).set_ 4 (by simp) (.int .i64 yb)
              have k0 := hb5.cell 0 rfl
              have k1 := hb5.cell 1 rfl
              have k2 := hb5.cell 2 rfl
              have k3 := hb5.cell 3 rfl
              have k4 := hb5.cell 4 rfl
              have hv5 := (hv4.far ⟨v2.heap.size, 3, none⟩ hnb (.int .i64 ya)).far ⟨v2.heap.size, 4, none⟩ hnb (.int .i64 yb)
              have hx5 := (hx4.far ⟨v2.heap.size, 3, none⟩ (by simp; omega) (by simp; omega) (by simp; omega) (.int .i64 ya)).far ⟨v2.heap.size, 4, none⟩ (by simp; omega) (by simp; omega) (by simp; omega) (.int .i64 yb)
              have hk5 := (hkk.new ⟨v2.heap.size, 3, none⟩ hz2 (.int .i64 ya)).new ⟨v2.heap.size, 4, none⟩ hz2 (.int .i64 yb)
              have HV5 := Lib.hid hv5
              have HX5 := Lib.hid hx5
              have HK5 := Lib.hid hk5
              clear hb4 hb5 hv4 hkk hx4 hv5 hx5 hk5 hnb
              have hs5 : v4.heap.size = ((v4.setCell ⟨v2.heap.size, 3, none⟩ (.int .i64 ya)).setCell ⟨v2.heap.size, 4, none⟩ (.int .i64 yb)).heap.size := by simp
              have hm5 : w.heap.size ≤ ((v4.setCell ⟨v2.heap.size, 3, none⟩ (.int .i64 ya)).setCell ⟨v2.heap.size, 4, none⟩ (.int .i64 yb)).heap.size := by rw [← hs5]; omega
              have hl5 : acc.length + 1 ≤ 4294967296 := by omega
              have HS5 := Lib.hid hs5
              have HM5 := Lib.hid hm5
              have HL5 := Lib.hid hl5
              clear hs5 hm5 hl5
              go_wp2_with (at_builtin; go_must (refine wp_append_op (w0 := w) rfl _ _ rfl w.heap.size (l := acc) ⟨false, ⟨u.toArray⟩, ⟨dd.toArray⟩, ya, yb⟩ HV5.out rfl rfl HS5.out HM5.out HL5.out ?_); intro A cc w5 hr5 hg5)
              simp only [List.length_append, List.length_cons, List.length_nil, Nat.zero_add] at hr5
              have hx6 := (HX5.out.kept ((Below.refl _ _).alloc (Nat.le_refl _) (.cells #[.bool false, .string ⟨u.toArray⟩, .string ⟨dd.toArray⟩, .int .i64 ya, .int .i64 yb] 40))).grown hg5
                (fun e => by have := (HV.out.lt _ e).1; omega) (fun e => by have := (HV.out.lt _ e).1; omega) (fun e => by have := (HV.out.lt _ e).1; omega)
              have hk6 := (HK5.out.trans (Kept.of_below ((Below.refl _ _).alloc (Nat.le_refl _) (.cells #[.bool false, .string ⟨u.toArray⟩, .string ⟨dd.toArray⟩, .int .i64 ya, .int .i64 yb] 40)))).grown hg5 (fun k e => (HV.out.lt _ e).1)
              go_roundw
              case rel => exact NEXT.out _ _ _ t4 HO.out hr5 hx6 hi4 hk6
              case measure => simp [intOf]; omega
        · have e0 : (e == 0) = false := beq_eq_false_iff_ne.2 he
          have CE := Lib.hid cE
          have HF := Lib.hid (FIN.out _ HV.out (STOP.out (.inr (.inl he))))
          clear cE he FIN STOP HV
          go_wp2_with fail
          refine CE.out.mono ?_
          rintro e' w2 ⟨rfl, hw⟩
          obtain rfl := hw.symm
          go_wp2
          go_ret
          exact HF.out
    · clear cE
      have HF := Lib.hid (FIN.out _ HV.out (STOP.out (.inr (.inr (by omega)))))
      clear FIN STOP HV
      go_wp2
      go_ret
      exact HF.out
end Go.Proofs.YtcmoidldalgljaaGreatDoor

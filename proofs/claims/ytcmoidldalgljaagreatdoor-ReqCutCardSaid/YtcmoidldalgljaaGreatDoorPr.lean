/-
  Words for req.Decode: its memory; the sizes of what is read.
-/
import Derived.Test.YtcmoidldalgljaaGreatDoorPp
import Derived.Test.YtcmoidldalgljaaGreatDoorPq
set_option linter.unusedVariables false
set_option linter.unusedSimpArgs false
namespace Go.Proofs.YtcmoidldalgljaaGreatDoor
open Go.RowKit
open Hen

theorem textQ_len (l : List UInt8) (s : St) : (textQ l s).1.length ≤ 20000 := by
  unfold textQ textA
  by_cases h1 : s.e ≠ 0
  · rw [if_pos h1]; simp
  · rw [if_neg h1]
    by_cases h2 : textE l s.p 20000 ≠ 0
    · rw [if_pos h2]; simp
    · rw [if_neg h2]
      have h3 : textE l s.p 20000 = 0 := by simpa using h2
      unfold textE at h3
      split at h3
      · rename_i h4; exact absurd h3 h4
      · split at h3
        · cases h3
        · split at h3
          · cases h3
          · simp only [List.length_take]; omega
def opFits (o : Opx) : Prop := o.uid.size ≤ 20000 ∧ o.card.size ≤ 20000
theorem size_ofL (l : List UInt8) : (⟨l.toArray⟩ : ByteArray).size = l.length := by simp [ByteArray.size]
theorem opQ_fits (l : List UInt8) (s : St) : opFits (opQ l s).1 := by
  unfold opQ opFits
  simp only [size_ofL]
  refine ⟨textQ_len _ _, ?_⟩
  split
  · simp
  · exact textQ_len _ _
theorem loopQ_fits (l : List UInt8) (n : Nat) (s : St) : ∀ o ∈ (loopQ l n s).1, opFits o := by
  induction n generalizing s with
  | zero => intro o ho; simp [loopQ] at ho
  | succ n ih =>
    intro o ho
    unfold loopQ at ho
    split at ho
    · cases ho
    · rcases List.mem_cons.1 ho with rfl | h
      · exact opQ_fits l s
      · exact ih _ o h
theorem loopQ_stop' (l : List UInt8) (n : Nat) (s : St) (h : s.bad = true) : (loopQ l n s).1 = [] := by rw [loopQ_stop l n s (.inl h)]
theorem opsQ_fits (l : List UInt8) (s : St) : (opsQ l s).1.length ≤ 16 ∧ ∀ k, k < (opsQ l s).1.length → (opsQ l s).1[k]!.uid.size ≤ 20000 ∧ (opsQ l s).1[k]!.card.size ≤ 20000 := by
  refine ⟨?_, fun k hk => ?_⟩
  · unfold opsQ
    by_cases h : 16 < (numQ l s).1
    · rw [loopQ_stop' _ _ _ (by simp [St.or, h])]; simp
    · have := loopQ_len l (numQ l s).1 ((numQ l s).2.or (decide (16 < (numQ l s).1)))
      omega
  · rw [getElem!_pos _ k hk]
    exact loopQ_fits l _ _ _ (List.getElem_mem _)
theorem OpsAt.drewN {w : World} {A : Option Addr} {ops : List Opx} (h : OpsAt w A ops) (n : Nat) : OpsAt (w.drewN n) A ops := h.below (below_drawn (Below.refl _ _) n)

theorem loopQ_in {l : List UInt8} (hl : l.length ≤ 1099511627776) (n : Nat) : ∀ {s : St}, In s → In (loopQ l n s).2 := by
  induction n with
  | zero => intro s h; exact h
  | succ n ih =>
    intro s h
    unfold loopQ
    split
    · exact h
    · exact ih (opQ_in h hl)
theorem opsQ_in {l : List UInt8} {s : St} (h : In s) (hl : l.length ≤ 1099511627776) : In (opsQ l s).2 := loopQ_in hl _ (numQ_in h hl)
theorem xlongQ {w : World} {x r g c : Nat} {l : List UInt8} {s : St} (h : XS w x r g c l s) (hs : In s) (hl : l.length ≤ 1099511627776) :
    Calls Tryz.prog 46 #[.pointer (some ⟨r, 0, none⟩)] w fun e w' => e = .returned (.int .i64 (longQ l s).1) ∧ XS w' x r g c l (longQ l s).2 ∧ Kept r x w w' :=
  (rnum_calls w r g c l s.p s.e h.rd hl hs).mono fun e w' ⟨he, hr, hk⟩ => ⟨he, ⟨hr, h.box.kept hk h.ne1 h.ne1, h.ne1, h.ne2⟩, hk.more⟩

abbrev zero11 : List Value := [.int .i64 0, .string ⟨#[]⟩, .string ⟨#[]⟩, .string ⟨#[]⟩, .string ⟨#[]⟩, .int .i64 0, .int .i64 0, .slice none 0 0, .int .i64 0, .int .i64 0, .int .i64 0]
/-- Decode's memory: the result's box b, has's box h, the reader's x, the request's q. -/
structure DX (w0 w : World) (b h x r g c q : Nat) (l : List UInt8) (s : St) (hs qs : List Value) : Prop where
  xs : XS w x r g c l s
  bbox : Box w b zero11
  hbox : Box w h hs
  qbox : Box w q qs
  below : Below w0.heap.size w0 w
  lb : w0.heap.size ≤ b
  bh : b < h
  hr : h < r
  hg : h < g
  rx : r < x
  gx : g < x
  xq : x < q
section
variable {w0 w w' : World} {b h x r g c q : Nat} {l : List UInt8} {s s' : St} {hs qs : List Value}
theorem DX.start {w2 : World} {k : Int} (hrd : RD w2 r g c l 0 0) (bb : Box w2 b zero11) (hb : Box w2 h hs) (bl : Below w0.heap.size w0 w2) (lb : w0.heap.size ≤ b) (bh : b < h) (hr : h < r) (hg : h < g) :
    DX w0 ((w2.alloc (.cells #[.pointer (some ⟨r, 0, none⟩), .bool false] 87)).alloc (.cells #[.int .i64 k, .string ⟨#[]⟩, .string ⟨#[]⟩, .string ⟨#[]⟩, .string ⟨#[]⟩, .int .i64 0, .int .i64 0, .slice none 0 0, .int .i64 0, .int .i64 0, .int .i64 0] 26))
      b h w2.heap.size r g c (w2.heap.size + 1) l ⟨0, 0, false⟩ hs [.int .i64 k, .string ⟨#[]⟩, .string ⟨#[]⟩, .string ⟨#[]⟩, .string ⟨#[]⟩, .int .i64 0, .int .i64 0, .slice none 0 0, .int .i64 0, .int .i64 0, .int .i64 0] where
  xs := by
    have hrl := hrd.box.1
    have hgl := hrd.lt
    have h1 : Box (w2.alloc (.cells #[.pointer (some ⟨r, 0, none⟩), .bool false] 87)) w2.heap.size [.pointer (some ⟨r, 0, none⟩), .bool false] := Box.new w2 #[.pointer (some ⟨r, 0, none⟩), .bool false] 87
    have hb := ((Below.refl w2.heap.size w2).alloc (Nat.le_refl _) (.cells #[.pointer (some ⟨r, 0, none⟩), .bool false] 87)).alloc (by simp) (.cells #[.int .i64 k, .string ⟨#[]⟩, .string ⟨#[]⟩, .string ⟨#[]⟩, .string ⟨#[]⟩, .int .i64 0, .int .i64 0, .slice none 0 0, .int .i64 0, .int .i64 0, .int .i64 0] 26)
    exact ⟨⟨hrd.box.step hb, Nat.lt_of_lt_of_le hrd.lt hb.size, fun i hi => (hb.cell (p := ⟨g, i, none⟩) hrd.lt).trans (hrd.bts i hi), hrd.ne, hrd.cap⟩, h1.alloc _, by omega, by omega⟩
  bbox := (bb.alloc _).alloc _
  hbox := (hb.alloc _).alloc _
  qbox := by
    have := Box.new (w2.alloc (.cells #[.pointer (some ⟨r, 0, none⟩), .bool false] 87)) #[.int .i64 k, .string ⟨#[]⟩, .string ⟨#[]⟩, .string ⟨#[]⟩, .string ⟨#[]⟩, .int .i64 0, .int .i64 0, .slice none 0 0, .int .i64 0, .int .i64 0, .int .i64 0] 26
    simpa using this
  below := (bl.alloc bl.size _).alloc (by have := bl.size; simp; omega) _
  lb := lb
  bh := bh
  hr := hr
  hg := hg
  rx := hrd.box.1
  gx := hrd.lt
  xq := by omega
theorem DX.call (d : DX w0 w b h x r g c q l s hs qs) (hx : XS w' x r g c l s') (hk : Kept r x w w') : DX w0 w' b h x r g c q l s' hs qs where
  xs := hx
  bbox := d.bbox.kept hk (by have := d.bh; have := d.hr; omega) (by have := d.bh; have := d.hr; have := d.rx; omega)
  hbox := d.hbox.kept hk (by have := d.hr; omega) (by have := d.hr; have := d.rx; omega)
  qbox := d.qbox.kept hk (by have := d.rx; have := d.xq; omega) (by have := d.xq; omega)
  below := ⟨hk.os.trans d.below.os, hk.tape.trans d.below.tape, hk.output.trans d.below.output, Nat.le_trans d.below.size hk.size, fun i hi => (hk.block i (Nat.lt_of_lt_of_le hi d.below.size) (by have := d.lb; have := d.bh; have := d.hr; omega) (by have := d.lb; have := d.bh; have := d.hr; have := d.rx; omega)).trans (d.below.block i hi)⟩
  lb := d.lb
  bh := d.bh
  hr := d.hr
  hg := d.hg
  rx := d.rx
  gx := d.gx
  xq := d.xq
theorem DX.set (d : DX w0 w b h x r g c q l s hs qs) (i : Nat) (hi : i < qs.length) (v : Value) : DX w0 (w.setCell ⟨q, i, none⟩ v) b h x r g c q l s hs (qs.set i v) where
  xs := d.xs.far ⟨q, i, none⟩ (by have := d.xq; simp; omega) (by have := d.xq; have := d.rx; simp; omega) (by have := d.xq; have := d.gx; simp; omega) v
  bbox := d.bbox.far (by have := d.xq; have := d.bh; have := d.hr; have := d.rx; simp; omega) v
  hbox := d.hbox.far (by have := d.xq; have := d.hr; have := d.rx; simp; omega) v
  qbox := d.qbox.set_ i hi v
  below := d.below.setCell (by have := d.xq; have := d.lb; have := d.bh; have := d.hr; have := d.rx; simp; omega) v
  lb := d.lb
  bh := d.bh
  hr := d.hr
  hg := d.hg
  rx := d.rx
  gx := d.gx
  xq := d.xq
theorem DX.drewN (d : DX w0 w b h x r g c q l s hs qs) (n : Nat) : DX w0 (w.drewN n) b h x r g c q l s hs qs where
  xs := d.xs.kept (below_drawn (Below.refl _ _) n)
  bbox := d.bbox.drewN n
  hbox := d.hbox.drewN n
  qbox := d.qbox.drewN n
  below := below_drawn d.below n
  lb := d.lb
  bh := d.bh
  hr := d.hr
  hg := d.hg
  rx := d.rx
  gx := d.gx
  xq := d.xq
end
theorem DX.step {w0 w w' : World} {b h x r g c q : Nat} {l : List UInt8} {s : St} {hs qs : List Value} (d : DX w0 w b h x r g c q l s hs qs) (hb : Below w.heap.size w w') : DX w0 w' b h x r g c q l s hs qs where
  xs := d.xs.kept hb
  bbox := d.bbox.step hb
  hbox := d.hbox.step hb
  qbox := d.qbox.step hb
  below := below_step d.below d.below.size hb
  lb := d.lb
  bh := d.bh
  hr := d.hr
  hg := d.hg
  rx := d.rx
  gx := d.gx
  xq := d.xq
theorem ORow.not2 {w : World} {B : Nat} {v : Value} {l : List Opx} (h : ORow w B v l) {n : Nat} (hn : n < B) : v.ownBlock ≠ some n := fun e => by have := (h.lt n e).1; omega
theorem box_fill {W w0 : World} {b : Nat} (h : Box W b zero11) (hb : Below w0.heap.size w0 W) (lb : w0.heap.size ≤ b) (a0 a1 a2 a3 a4 a5 a6 a7 a8 a9 a10 : Value) :
    Box (((((((((((W.setCell ⟨b, 0, none⟩ a0).setCell ⟨b, 1, none⟩ a1).setCell ⟨b, 2, none⟩ a2).setCell ⟨b, 3, none⟩ a3).setCell ⟨b, 4, none⟩ a4).setCell ⟨b, 5, none⟩ a5).setCell ⟨b, 6, none⟩ a6).setCell ⟨b, 7, none⟩ a7).setCell ⟨b, 8, none⟩ a8).setCell ⟨b, 9, none⟩ a9).setCell ⟨b, 10, none⟩ a10) b [a0, a1, a2, a3, a4, a5, a6, a7, a8, a9, a10] ∧ Below w0.heap.size w0 (((((((((((W.setCell ⟨b, 0, none⟩ a0).setCell ⟨b, 1, none⟩ a1).setCell ⟨b, 2, none⟩ a2).setCell ⟨b, 3, none⟩ a3).setCell ⟨b, 4, none⟩ a4).setCell ⟨b, 5, none⟩ a5).setCell ⟨b, 6, none⟩ a6).setCell ⟨b, 7, none⟩ a7).setCell ⟨b, 8, none⟩ a8).setCell ⟨b, 9, none⟩ a9).setCell ⟨b, 10, none⟩ a10) :=
  ⟨(((((((((((h.set_ 0 (by simp) a0).set_ 1 (by simp) a1).set_ 2 (by simp) a2).set_ 3 (by simp) a3).set_ 4 (by simp) a4).set_ 5 (by simp) a5).set_ 6 (by simp) a6).set_ 7 (by simp) a7).set_ 8 (by simp) a8).set_ 9 (by simp) a9).set_ 10 (by simp) a10), (((((((((((hb.setCell lb a0).setCell lb a1).setCell lb a2).setCell lb a3).setCell lb a4).setCell lb a5).setCell lb a6).setCell lb a7).setCell lb a8).setCell lb a9).setCell lb a10)⟩
theorem ORow.fill {W : World} {B b : Nat} {v : Value} {l : List Opx} (h : ORow W B v l) (hn : v.ownBlock ≠ some b) (a0 a1 a2 a3 a4 a5 a6 a7 a8 a9 a10 : Value) : ORow (((((((((((W.setCell ⟨b, 0, none⟩ a0).setCell ⟨b, 1, none⟩ a1).setCell ⟨b, 2, none⟩ a2).setCell ⟨b, 3, none⟩ a3).setCell ⟨b, 4, none⟩ a4).setCell ⟨b, 5, none⟩ a5).setCell ⟨b, 6, none⟩ a6).setCell ⟨b, 7, none⟩ a7).setCell ⟨b, 8, none⟩ a8).setCell ⟨b, 9, none⟩ a9).setCell ⟨b, 10, none⟩ a10) B v l :=
  (((((((((((h.far ⟨b, 0, none⟩ hn a0).far ⟨b, 1, none⟩ hn a1).far ⟨b, 2, none⟩ hn a2).far ⟨b, 3, none⟩ hn a3).far ⟨b, 4, none⟩ hn a4).far ⟨b, 5, none⟩ hn a5).far ⟨b, 6, none⟩ hn a6).far ⟨b, 7, none⟩ hn a7).far ⟨b, 8, none⟩ hn a8).far ⟨b, 9, none⟩ hn a9).far ⟨b, 10, none⟩ hn a10)
def DecPost (k : Int) (l : List UInt8) (w : World) (e : Ending) (w' : World) : Prop := ∃ A c, e = .returned (.tuple #[(decR k l).val A c, .int .i64 (decE k l)]) ∧ OpsAt w' A (decR k l).ops ∧ Below w.heap.size w w'
end Go.Proofs.YtcmoidldalgljaaGreatDoor

/-
  Plain: the order of fields is strict and total; a sorted row without its repeats is one list.
-/
import Derived.Test.YtcmoidldalgljaaGreatDoorPf
import Derived.Shelf.SlSortCmp.NoneTotal
set_option linter.unusedVariables false
set_option linter.unusedSimpArgs false
namespace Go.Proofs.YtcmoidldalgljaaGreatDoor
open Go.Lib Go.Sort
open Hen

theorem lessF_iff (a b : Fld) : lessF a b = true ↔ a.k < b.k ∨ (a.k = b.k ∧ (a.l < b.l ∨ (a.l = b.l ∧ a.v.data.toList < b.v.data.toList))) := by
  unfold lessF
  by_cases h : a.k = b.k
  · by_cases h' : a.l = b.l
    · simp [h, h']
    · simp [h, h']
  · simp [h]
theorem lessF_irrefl (a : Fld) : lessF a a = false := by
  cases h : lessF a a with
  | false => rfl
  | true =>
    rw [lessF_iff] at h
    rcases h with h | ⟨_, h | ⟨_, h⟩⟩
    · omega
    · omega
    · exact absurd h (List.lt_irrefl _)
theorem lessF_trans {a b c : Fld} (h1 : lessF a b = true) (h2 : lessF b c = true) : lessF a c = true := by
  rw [lessF_iff] at *
  rcases h1 with h1 | ⟨e1, h1 | ⟨g1, h1⟩⟩ <;> rcases h2 with h2 | ⟨e2, h2 | ⟨g2, h2⟩⟩
  all_goals first
    | (exact .inl (by omega))
    | (exact .inr ⟨by omega, .inl (by omega)⟩)
    | (exact .inr ⟨by omega, .inr ⟨by omega, List.lt_trans h1 h2⟩⟩)
theorem lessF_total {a b : Fld} (h1 : lessF a b = false) (h2 : lessF b a = false) : a = b := by
  have n1 : ¬ lessF a b = true := by rw [h1]; simp
  have n2 : ¬ lessF b a = true := by rw [h2]; simp
  rw [lessF_iff] at n1 n2
  have hk : a.k = b.k := by omega
  have hl : a.l = b.l := by omega
  have hv : a.v.data.toList = b.v.data.toList := by
    have m1 : ¬ a.v.data.toList < b.v.data.toList := fun h => n1 (.inr ⟨hk, .inr ⟨hl, h⟩⟩)
    have m2 : ¬ b.v.data.toList < a.v.data.toList := fun h => n2 (.inr ⟨hk.symm, .inr ⟨hl.symm, h⟩⟩)
    exact List.le_antisymm (List.not_lt.1 m2) (List.not_lt.1 m1)
  obtain ⟨ak, al, av⟩ := a
  obtain ⟨bk, bl, bv⟩ := b
  simp only at hk hl hv
  have := congrArg (fun l => (⟨l.toArray⟩ : ByteArray)) hv
  simp only [mk_of] at this
  rw [hk, hl, this]
theorem ltOf_ord (a b : Fld) : ltOf ordF a b = lessF a b := by
  unfold ltOf ordF
  cases h : lessF a b with
  | true => simp
  | false => cases h' : lessF b a <;> simp
theorem lessF_asym {a b : Fld} (h : lessF a b = true) : lessF b a = false := by
  cases h' : lessF b a with
  | false => rfl
  | true => have := lessF_trans h h'; rw [lessF_irrefl] at this; cases this
theorem lessF_ntrans {a b c : Fld} (h1 : lessF a b = false) (h2 : lessF b c = false) : lessF a c = false := by
  cases h : lessF a c with
  | false => rfl
  | true =>
    exfalso
    cases h3 : lessF b a with
    | true => have := lessF_trans h3 h; rw [h2] at this; cases this
    | false =>
      have := lessF_total h1 h3
      subst this
      rw [h] at h2; cases h2
theorem swoF : SWO (ltOf ordF) where
  irrefl x := by rw [ltOf_ord]; exact lessF_irrefl x
  trans x y z h1 h2 := by rw [ltOf_ord] at *; exact lessF_trans h1 h2
  ntrans x y z h1 h2 := by rw [ltOf_ord] at *; exact lessF_ntrans h1 h2

namespace Hen
/-- x, laid into a strictly rising list; nothing where it is there. -/
def insF (x : Fld) : List Fld → List Fld
  | [] => [x]
  | y :: l => if lessF x y then x :: y :: l else if lessF y x then y :: insF x l else y :: l
def sortD (l : List Fld) : List Fld := l.foldr insF []
end Hen

theorem mem_insF (x z : Fld) (l : List Fld) : z ∈ insF x l ↔ z = x ∨ z ∈ l := by
  induction l with
  | nil => simp [insF]
  | cons y l ih =>
    unfold insF
    split
    · simp
    · split
      · simp only [List.mem_cons, ih]; constructor
        · rintro (h | h | h) <;> simp [h]
        · rintro (h | h | h) <;> simp [h]
      · rename_i h1 h2
        have : x = y := lessF_total (by simpa using h1) (by simpa using h2)
        subst this
        simp
theorem mem_sortD (z : Fld) (l : List Fld) : z ∈ sortD l ↔ z ∈ l := by
  induction l with
  | nil => simp [sortD]
  | cons y l ih =>
    show z ∈ insF y (sortD l) ↔ _
    rw [mem_insF, ih, List.mem_cons]
theorem strict_insF (x : Fld) (l : List Fld) (h : l.Pairwise fun a b => lessF a b = true) : (insF x l).Pairwise fun a b => lessF a b = true := by
  induction l with
  | nil => simp [insF]
  | cons y l ih =>
    rw [List.pairwise_cons] at h
    unfold insF
    split
    · rename_i h1
      rw [List.pairwise_cons, List.pairwise_cons]
      refine ⟨fun z hz => ?_, h⟩
      rcases List.mem_cons.1 hz with rfl | hz
      · exact h1
      · exact lessF_trans h1 (h.1 z hz)
    · split
      · rename_i h1 h2
        rw [List.pairwise_cons]
        refine ⟨fun z hz => ?_, ih h.2⟩
        rcases (mem_insF x z l).1 hz with rfl | hz
        · exact h2
        · exact h.1 z hz
      · rw [List.pairwise_cons]; exact h
theorem strict_sortD (l : List Fld) : (sortD l).Pairwise fun a b => lessF a b = true := by
  induction l with
  | nil => simp [sortD]
  | cons y l ih => exact strict_insF y _ ih
theorem strict_unique : ∀ (l m : List Fld), (l.Pairwise fun a b => lessF a b = true) → (m.Pairwise fun a b => lessF a b = true) → (∀ z, z ∈ l ↔ z ∈ m) → l = m
  | [], [], _, _, _ => rfl
  | [], y :: m, _, _, h => by have := (h y).2 (by simp); simp at this
  | x :: l, [], _, _, h => by have := (h x).1 (by simp); simp at this
  | x :: l, y :: m, hl, hm, h => by
    rw [List.pairwise_cons] at hl hm
    have hxy : x = y := by
      rcases List.mem_cons.1 ((h x).1 (by simp)) with e | e
      · exact e
      · rcases List.mem_cons.1 ((h y).2 (by simp)) with e' | e'
        · exact e'.symm
        · have := lessF_trans (hm.1 x e) (hl.1 y e')
          rw [lessF_irrefl] at this; cases this
    subst hxy
    congr 1
    refine strict_unique l m hl.2 hm.2 fun z => ⟨fun hz => ?_, fun hz => ?_⟩
    · rcases List.mem_cons.1 ((h z).1 (by simp [hz])) with e | e
      · subst e; have := hl.1 z hz; rw [lessF_irrefl] at this; cases this
      · exact e
    · rcases List.mem_cons.1 ((h z).2 (by simp [hz])) with e | e
      · subst e; have := hm.1 z hz; rw [lessF_irrefl] at this; cases this
      · exact e

theorem compact_strict (d : Array Fld) (hs : SortedIn (ltOf ordF) 0 d.size d) : (compactUpTo d d.size).Pairwise fun a b => lessF a b = true := by
  unfold compactUpTo
  rw [List.pairwise_map, List.pairwise_filter]
  have hlt : (List.range d.size).Pairwise fun i j => i < j := List.pairwise_lt_range
  refine List.Pairwise.imp_of_mem ?_ hlt
  intro i j hi hj hij _ hkj
  have hj' : j < d.size := by simpa using hj
  unfold keeps at hkj
  have hne : d[j]! ≠ d[j - 1]! := by
    rcases of_decide_eq_true hkj with h | h
    · omega
    · exact h
  have h1 : lessF d[j]! d[j - 1]! = false := by rw [← ltOf_ord]; exact hs (j - 1) j (Nat.zero_le _) (by omega) hj'
  have h2 : lessF d[j - 1]! d[j]! = true := by
    cases h : lessF d[j - 1]! d[j]! with
    | true => rfl
    | false => exact absurd (lessF_total h1 h) hne
  by_cases e : i = j - 1
  · subst e; exact h2
  · have h3 : lessF d[j - 1]! d[i]! = false := by rw [← ltOf_ord]; exact hs i (j - 1) (Nat.zero_le _) (by omega) (by omega)
    cases h4 : lessF d[i]! d[j - 1]! with
    | true => exact lessF_trans h4 h2
    | false => rw [lessF_total h4 h3]; exact h2
theorem compact_mem (d : Array Fld) (z : Fld) : z ∈ compactUpTo d d.size ↔ z ∈ d.toList := by
  have hm : z ∈ d.toList ↔ ∃ i, i < d.size ∧ d[i]! = z := by
    rw [List.mem_iff_getElem]
    constructor
    · rintro ⟨i, hi, h⟩
      exact ⟨i, by simpa using hi, by rw [getElem!_pos d i (by simpa using hi)]; simpa using h⟩
    · rintro ⟨i, hi, h⟩
      exact ⟨i, by simpa using hi, by rw [getElem!_pos d i hi] at h; simpa using h⟩
  rw [hm]
  unfold compactUpTo
  simp only [List.mem_map, List.mem_filter, List.mem_range]
  constructor
  · rintro ⟨i, ⟨hi, _⟩, h⟩
    exact ⟨i, hi, h⟩
  · rintro ⟨i, hi, h⟩
    induction i with
    | zero => exact ⟨0, ⟨hi, by simp [keeps]⟩, h⟩
    | succ i ih =>
      by_cases e : d[i + 1]! = d[i]!
      · exact ih (by omega) (by rw [← e]; exact h)
      · exact ⟨i + 1, ⟨hi, by simp [keeps]; exact e⟩, h⟩
/-- What Sort and Compact leave. -/
theorem compact_sorted (fs : List Fld) (d : Array Fld) (hp : PermIn 0 fs.toArray.size fs.toArray d) (hs : SortedIn (ltOf ordF) 0 fs.toArray.size d) : compactUpTo d d.size = sortD fs ∧ d.size = fs.length := by
  have hz : d.size = fs.length := by simpa using hp.1
  refine ⟨strict_unique _ _ (compact_strict d (by rw [hz]; simpa using hs)) (strict_sortD fs) fun z => ?_, hz⟩
  rw [compact_mem, mem_sortD]
  have h := hp.2.2
  have e1 : d.extract 0 fs.toArray.size = d := by rw [show fs.toArray.size = d.size by simp [hz]]; simp
  have e2 : fs.toArray.extract 0 fs.toArray.size = fs.toArray := by simp
  rw [e1, e2] at h
  simpa using h.mem_iff
end Go.Proofs.YtcmoidldalgljaaGreatDoor
set_option linter.unusedVariables false
set_option linter.unusedSimpArgs false
namespace Go.Proofs.YtcmoidldalgljaaGreatDoor
open Go.RowKit Go.Lib Go.Sort
open Hen

def cellsF (fs : List Fld) : List Value := fs.flatMap Fld.cells
theorem cellsF_length (fs : List Fld) : (cellsF fs).length = fs.length * 3 := by
  induction fs with
  | nil => rfl
  | cons x l ih => simp [cellsF] at ih ⊢; rw [ih]; simp [Fld.cells]; omega
theorem cellsF_get (fs : List Fld) (i j : Nat) (hi : i < fs.length) (hj : j < 3) : (cellsF fs)[i * 3 + j]? = fs[i]!.cells[j]? := by
  induction fs generalizing i with
  | nil => simp at hi
  | cons x l ih =>
    have e : cellsF (x :: l) = x.cells ++ cellsF l := rfl
    rw [e]
    cases i with
    | zero => rw [List.getElem?_append_left (by rw [cells3]; omega)]; simp
    | succ i =>
      rw [List.getElem?_append_right (by rw [cells3]; omega), cells3, show (i + 1) * 3 + j - 3 = i * 3 + j by omega, ih i (by simpa using hi)]
      simp
theorem cellsF_take (fs : List Fld) (k : Nat) : (cellsF fs).take (k * 3) = cellsF (fs.take k) := by
  induction fs generalizing k with
  | nil => simp [cellsF]
  | cons x l ih =>
    cases k with
    | zero => simp [cellsF]
    | succ k =>
      have e : cellsF (x :: l) = x.cells ++ cellsF l := rfl
      rw [e, List.take_append, cells3, show (k + 1) * 3 - 3 = k * 3 by omega, ih k, List.take_succ_cons, List.take_of_length_le (by rw [cells3]; omega)]
      rfl
theorem flat_cells (d : Array Fld) : (flatK Fld.cells 3 d).toList = cellsF d.toList := by
  apply List.ext_getElem?
  intro t
  by_cases h : t < d.size * 3
  · rw [Array.getElem?_toList, Array.getElem?_eq_getElem (by simpa using h)]
    have := get_flatK Fld.cells 3 d t h
    rw [getElem!_pos _ _ (by simpa using h)] at this
    have e := cellsF_get d.toList (t / 3) (t % 3) (by simp; omega) (by omega)
    rw [show t / 3 * 3 + t % 3 = t by omega] at e
    rw [this, e]
    have hd : d.toList[t / 3]! = d[t / 3]! := by rw [getElem!_pos d.toList (t / 3) (by simp; omega), getElem!_pos d (t / 3) (by omega)]; simp
    rw [hd, getElem!_pos (d[t / 3]!.cells) (t % 3) (by rw [cells3]; omega), List.getElem?_eq_getElem]
  · rw [List.getElem?_eq_none (by simp; omega), List.getElem?_eq_none (by rw [cellsF_length]; simp; omega)]

def FRow (w : World) (B : Nat) (v : Value) (fs : List Fld) : Prop := w.ownsRow B 129 3 v fs.length (cellsF fs)
theorem FRow.nil_ (w : World) (B : Nat) : FRow w B (.slice none 0 0) [] := World.ownsRow_nil _ _ _ _
theorem FRow.shape {w : World} {B : Nat} {v : Value} {l : List Fld} (h : FRow w B v l) : ∃ A c, v = .slice A l.length c := by
  rcases h.2 with ⟨rfl, h0⟩ | ⟨g, cap, cur, rfl, _⟩
  · exact ⟨none, 0, by rw [h0]⟩
  · exact ⟨_, cap, rfl⟩
theorem FRow.base {w : World} {B : Nat} {v : Value} {l : List Fld} (h : FRow w B v l) : ∀ k, v.ownBlock = some k → B ≤ k := fun k hk => (World.ownsRow.lt h k hk).1
theorem FRow.alloc {w : World} {B : Nat} {v : Value} {l : List Fld} (h : FRow w B v l) (o : Obj) : FRow (w.alloc o) B v l := World.ownsRow.alloc h o
theorem FRow.below {w w1 : World} {B : Nat} {v : Value} {l : List Fld} (h : FRow w B v l) (hb : Below w.heap.size w w1) : FRow w1 B v l :=
  World.ownsRow.kept h (row := none) ⟨hb.os, hb.tape, hb.output, hb.size, fun i hi _ => hb.block i hi⟩ (by cases v.ownBlock <;> simp)
theorem FRow.low {w : World} {B B' : Nat} {v : Value} {l : List Fld} (h : FRow w B v l) (hB : B' ≤ B) : FRow w B' v l := by
  refine ⟨h.1, ?_⟩
  rcases h.2 with h | ⟨g, cap, cur, e, hb, r⟩
  · exact .inl h
  · exact .inr ⟨g, cap, cur, e, by omega, r⟩
/-- Down to the sort's words. -/
theorem FRow.down {w : World} {B : Nat} {v : Value} {l : List Fld} (h : FRow w B v l) (h0 : 0 < l.length) :
    ∃ g cap, v = .slice (some ⟨g, 0, none⟩) l.length cap ∧ B ≤ g ∧ g < w.heap.size ∧ l.length ≤ cap ∧ cap ≤ maxLen ∧ HF w g l.toArray := by
  rcases h.2 with ⟨_, e0⟩ | ⟨g, cap, cur, rfl, hb, hg, hn, hm, hs, ht⟩
  · omega
  · have hlt : g < w.heap.size := by
      rcases Nat.lt_or_ge g w.heap.size with h' | h'
      · exact h'
      · rw [Array.getElem?_eq_none h'] at hg; cases hg
    refine ⟨g, cap, rfl, hb, hlt, hn, hm, fun j hj => ?_⟩
    have hj' : j < l.length * 3 := by simpa using hj
    refine ⟨?_, by simp [World.frozen?, hg]⟩
    have e1 : (cur.toList.take (l.length * 3))[j]? = (cellsF l)[j]? := by rw [ht]
    have e2 := flat_cells l.toArray
    rw [List.getElem?_take_of_lt hj', Array.getElem?_toList] at e1
    simp only [World.cell?, hg, Nat.zero_add]
    simp only [Option.isSome_none, Bool.false_eq_true, if_false]
    rw [e1]
    have e3 : (cellsF l)[j]? = (flatK Fld.cells 3 l.toArray)[j]? := by rw [← Array.getElem?_toList, e2]
    rw [e3, Array.getElem?_eq_getElem (by simpa using hj'), getElem!_pos _ _ (by simpa using hj')]
    rfl
/-- An element's cells. -/
theorem FRow.at_ {w : World} {B : Nat} {v : Value} {l : List Fld} (h : FRow w B v l) (i : Nat) (hi : i < l.length) (x : Fld) (hx : l[i]! = x) :
    ∃ g cap, v = .slice (some ⟨g, 0, none⟩) l.length cap ∧ B ≤ g ∧ g < w.heap.size ∧ w.cell? ⟨g, i * 3, none⟩ = some (.int .i64 x.k) ∧ w.cell? ⟨g, i * 3 + 1, none⟩ = some (.int .i64 x.l) ∧ w.cell? ⟨g, i * 3 + 2, none⟩ = some (.string x.v) := by
  obtain ⟨g, cap, hv, hb, hlt, _, _, hh⟩ := h.down (by omega)
  obtain ⟨c0, c1, c2, _⟩ := HF.at_ hh i (by simpa using hi) x (by simpa using hx)
  exact ⟨g, cap, hv, hb, hlt, c0, c1, c2⟩
/-- Up again, cut to the first k. -/
theorem FRow.up {w : World} {B : Nat} {g n cap q k : Nat} {l : List Fld} (h : FRow w B (.slice (some ⟨g, 0, none⟩) l.length cap) l) (d : Array Fld) (hd : d.size = l.length) (hk : k ≤ l.length) (os : Array Obj) :
    FRow (grow (putF (Sort.ahead w q) g d) os) B (.slice (some ⟨g, 0, none⟩) (d.toList.take k).length cap) (d.toList.take k) := by
  have hlen : (d.toList.take k).length = k := by simp; omega
  rcases h.2 with ⟨e0, _⟩ | ⟨g', cap', cur, e0, hb, hg, hn, hm, hs, ht⟩
  · cases e0
  · injection e0 with e1 _ e3
    injection e1 with e1
    injection e1 with e1
    subst e1; subst e3
    have hlt : g < w.heap.size := by
      rcases Nat.lt_or_ge g w.heap.size with h' | h'
      · exact h'
      · rw [Array.getElem?_eq_none h'] at hg; cases hg
    refine ⟨cellsF_length _, .inr ⟨g, cap, putCells id 0 (flatK Fld.cells 3 d) cur, by rw [hlen], hb, ?_, by omega, hm, by simpa [putCells] using hs, ?_⟩⟩
    · rw [heap_grow_old _ _ (by simpa [putF, putRowK, putRow, mapBlock, Sort.ahead] using hlt)]
      simp [putF, putRowK, putRow, mapBlock, Sort.ahead, Array.getElem?_modify, hg, onCells]
    · rw [hlen, ← cellsF_take, ← flat_cells]
      apply List.ext_getElem?
      intro j
      rw [List.getElem?_take, List.getElem?_take, Array.getElem?_toList, Array.getElem?_toList]
      by_cases hj : j < k * 3
      · have hjc : j < cur.size := by omega
        have hjf : j < (flatK Fld.cells 3 d).size := by simp; omega
        rw [if_pos hj, if_pos hj]
        simp only [putCells, Array.getElem?_mapIdx, Array.getElem?_eq_getElem hjc, Option.map_some]
        rw [if_pos (by simp at hjf ⊢; omega), Array.getElem?_eq_getElem hjf]
        rw [Nat.sub_zero, getElem!_pos _ j hjf]; rfl
      · rw [if_neg hj, if_neg hj]
theorem below_putF {B : Nat} {w0 w : World} {g q : Nat} {d : Array Fld} (h : Below B w0 w) (hB : B ≤ w.heap.size) (hg : B ≤ g) (os : Array Obj) : Below B w0 (grow (putF (Sort.ahead w q) g d) os) :=
  ⟨h.os, h.tape, h.output, by have := h.size; simp [putF, putRowK, putRow, mapBlock, Sort.ahead]; omega, fun k hk => by
    rw [← h.block k hk]
    have hkw : k < w.heap.size := by omega
    rw [heap_grow_old _ _ (by simpa [putF, putRowK, putRow, mapBlock, Sort.ahead] using hkw)]
    simp [putF, putRowK, putRow, mapBlock, Sort.ahead, Array.getElem?_modify, show g ≠ k by omega]⟩
theorem grow_none (w : World) : grow w #[] = w := by simp [grow]

theorem sort_calls (B : Nat) (v : Value) (fs : List Fld) (w : World) (h : FRow w B v fs) (hB : B ≤ w.heap.size) (hn : fs.length < 4611686018427387904) :
    Calls Tryz.prog 113 #[v, .func (.func 114) #[] #[]] w fun e w' => e = .returned (.tuple #[]) ∧ ∃ ds : List Fld, ds.length = fs.length ∧ FRow w' B v ds ∧ Below B w w' ∧ compact ds = sortD fs := by
  have eg : ∀ args w, (callFunc 114 args).run Tryz.prog w = .ok (.enter 114 args) w := Go.Proofs.enters_of Tryz.func114 (by kernel_rfl) rfl
  rcases Nat.eq_zero_or_pos fs.length with h0 | h0
  · obtain rfl : fs = [] := List.eq_nil_of_length_eq_zero h0
    obtain ⟨A, c, rfl⟩ := h.shape
    have hcon := AnyF.slices_SortFunc_none (P := Tryz.prog) Tryz.sortField A c (.func (.func 114) #[] #[]) w
    change Calls Tryz.prog 113 _ _ _ at hcon
    refine hcon.mono ?_
    rintro e w' ⟨rfl, rfl⟩
    exact ⟨rfl, [], rfl, h, Below.refl _ _, rfl⟩
  · obtain ⟨g, cap, rfl, hb, hlt, hle, hm, hh⟩ := h.down h0
    have hcon := AnyQ.slices_SortFunc (P := Tryz.prog) Tryz.sortField 3 Tryz.isAgg129 Tryz.sizeOf129 Fld.cells cells3 cells1 ordF swoF 114 #[] g 0 cap fs.toArray w eg
      (fun m os dk hdk x y => order_calls x y _) hh hlt (by simpa using hn)
    change Calls Tryz.prog 113 _ _ _ at hcon
    refine hcon.mono ?_
    rintro e w' ⟨rfl, d, n, os, hp, hs, rfl⟩
    obtain ⟨hc, hz⟩ := compact_sorted fs d hp hs
    refine ⟨rfl, d.toList, by simpa using hz, ?_, below_putF (Below.refl _ _) hB hb os, by unfold compact; simpa using hc⟩
    have hu := FRow.up (n := 0) (q := n) (k := fs.length) h d hz (Nat.le_refl _) os
    rwa [List.take_of_length_le (by simp [hz]), show d.toList.length = fs.length by simpa using hz] at hu

theorem compact_calls (B : Nat) (v : Value) (ds : List Fld) (w : World) (h : FRow w B v ds) (hB : B ≤ w.heap.size) (hn : ds.length ≤ 9223372036854775807) :
    Calls Tryz.prog 115 #[v] w fun e w' => ∃ v', e = .returned v' ∧ FRow w' B v' (compact ds) ∧ Below B w w' := by
  rcases Nat.eq_zero_or_pos ds.length with h0 | h0
  · obtain rfl : ds = [] := List.eq_nil_of_length_eq_zero h0
    obtain ⟨A, c, rfl⟩ := h.shape
    have HH := Lib.hid h
    clear h hn
    simp only [List.length_nil] at *
    go_enter Tryz.func115, Tryz.ntmps115
    go_wp2
    go_ret
    exact ⟨_, rfl, HH.out, Below.refl _ _⟩
  · obtain ⟨g, cap, rfl, hb, hlt, hle, hm, hh⟩ := h.down h0
    have hcon := compact_arr g cap ds.toArray w hh (by simpa using hn) (by simpa using hle)
    rw [show ds.toArray.size = ds.length by simp] at hcon
    refine hcon.mono ?_
    rintro e w' ⟨rfl, q, d, rfl, hz, ht⟩
    have hlen : (compactUpTo ds.toArray ds.length).length ≤ ds.length := by
      have := congrArg List.length ht
      simp at this hz
      omega
    have hu := FRow.up (n := 0) (q := q) (k := (compactUpTo ds.toArray ds.length).length) h d (by simpa using hz) hlen #[]
    rw [grow_none, ht] at hu
    have hb' := below_putF (q := q) (d := d) (Below.refl B w) hB hb #[]
    rw [grow_none] at hb'
    exact ⟨_, rfl, hu, hb'⟩
end Go.Proofs.YtcmoidldalgljaaGreatDoor
set_option linter.unusedVariables false
set_option linter.unusedSimpArgs false
namespace Go.Proofs.YtcmoidldalgljaaGreatDoor
open Go.RowKit Go.Lib
open Hen

namespace Hen
def lineF (f : Fld) : List UInt8 := lineS f.k f.l f.v.data.toList ++ [10]
def textS (fs : List Fld) : List UInt8 := fs.flatMap lineF
end Hen
theorem textS_snoc (fs : List Fld) (k : Nat) (h : k < fs.length) : textS (fs.take (k + 1)) = textS (fs.take k) ++ lineS fs[k]!.k fs[k]!.l fs[k]!.v.data.toList ++ [10] := by
  unfold textS
  rw [List.take_succ_eq_append_getElem h, List.flatMap_append, getElem!_pos fs k h]
  simp [lineF]
theorem textS_le (fs : List Fld) (k : Nat) : (textS (fs.take k)).length ≤ (textS fs).length := by
  have : textS fs = textS (fs.take k) ++ textS (fs.drop k) := by
    unfold textS
    rw [← List.flatMap_append, List.take_append_drop]
  rw [this, List.length_append]; omega

abbrev IsB (B b : Nat) (l : List UInt8) (w : World) : Prop := Lib.IsBuilder 148 5 B b (Lib.byteCells l) w
theorem builderAt_below {B b : Nat} {p : Value} {bs : List Value} {w w1 : World} (h : Lib.BuilderAt 148 5 B b p bs w) (hb : Below w.heap.size w w1) : Lib.BuilderAt 148 5 B b p bs w1 := by
  have hlt := h.lt
  obtain ⟨hB, v, hbk, hown, hne⟩ := h
  exact ⟨hB, v, (hb.block b hlt).trans hbk, World.ownsRow.kept hown (row := none) ⟨hb.os, hb.tape, hb.output, hb.size, fun i hi _ => hb.block i hi⟩ (by cases v.ownBlock <;> simp), hne⟩
theorem IsB.below {B b : Nat} {l : List UInt8} {w w1 : World} (h : IsB B b l w) (hb : Below w.heap.size w w1) : IsB B b l w1 :=
  h.elim (fun h => .inl (builderAt_below h hb)) (fun h => .inr (builderAt_below h hb))
theorem strCells_mk (l : List UInt8) : Lib.strCells ⟨l.toArray⟩ = Lib.byteCells l := by
  simp [Lib.strCells, Lib.byteCells]

set_option maxHeartbeats 4000000 in
set_option maxRecDepth 100000 in
theorem text_calls (B : Nat) (v : Value) (fs : List Fld) (w : World) (h : FRow w B v fs) (hG : GL w) (hn : fs.length ≤ 65536) (hv : ∀ k, k < fs.length → fs[k]!.v.size ≤ 140737488355327) (hT : (textS fs).length ≤ 1099511627776) :
    Calls Tryz.prog 107 #[v] w fun e w' => e = .returned (.string ⟨(textS fs).toArray⟩) ∧ Below w.heap.size w w' := by
  obtain ⟨A, c, rfl⟩ := h.shape
  have H := Lib.hid h
  have HG := Lib.hid hG
  have HV := Lib.hid hv
  have HT := Lib.hid hT
  clear h hG hv hT
  go_enter Tryz.func107, Tryz.ntmps107
  go_wp2
  go_loopw [8] (fun i wr => ∃ k : Nat, k ≤ fs.length ∧ i = .int .i64 k ∧ IsB w.heap.size w.heap.size (textS (fs.take k)) wr ∧ Below w.heap.size w wr) (fun i _ => fs.length - (intOf i).toNat)
  case atStart => exact ⟨0, Nat.zero_le _, rfl, Lib.fresh_isBuilder _ _ w, (Below.refl _ _).alloc (Nat.le_refl _) _⟩
  case round =>
    obtain ⟨k, hk, rfl, hI, hb⟩ := hrel
    by_cases hlt : k < fs.length
    · obtain ⟨x, hx⟩ : ∃ x, fs[k]! = x := ⟨_, rfl⟩
      obtain ⟨g, cap, hsl, hBg, hgl, c0, c1, c2⟩ := (H.out.below hb).at_ k hlt x hx
      injection hsl with hA _ hcap
      subst hA hcap
      have b1 : (k : Int) < fs.length := by omega
      have HI := Lib.hid hI
      have HX := Lib.hid hx
      clear hI hx
      go_wp2_with fail
      refine (line_calls x.k x.l x.v _ (by have := HV.out k hlt; rw [HX.out] at this; exact this) (HG.out.below (hb.alloc hb.size _))).mono ?_
      rintro e w3 ⟨rfl, hb3⟩
      have hsn := textS_snoc fs k hlt
      have hle := textS_le fs (k + 1)
      rw [HX.out] at hsn
      rw [hsn] at hle
      simp only [List.length_append, List.length_cons, List.length_nil] at hle
      have hT := HT.out
      have hz : w.heap.size ≤ wr.heap.size := hb.size
      have hz3 : wr.heap.size + 1 ≤ w3.heap.size := by have := hb3.size; simpa using this
      have hI3 := (HI.out.below ((Below.refl _ _).alloc (Nat.le_refl _) _)).below hb3
      have hbw3 := below_step (hb.alloc hb.size _) (by simp; omega) hb3
      have hq1 : (Lib.byteCells (textS (fs.take k))).length + (⟨(lineS x.k x.l x.v.data.toList).toArray⟩ : ByteArray).size ≤ 140737488355328 := by rw [Lib.byteCells_length, mk_size]; omega
      have hq2 : ((Lib.byteCells (textS (fs.take k))) ++ Lib.strCells ⟨(lineS x.k x.l x.v.data.toList).toArray⟩).length + 1 ≤ 140737488355328 := by rw [strCells_mk, List.length_append, Lib.byteCells_length, Lib.byteCells_length]; omega
      have HS := Lib.hid hsn
      clear hsn hle hT HI
      go_wp2_with fail
      refine (writeString_calls w.heap.size w.heap.size _ _ w3 hI3 hq1 hbw3.size).mono ?_
      rintro e w4 ⟨rfl, hB4, hb4⟩
      have hz4 : w3.heap.size ≤ w4.heap.size := hb4.size
      go_wp2_with fail
      refine (writeByte_calls w.heap.size w.heap.size _ 10 w4 (.inr hB4) hq2 (by omega)).mono ?_
      rintro e w5 ⟨rfl, hB5, hb5⟩
      go_wp2
      go_round
      case rel =>
        refine ⟨k + 1, by omega, by go_num, ?_, (hbw3.trans hb4).trans hb5⟩
        unfold IsB
        rw [HS.out]
        rw [strCells_mk] at hB5
        have e : Lib.byteCells (textS (fs.take k) ++ lineS x.k x.l x.v.data.toList ++ [10]) = Lib.byteCells (textS (fs.take k)) ++ Lib.byteCells (lineS x.k x.l x.v.data.toList) ++ [.int .u8 10] := by simp [Lib.byteCells]
        rw [e]
        exact .inr hB5
      case measure => simp [intOf]; omega
    · obtain rfl : k = fs.length := by omega
      rw [List.take_length] at hI
      have HI := Lib.hid hI
      clear hI
      go_wp2_with fail
      refine (Tryz.Builder_String_any w.heap.size w.heap.size (textS fs) wr HI.out hb.size).mono ?_
      rintro e w3 ⟨rfl, hb3⟩
      go_wp2
      go_ret
      exact ⟨rfl, hb.trans hb3⟩
end Go.Proofs.YtcmoidldalgljaaGreatDoor

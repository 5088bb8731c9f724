/- Words for what stands in memory: slots, templates, slices of them, a schema's map; what keeps them. Nothing of the program is walked here. -/
import Derived.Test.YtkableklofokdaaProg
import Derived.WalkKit
import Derived.Maps.Own
import Derived.Maps.OwnOps
import Derived.Maps.OwnSet
import Derived.Maps.Views
import Derived.Laws.AppendOwnNone
import Derived.Laws.OwnMore
import Derived.Laws.Rows
set_option linter.unusedSimpArgs false
set_option linter.unusedVariables false
namespace Go.Proofs.Ytkableklofokdaa
open Go Go.RowKit Go.Maps Go.WideMaps

/-- A slot: its name, its type. -/
structure Fd where
  n : ByteArray
  t : Int
/-- A template: its name, its slots. -/
structure Tm where
  n : ByteArray
  s : List Fd
instance : Inhabited Fd := ⟨⟨ByteArray.empty, 0⟩⟩
instance : Inhabited Tm := ⟨⟨ByteArray.empty, []⟩⟩

/-- Between two block numbers w' is as w was. -/
def Kept (lo hi : Nat) (w w' : World) : Prop := ∀ k, lo ≤ k → k < hi → w'.heap[k]? = w.heap[k]?
theorem Kept.refl (lo hi : Nat) (w : World) : Kept lo hi w w := fun _ _ _ => rfl
theorem Kept.trans {lo hi : Nat} {a b c : World} (h : Kept lo hi a b) (k : Kept lo hi b c) : Kept lo hi a c := fun i h1 h2 => (k i h1 h2).trans (h i h1 h2)
theorem Kept.of_below {B : Nat} {w w' : World} (h : Below B w w') (lo : Nat) {hi : Nat} (hB : hi ≤ B) : Kept lo hi w w' := fun k _ h2 => h.block k (by omega)
theorem Kept.mono {lo hi lo' hi' : Nat} {w w' : World} (h : Kept lo hi w w') (h1 : lo ≤ lo') (h2 : hi' ≤ hi) : Kept lo' hi' w w' := fun k a b => h k (by omega) (by omega)
theorem Kept.cell {lo hi : Nat} {w w' : World} (h : Kept lo hi w w') {p : Addr} (h1 : lo ≤ p.block) (h2 : p.block < hi) : w'.cell? p = w.cell? p := World.cell?_of_block (w := w) (h p.block h1 h2)
theorem Kept.grown {lo hi : Nat} {w w' : World} {row : Option Nat} (hg : w.grownBy w' row) (hhi : hi ≤ w.heap.size) (hr : ∀ k, row = some k → k < lo ∨ hi ≤ k) : Kept lo hi w w' := fun k h1 h2 => hg.block k (by omega) (fun e => by have := hr k e.symm; omega)

/-- Cells in a row, from an address on, in blocks from lo on and below hi. -/
def RdC (lo hi : Nat) (w : World) (A : Option Addr) (cs : List Value) : Prop := ∀ j v, cs[j]? = some v → ∃ ad, A = some ad ∧ lo ≤ ad.block ∧ ad.block < hi ∧ w.cell? (ad.add j) = some v
theorem add_block (a : Addr) (j : Nat) : (a.add j).block = a.block := by unfold Addr.add; split <;> rfl
theorem RdC.kept {lo hi : Nat} {w w' : World} {A : Option Addr} {cs : List Value} (h : RdC lo hi w A cs) (k : Kept lo hi w w') : RdC lo hi w' A cs := by
  intro j v hj
  obtain ⟨ad, h1, h2, h3, h4⟩ := h j v hj
  exact ⟨ad, h1, h2, h3, (k.cell (by rw [add_block]; exact h2) (by rw [add_block]; exact h3)).trans h4⟩
theorem RdC.mono {lo hi lo' hi' : Nat} {w : World} {A : Option Addr} {cs : List Value} (h : RdC lo hi w A cs) (h1 : lo' ≤ lo) (h2 : hi ≤ hi') : RdC lo' hi' w A cs := by
  intro j v hj
  obtain ⟨ad, a1, a2, a3, a4⟩ := h j v hj
  exact ⟨ad, a1, by omega, by omega, a4⟩
theorem RdC.nil (lo hi : Nat) (w : World) (A : Option Addr) : RdC lo hi w A [] := by intro j v hj; simp at hj

/-- Slots, as cells. -/
def cellsF (fs : List Fd) : List Value := fs.flatMap fun f => [.string f.n, .int .i64 f.t]
theorem cellsF_nil : cellsF [] = [] := rfl
theorem cellsF_cons (f : Fd) (fs : List Fd) : cellsF (f :: fs) = .string f.n :: .int .i64 f.t :: cellsF fs := rfl
theorem cellsF_append (a b : List Fd) : cellsF (a ++ b) = cellsF a ++ cellsF b := by unfold cellsF; rw [List.flatMap_append]
theorem cellsF_length (fs : List Fd) : (cellsF fs).length = fs.length * 2 := by
  induction fs with
  | nil => rfl
  | cons f fs ih => rw [cellsF_cons]; simp [ih]; omega
theorem cellsF_at (fs : List Fd) (i : Nat) (h : i < fs.length) : (cellsF fs)[i * 2]? = some (.string (fs.getD i default).n) ∧ (cellsF fs)[i * 2 + 1]? = some (.int .i64 (fs.getD i default).t) := by
  induction fs generalizing i with
  | nil => simp at h
  | cons f fs ih =>
    rw [cellsF_cons]
    cases i with
    | zero => simp
    | succ i =>
      have := ih i (by simpa using h)
      have e1 : (i + 1) * 2 = i * 2 + 1 + 1 := by omega
      rw [e1]
      simpa using this

/-- A slice of slots. -/
def RdF (lo hi : Nat) (w : World) (v : Value) (fs : List Fd) : Prop := ∃ A c, v = .slice A fs.length c ∧ fs.length ≤ c ∧ RdC lo hi w A (cellsF fs)
theorem RdF.kept {lo hi : Nat} {w w' : World} {v : Value} {fs : List Fd} (h : RdF lo hi w v fs) (k : Kept lo hi w w') : RdF lo hi w' v fs := by
  obtain ⟨A, c, h1, h2, h3⟩ := h
  exact ⟨A, c, h1, h2, h3.kept k⟩
theorem RdF.mono {lo hi lo' hi' : Nat} {w : World} {v : Value} {fs : List Fd} (h : RdF lo hi w v fs) (h1 : lo' ≤ lo) (h2 : hi ≤ hi') : RdF lo' hi' w v fs := by
  obtain ⟨A, c, a1, a2, a3⟩ := h
  exact ⟨A, c, a1, a2, a3.mono h1 h2⟩
/-- A slot's two cells, as the walk spells them. -/
theorem RdC.fd {lo hi : Nat} {w : World} {A : Option Addr} {fs : List Fd} (h : RdC lo hi w A (cellsF fs)) (i : Nat) (hi' : i < fs.length) :
    ∃ ad, A = some ad ∧ lo ≤ ad.block ∧ ad.block < hi ∧ w.cell? (ad.add (i * 2)) = some (.string (fs.getD i default).n) ∧ w.cell? ⟨(ad.add (i * 2)).block, (ad.add (i * 2)).off + 1, none⟩ = some (.int .i64 (fs.getD i default).t) := by
  obtain ⟨c0, c1⟩ := cellsF_at fs i hi'
  obtain ⟨ad, h1, h2, h3, h4⟩ := h _ _ c0
  obtain ⟨ad', h1', _, _, h4'⟩ := h _ _ c1
  rw [h1] at h1'
  obtain rfl := Option.some.inj h1'
  refine ⟨ad, h1, h2, h3, h4, ?_⟩
  have e : (ad.add (i * 2 + 1)) = ⟨(ad.add (i * 2)).block, (ad.add (i * 2)).off + 1, none⟩ := by
    unfold Addr.add
    rw [if_neg (by omega)]
    by_cases hz : i * 2 = 0
    · rw [if_pos hz, hz]
    · rw [if_neg hz]; simp [Nat.add_assoc]
  rw [← e]; exact h4'

/-- Templates, as cells: a name, and a slice. -/
def cellsT (vs : List (ByteArray × Value)) : List Value := vs.flatMap fun x => [.string x.1, x.2]
theorem cellsT_nil : cellsT [] = [] := rfl
theorem cellsT_cons (x : ByteArray × Value) (vs : List (ByteArray × Value)) : cellsT (x :: vs) = .string x.1 :: x.2 :: cellsT vs := rfl
theorem cellsT_append (a b : List (ByteArray × Value)) : cellsT (a ++ b) = cellsT a ++ cellsT b := by unfold cellsT; rw [List.flatMap_append]
theorem cellsT_length (vs : List (ByteArray × Value)) : (cellsT vs).length = vs.length * 2 := by
  induction vs with
  | nil => rfl
  | cons f fs ih => rw [cellsT_cons]; simp [ih]; omega
theorem cellsT_at (vs : List (ByteArray × Value)) (i : Nat) (h : i < vs.length) : (cellsT vs)[i * 2]? = some (.string (vs.getD i default).1) ∧ (cellsT vs)[i * 2 + 1]? = some (vs.getD i default).2 := by
  induction vs generalizing i with
  | nil => simp at h
  | cons f fs ih =>
    rw [cellsT_cons]
    cases i with
    | zero => simp
    | succ i =>
      have := ih i (by simpa using h)
      have e1 : (i + 1) * 2 = i * 2 + 1 + 1 := by omega
      rw [e1]
      simpa using this

/-- A template's name and slice tell a template. -/
def IsTm (lo hi : Nat) (w : World) (x : ByteArray × Value) (t : Tm) : Prop := x.1 = t.n ∧ RdF lo hi w x.2 t.s
theorem IsTm.kept {lo hi : Nat} {w w' : World} {x : ByteArray × Value} {t : Tm} (h : IsTm lo hi w x t) (k : Kept lo hi w w') : IsTm lo hi w' x t := ⟨h.1, h.2.kept k⟩
theorem IsTm.mono {lo hi lo' hi' : Nat} {w : World} {x : ByteArray × Value} {t : Tm} (h : IsTm lo hi w x t) (h1 : lo' ≤ lo) (h2 : hi ≤ hi') : IsTm lo' hi' w x t := ⟨h.1, h.2.mono h1 h2⟩

/-- Names and slices that tell templates. -/
def AreTm (lo hi : Nat) (w : World) (vs : List (ByteArray × Value)) (ts : List Tm) : Prop := vs.length = ts.length ∧ ∀ i, i < ts.length → IsTm lo hi w (vs.getD i default) (ts.getD i default)
theorem AreTm.kept {lo hi : Nat} {w w' : World} {vs : List (ByteArray × Value)} {ts : List Tm} (h : AreTm lo hi w vs ts) (k : Kept lo hi w w') : AreTm lo hi w' vs ts := ⟨h.1, fun i hi => (h.2 i hi).kept k⟩
theorem AreTm.mono {lo hi lo' hi' : Nat} {w : World} {vs : List (ByteArray × Value)} {ts : List Tm} (h : AreTm lo hi w vs ts) (h1 : lo' ≤ lo) (h2 : hi ≤ hi') : AreTm lo' hi' w vs ts := ⟨h.1, fun i hi => (h.2 i hi).mono h1 h2⟩
theorem AreTm.nil (lo hi : Nat) (w : World) : AreTm lo hi w [] [] := ⟨rfl, fun i hi => by simp at hi⟩
theorem getD_snoc_lt {α : Type} [Inhabited α] (l : List α) (x : α) (i : Nat) (h : i < l.length) : (l ++ [x]).getD i default = l.getD i default := by simp [List.getD_eq_getElem?_getD, List.getElem?_append_left h]
theorem getD_snoc_eq {α : Type} [Inhabited α] (l : List α) (x : α) : (l ++ [x]).getD l.length default = x := by simp [List.getD_eq_getElem?_getD]
theorem AreTm.snoc {lo hi : Nat} {w : World} {vs : List (ByteArray × Value)} {ts : List Tm} (h : AreTm lo hi w vs ts) {x : ByteArray × Value} {t : Tm} (hx : IsTm lo hi w x t) : AreTm lo hi w (vs ++ [x]) (ts ++ [t]) := by
  refine ⟨by simp [h.1], fun i hi => ?_⟩
  by_cases hl : i < ts.length
  · rw [getD_snoc_lt _ _ _ (by rw [h.1]; exact hl), getD_snoc_lt _ _ _ hl]; exact h.2 i hl
  · have : i = ts.length := by simp at hi; omega
    subst this
    rw [getD_snoc_eq, ← h.1, getD_snoc_eq]; exact hx

/-- A slice of templates. -/
def RdT (lo hi : Nat) (w : World) (v : Value) (ts : List Tm) : Prop := ∃ A c vs, v = .slice A ts.length c ∧ ts.length ≤ c ∧ RdC lo hi w A (cellsT vs) ∧ AreTm lo hi w vs ts
theorem RdT.kept {lo hi : Nat} {w w' : World} {v : Value} {ts : List Tm} (h : RdT lo hi w v ts) (k : Kept lo hi w w') : RdT lo hi w' v ts := by
  obtain ⟨A, c, vs, h1, h2, h3, h4⟩ := h
  exact ⟨A, c, vs, h1, h2, h3.kept k, h4.kept k⟩
theorem RdT.mono {lo hi lo' hi' : Nat} {w : World} {v : Value} {ts : List Tm} (h : RdT lo hi w v ts) (h1 : lo' ≤ lo) (h2 : hi ≤ hi') : RdT lo' hi' w v ts := by
  obtain ⟨A, c, vs, a1, a2, a3, a4⟩ := h
  exact ⟨A, c, vs, a1, a2, a3.mono h1 h2, a4.mono h1 h2⟩
theorem RdC.tm {lo hi : Nat} {w : World} {A : Option Addr} {vs : List (ByteArray × Value)} (h : RdC lo hi w A (cellsT vs)) (i : Nat) (hi' : i < vs.length) :
    ∃ ad, A = some ad ∧ lo ≤ ad.block ∧ ad.block < hi ∧ w.cell? (ad.add (i * 2)) = some (.string (vs.getD i default).1) ∧ w.cell? ⟨(ad.add (i * 2)).block, (ad.add (i * 2)).off + 1, none⟩ = some (vs.getD i default).2 := by
  obtain ⟨c0, c1⟩ := cellsT_at vs i hi'
  obtain ⟨ad, h1, h2, h3, h4⟩ := h _ _ c0
  obtain ⟨ad', h1', _, _, h4'⟩ := h _ _ c1
  rw [h1] at h1'
  obtain rfl := Option.some.inj h1'
  refine ⟨ad, h1, h2, h3, h4, ?_⟩
  have e : (ad.add (i * 2 + 1)) = ⟨(ad.add (i * 2)).block, (ad.add (i * 2)).off + 1, none⟩ := by
    unfold Addr.add
    rw [if_neg (by omega)]
    by_cases hz : i * 2 = 0
    · rw [if_pos hz, hz]
    · rw [if_neg hz]; simp [Nat.add_assoc]
  rw [← e]; exact h4'

theorem own_base_le {w : World} {base base' : Nat} {e : TypeId} {size n : Nat} {v : Value} {xs : List Value} (h : w.ownsRow base e size v n xs) (hb : base' ≤ base) : w.ownsRow base' e size v n xs := by
  obtain ⟨h1, h2⟩ := h
  refine ⟨h1, ?_⟩
  rcases h2 with h2 | ⟨g, cap, cur, a1, a2, a3⟩
  · exact Or.inl h2
  · exact Or.inr ⟨g, cap, cur, a1, by omega, a3⟩
/-- What the call owns can be read. -/
theorem rdC_own {w : World} {base n : Nat} {e : TypeId} {v : Value} {cs : List Value} (h : w.ownsRow base e 2 v n cs) : ∃ A c, v = .slice A n c ∧ n ≤ c ∧ (∀ ad, A = some ad → ad.block < w.heap.size) ∧ RdC base w.heap.size w A cs := by
  obtain ⟨hlen, h⟩ := h
  rcases h with ⟨rfl, rfl⟩ | ⟨g, cap, cur, rfl, hg, hh, hn, hc, hs, htake⟩
  · refine ⟨none, 0, rfl, Nat.le_refl _, (fun ad h => by cases h), fun j v hj => ?_⟩
    have : cs = [] := List.length_eq_zero_iff.1 (by omega)
    subst this; simp at hj
  · have hlt : g < w.heap.size := (Array.getElem?_eq_some_iff.1 hh).1
    refine ⟨some ⟨g, 0, none⟩, cap, rfl, hn, (fun ad h => by cases h; exact hlt), fun j v hj => ⟨⟨g, 0, none⟩, rfl, hg, hlt, ?_⟩⟩
    have e : (⟨g, 0, none⟩ : Addr).add j = ⟨g, j, none⟩ := by unfold Addr.add; split <;> simp_all
    rw [e]
    have hj2 : j < n * 2 := by
      have := (List.getElem?_eq_some_iff.1 hj).1; omega
    have h1 : cur.toList[j]? = some v := by
      rw [← htake, List.getElem?_take, if_pos hj2] at hj
      exact hj
    have h2 : cur[j]? = some v := by rw [← Array.getElem?_toList]; exact h1
    rw [cell_of_row w g j cur _ (0, 0) hh, h2]

/-- What is laid, and then written in one row, or laid again. -/
theorem grown_alloc {w w' : World} {o : Obj} {row : Option Nat} (h : (w.alloc o).grownBy w' row) : w.grownBy w' row :=
  ⟨h.os, h.tape, h.output, by have := h.size; simp at this; omega, fun k hk hr => (h.block k (by simp; omega) hr).trans (Below.heap_alloc w o k hk)⟩
theorem grown_below {w a b : World} {row : Option Nat} (h : w.grownBy a row) (k : Below a.heap.size a b) : w.grownBy b row :=
  ⟨k.os.trans h.os, k.tape.trans h.tape, k.output.trans h.output, Nat.le_trans h.size k.size, fun i hi hr => (k.block i (by have := h.size; omega)).trans (h.block i hi hr)⟩
theorem grown_trans {w a b : World} {row : Option Nat} (h : w.grownBy a row) (k : a.grownBy b row) : w.grownBy b row :=
  ⟨k.os.trans h.os, k.tape.trans h.tape, k.output.trans h.output, Nat.le_trans h.size k.size, fun i hi hr => (k.block i (by have := h.size; omega) hr).trans (h.block i hi hr)⟩
theorem grown_refl (w : World) (row : Option Nat) : w.grownBy w row := ⟨rfl, rfl, rfl, Nat.le_refl _, fun _ _ _ => rfl⟩
theorem grown_cell {w w' : World} {row : Option Nat} (h : w.grownBy w' row) {p : Addr} (hp : p.block < w.heap.size) (hr : some p.block ≠ row) : w'.cell? p = w.cell? p := World.cell?_of_block (w := w) (h.block p.block hp hr)
theorem grown_frozen {w w' : World} {row : Option Nat} (h : w.grownBy w' row) {p : Addr} (hp : p.block < w.heap.size) (hr : some p.block ≠ row) : w'.frozen? p = w.frozen? p := World.frozen?_of_block (w := w) (h.block p.block hp hr)
theorem cell_ne_map {w : World} {S M : Nat} {o : Nat} {v : Value} {es : Array MapEntry} {clock : Nat} (hc : w.cell? ⟨S, o, none⟩ = some v) (hm : w.heap[M]? = some (.map es clock)) : S ≠ M := by
  rintro rfl
  simp [World.cell?, hm] at hc

theorem grown_of_below {w w' : World} (h : Below w.heap.size w w') (row : Option Nat) : w.grownBy w' row := ⟨h.os, h.tape, h.output, h.size, fun k hk _ => h.block k hk⟩
theorem grown_drew {w w' : World} {row : Option Nat} (h : w.drew.grownBy w' row) : w.grownBy w' row := ⟨h.os, h.tape, h.output, h.size, h.block⟩
theorem below_drew' {B : Nat} {w w' : World} (h : Below B w.drew w') : Below B w w' := ⟨h.os, h.tape, h.output, h.size, h.block⟩

end Go.Proofs.Ytkableklofokdaa

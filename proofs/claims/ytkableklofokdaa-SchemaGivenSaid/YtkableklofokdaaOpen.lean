/- A slice of templates among the arguments, opened: the templates that it tells. -/
import Derived.Test.YtkableklofokdaaHead
import Derived.ProofKit
import Derived.ChangeSame
import Derived.ChangeSlices
import Derived.OpenShut
import Derived.ShutString
import Derived.ChangeOld
import Derived.Below
import Derived.SizedLaws
set_option linter.unusedSimpArgs false
set_option linter.unusedVariables false
namespace Go.Proofs.Ytkableklofokdaa
open Go Go.RowKit Go.Maps Go.WideMaps
open Go.ChangeShapes Go.WideShapes

variable {H : Type} {enc : TypeId × Value → H} {w : World} {spare : Nat → Bool} {held : Bool}

theorem cellsOf_F : Try.prog.cellsOf 38 = 2 := by kernel_rfl
theorem cellsOf_T : Try.prog.cellsOf 31 = 2 := by kernel_rfl
theorem cellsOf_s : Try.prog.cellsOf 9 = 1 := by kernel_rfl
theorem cellsOf_i : Try.prog.cellsOf 3 = 1 := by kernel_rfl
theorem cellsOf_l : Try.prog.cellsOf 29 = 1 := by kernel_rfl

theorem two_of_length {cs : List Value} (h : cs.length = 2) : ∃ u v, cs = [u, v] := by
  match cs, h with
  | [u, v], _ => exact ⟨u, v, rfl⟩
theorem cells_two {a : Addr} {base : Nat} {u v : Value} (h : w.cells? base a 2 = some [u, v]) : w.cell? (a.add 0) = some u ∧ w.cell? (a.add 1) = some v := by
  unfold World.cells? at h
  split at h
  · simp only [List.range, List.range.loop, List.mapM_cons, List.mapM_nil, Option.pure_def, Option.bind_eq_bind, Option.bind_eq_some_iff, Option.some.injEq] at h
    obtain ⟨x, hx, xs, ⟨y, hy, ys, hys, rfl⟩, h2⟩ := h
    subst hys
    cases h2
    exact ⟨hx, hy⟩
  · cases h
theorem add_add (a : Addr) (i j : Nat) : (a.add i).add j = a.add (i + j) := by
  unfold Addr.add
  split <;> split <;> split <;> simp_all <;> omega

theorem open_fd {fuel : Nat} {cs : List Value} {x : DataW H × List MemPlace} (h : DataW.trod enc Try.prog w 0 spare held fuel 38 cs = some x) : ∃ f : Fd, cs = [.string f.n, .int .i64 f.t] ∧ f.n.size ≤ maxLen := by
  obtain ⟨y0, y1, n, _, hl, h0, h1⟩ := trod_struct2 Try.underlying38 h
  rw [cellsOf_F] at hl
  obtain ⟨u, v, rfl⟩ := two_of_length hl
  simp only [cellsOf_s, cellsOf_i, List.drop_zero, List.drop_succ_cons, List.take_succ_cons, List.take_zero] at h0 h1
  obtain ⟨s, hs, _, hz⟩ := DataW.trod_string Try.underlying9 h0
  obtain ⟨t, ht, _, _⟩ := DataW.trod_int Try.underlying3 h1
  simp only [List.cons.injEq, and_true] at hs ht
  subst hs ht
  exact ⟨⟨s, t⟩, rfl, hz⟩

/-- Elements that each can be told stand in a row. -/
theorem choose_list {α : Type} {p : Nat → α → Prop} : ∀ n, (∀ i, i < n → ∃ x, p i x) → ∃ l : List α, l.length = n ∧ ∀ i x, l[i]? = some x → p i x
  | 0, _ => ⟨[], rfl, fun i x h => by simp at h⟩
  | n + 1, h => by
    obtain ⟨l, hl, hp⟩ := choose_list n (fun i hi => h i (by omega))
    obtain ⟨x, hx⟩ := h n (by omega)
    refine ⟨l ++ [x], by simp [hl], fun i y hy => ?_⟩
    by_cases hi : i < l.length
    · rw [List.getElem?_append_left hi] at hy; exact hp i y hy
    · rw [List.getElem?_append_right (by omega)] at hy
      have : i - l.length = 0 := by
        rcases Nat.eq_zero_or_pos (i - l.length) with h0 | h0
        · exact h0
        · rw [List.getElem?_eq_none (by simp; omega)] at hy; cases hy
      rw [this] at hy
      simp at hy
      subst hy
      have : i = n := by omega
      subst this; exact hx

theorem block_lt {a : Addr} {v : Value} (h : w.cell? a = some v) : a.block < w.heap.size := World.block_lt_of_cell? w _ h

theorem rdC_pairs {a : Addr} {α : Type} {f : α → List Value} {l : List α} {n : Nat} (hl : l.length = n) (hf : ∀ x, ∃ u v, f x = [u, v]) (hc : ∀ i x, l[i]? = some x → ∃ u v, f x = [u, v] ∧ w.cell? ((a.add (i * 2)).add 0) = some u ∧ w.cell? ((a.add (i * 2)).add 1) = some v) :
    RdC 0 w.heap.size w (some a) (l.flatMap f) := by
  have key : ∀ (m : List α) (k : Nat), (∀ i x, m[i]? = some x → l[k + i]? = some x) → ∀ j v, (m.flatMap f)[j]? = some v → w.cell? (a.add (k * 2 + j)) = some v := by
    intro m
    induction m with
    | nil => intro k _ j v hj; simp at hj
    | cons x m ih =>
      intro k hk j v hj
      obtain ⟨u, v', hfx, hu, hv⟩ := hc k x (by simpa using hk 0 x rfl)
      rw [List.flatMap_cons, hfx] at hj
      rw [add_add] at hu hv
      match j, hj with
      | 0, hj => simp at hj; subst hj; exact hu
      | 1, hj => simp at hj; subst hj; exact hv
      | j + 2, hj =>
        have := ih (k + 1) (fun i y hy => by have := hk (i + 1) y (by simpa using hy); rw [show k + 1 + i = k + (i + 1) by omega]; exact this) j v (by simpa using hj)
        rw [show k * 2 + (j + 2) = (k + 1) * 2 + j by omega]; exact this
  intro j v hj
  have := key l 0 (fun i x h => by simpa using h) j v hj
  rw [show 0 * 2 + j = j by omega] at this
  refine ⟨a, rfl, Nat.zero_le _, ?_, this⟩
  have h2 := block_lt this
  rw [add_block] at h2; exact h2

theorem open_fds {fuel : Nat} {cs : List Value} {x : DataW H × List MemPlace} (h : DataW.trod enc Try.prog w 0 spare held fuel 29 cs = some x) :
    ∃ v fs, cs = [v] ∧ RdF 0 w.heap.size w v fs ∧ fs.length ≤ maxLen ∧ ∀ f ∈ fs, f.n.size ≤ maxLen := by
  rcases DataW.trod_slice Try.underlying29 h with ⟨rfl, _⟩ | ⟨a, len, cap, elems, rest, n, _, rfl, _, _, hl, hm, hlen, hel, _, _⟩
  · exact ⟨_, [], rfl, rdF_nil _ _ _, by simp, by simp⟩
  · obtain ⟨fs, hfl, hp⟩ := choose_list (p := fun i (f : Fd) => w.cell? ((a.add (i * 2)).add 0) = some (.string f.n) ∧ w.cell? ((a.add (i * 2)).add 1) = some (.int .i64 f.t) ∧ f.n.size ≤ maxLen) len (fun i hi => by
      have h1 := hel i hi
      rw [List.getElem?_eq_getElem (by omega), cellsOf_F] at h1
      obtain ⟨c, hc, hd⟩ := Option.bind_eq_some_iff.1 h1
      obtain ⟨f, rfl, hz⟩ := open_fd hd
      obtain ⟨e0, e1⟩ := cells_two hc
      exact ⟨f, e0, e1, hz⟩)
    refine ⟨_, fs, rfl, ⟨some a, cap, by rw [hfl], by omega, rdC_pairs (f := fun f : Fd => [.string f.n, .int .i64 f.t]) rfl (fun x => ⟨_, _, rfl⟩) (fun i x hx => ⟨_, _, rfl, (hp i x hx).1, (hp i x hx).2.1⟩)⟩, by omega, fun f hf => ?_⟩
    obtain ⟨i, hi⟩ := List.getElem?_of_mem hf
    exact (hp i f hi).2.2

theorem open_tm {fuel : Nat} {cs : List Value} {x : DataW H × List MemPlace} (h : DataW.trod enc Try.prog w 0 spare held fuel 31 cs = some x) :
    ∃ (t : Tm) (v : Value), cs = [.string t.n, v] ∧ RdF 0 w.heap.size w v t.s ∧ t.n.size ≤ maxLen ∧ t.s.length ≤ maxLen ∧ ∀ f ∈ t.s, f.n.size ≤ maxLen := by
  obtain ⟨y0, y1, n, _, hl, h0, h1⟩ := trod_struct2 Try.underlying31 h
  rw [cellsOf_T] at hl
  obtain ⟨u, v, rfl⟩ := two_of_length hl
  simp only [cellsOf_s, cellsOf_l, List.drop_zero, List.drop_succ_cons, List.take_succ_cons, List.take_zero] at h0 h1
  obtain ⟨s, hs, _, hz⟩ := DataW.trod_string Try.underlying9 h0
  obtain ⟨v', fs, hv, hr, hfl, hfz⟩ := open_fds h1
  simp only [List.cons.injEq, and_true] at hs hv
  subst hs hv
  exact ⟨⟨s, fs⟩, _, rfl, hr, hz, hfl, hfz⟩

/-- Templates none of whose parts is too great. -/
def Sized (ts : List Tm) : Prop := ∀ t ∈ ts, t.n.size ≤ maxLen ∧ t.s.length ≤ maxLen ∧ ∀ f ∈ t.s, f.n.size ≤ maxLen
theorem open_tms {fuel : Nat} {cs : List Value} {x : DataW H × List MemPlace} (h : DataW.trod enc Try.prog w 0 spare held fuel 22 cs = some x) :
    ∃ v ts, cs = [v] ∧ RdT 0 w.heap.size w v ts ∧ ts.length ≤ maxLen ∧ Sized ts := by
  rcases DataW.trod_slice Try.underlying22 h with ⟨rfl, _⟩ | ⟨a, len, cap, elems, rest, n, _, rfl, _, _, hl, hm, hlen, hel, _, _⟩
  · exact ⟨_, [], rfl, ⟨none, 0, [], rfl, Nat.le_refl _, RdC.nil _ _ _ _, AreTm.nil _ _ _⟩, by simp, fun t ht => by simp at ht⟩
  · obtain ⟨l, hfl, hp⟩ := choose_list (p := fun i (x : Tm × Value) => w.cell? ((a.add (i * 2)).add 0) = some (.string x.1.n) ∧ w.cell? ((a.add (i * 2)).add 1) = some x.2 ∧ RdF 0 w.heap.size w x.2 x.1.s ∧ x.1.n.size ≤ maxLen ∧ x.1.s.length ≤ maxLen ∧ ∀ f ∈ x.1.s, f.n.size ≤ maxLen) len (fun i hi => by
      have h1 := hel i hi
      rw [List.getElem?_eq_getElem (by omega), cellsOf_T] at h1
      obtain ⟨c, hc, hd⟩ := Option.bind_eq_some_iff.1 h1
      obtain ⟨t, v, rfl, hz⟩ := open_tm hd
      obtain ⟨e0, e1⟩ := cells_two hc
      exact ⟨(t, v), e0, e1, hz⟩)
    refine ⟨_, l.map (·.1), rfl, ⟨some a, cap, l.map fun x => (x.1.n, x.2), by rw [List.length_map, hfl], by rw [List.length_map]; omega, ?_, ?_⟩, by rw [List.length_map]; omega, fun t ht => ?_⟩
    · have := rdC_pairs (w := w) (a := a) (l := l) (f := fun x : Tm × Value => [.string x.1.n, x.2]) rfl (fun x => ⟨_, _, rfl⟩) (fun i x hx => ⟨_, _, rfl, (hp i x hx).1, (hp i x hx).2.1⟩)
      unfold cellsT
      rw [List.flatMap_map]; exact this
    · refine ⟨by simp, fun i hi => ?_⟩
      have hi' : i < l.length := by simpa using hi
      have h1 := hp i l[i] (List.getElem?_eq_getElem hi')
      rw [List.getD_eq_getElem?_getD, List.getD_eq_getElem?_getD]
      simp only [List.getElem?_map, List.getElem?_eq_getElem hi', Option.map_some, Option.getD_some]
      exact ⟨rfl, h1.2.2.1⟩
    · obtain ⟨x, hx, rfl⟩ := List.mem_map.1 ht
      obtain ⟨i, hi⟩ := List.getElem?_of_mem hx
      exact (hp i x hi).2.2.2

theorem open_arg {A : Option Addr} {n c : Nat} {d : DataW H} {ps : List MemPlace} (h : DataW.Trod enc Try.prog w 0 spare held 22 (.slice A n c) d ps) :
    ∃ ts : List Tm, RdT 0 w.heap.size w (.slice A n c) ts ∧ (A = none → c = 0) ∧ n = ts.length ∧ n ≤ maxLen ∧ Sized ts := by
  obtain ⟨fuel, hf⟩ := h
  have hcs : (Value.slice A n c).cells.toList = [.slice A n c] := rfl
  rw [hcs] at hf
  obtain ⟨v', ts, hv, hR, hl, hz⟩ := open_tms hf
  obtain rfl : Value.slice A n c = v' := by simpa using hv
  have hn : n = ts.length := by obtain ⟨A', c', _, h1, _⟩ := hR; cases h1; rfl
  refine ⟨ts, hR, ?_, hn, by omega, hz⟩
  rintro rfl
  rcases DataW.trod_slice Try.underlying22 hf with ⟨h0, _⟩ | ⟨a, len, cap, elems, rest, n, _, h0, _⟩
  · simp at h0; exact h0.2
  · simp at h0
theorem u8_nat {a : Int} (h : (Lit.int .u8 a).wf = true) : ∃ n : Nat, a = (n : Int) ∧ n < 256 := by
  simp only [Lit.wf, IntKind.min, IntKind.max, IntKind.signed, IntKind.bits, Bool.and_eq_true, decide_eq_true_eq, if_true, Bool.false_eq_true, if_false] at h
  exact ⟨a.toNat, by omega, by omega⟩

end Go.Proofs.Ytkableklofokdaa

/- Of templates that may be: each is found by its name, each slot at its place. Plain lists: nothing of the program is walked here. -/
import Derived.Test.YtkableklofokdaaFirst
set_option linter.unusedSimpArgs false
set_option linter.unusedVariables false
namespace Go.Proofs.Ytkableklofokdaa
open Go Go.RowKit Go.Maps Go.WideMaps

theorem newGo_err (l : List Tm) : ∀ (pre : List Tm) (i : Nat) (e : Int) (m : Nat), newGo pre l i = some (e, m) → e ≠ 0 := by
  induction l with
  | nil => intro pre i e m h; simp [newGo] at h
  | cons t l ih =>
    intro pre i e m h
    simp only [newGo] at h
    split at h
    · simp at h; omega
    · split at h
      · simp at h; omega
      · exact ih _ _ _ _ h
theorem newRes_err {ts : List Tm} {e : Int} {m : Nat} (h : newRes ts = some (e, m)) : e ≠ 0 := by
  unfold newRes at h
  split at h
  · simp at h; omega
  · exact newGo_err _ _ _ _ _ h
theorem newGo_names (l : List Tm) : ∀ (pre : List Tm) (i : Nat), newGo pre l i = none → ∀ (j : Nat) (h : j < l.length), isThere (pre ++ l.take j) l[j].n = false := by
  induction l with
  | nil => intro pre i h j hj; simp at hj
  | cons t l ih =>
    intro pre i h j hj
    simp only [newGo] at h
    split at h
    · cases h
    · split at h
      · cases h
      · rename_i hno
        cases j with
        | zero => simpa using hno
        | succ j =>
          have := ih _ _ h j (by simpa using hj)
          simpa using this
theorem getD_at {α : Type} [Inhabited α] {l : List α} {j : Nat} (hj : j < l.length) : l.getD j default = l[j] := by rw [List.getD_eq_getElem?_getD, List.getElem?_eq_getElem hj]; rfl
theorem newGo_of {ts : List Tm} (h : newRes ts = none) : newGo [] ts 0 = none := by rw [← newRes_le (newRes_none h).1]; exact h
theorem find_at {ts : List Tm} (h : newRes ts = none) (j : Nat) (hj : j < ts.length) : (ts.findIdx? fun t => t.n.data.toList == (ts.getD j default).n.data.toList) = some j := by
  rw [getD_at hj, List.findIdx?_eq_some_iff_getElem]
  refine ⟨hj, by simp, fun i hi => ?_⟩
  have h1 := newGo_names ts [] 0 (newGo_of h) j hj
  rw [List.nil_append] at h1
  unfold isThere at h1
  rw [List.any_eq_false] at h1
  exact h1 _ (List.mem_iff_getElem.2 ⟨i, by simp; omega, by simp⟩)
theorem findD_at {ts : List Tm} (h : newRes ts = none) (j : Nat) (hj : j < ts.length) : findD ts (ts.getD j default).n = ts.getD j default := by
  unfold findD; rw [find_at h j hj]
theorem isThere_at {ts : List Tm} (j : Nat) (hj : j < ts.length) : isThere ts (ts.getD j default).n = true := by
  rw [getD_at hj]
  unfold isThere
  exact List.any_eq_true.2 ⟨ts[j], List.getElem_mem hj, by simp⟩
theorem scan_good (fs : List Fd) : ∀ (pre : List Fd) (k : Nat), ¬ (0 ≤ scan pre fs k) → ∀ (j : Nat) (h : j < fs.length), badF fs[j] (cnt (pre ++ fs.take j) fs[j].n) = false := by
  induction fs with
  | nil => intro pre k h j hj; simp at hj
  | cons f fs ih =>
    intro pre k h j hj
    simp only [scan] at h
    split at h
    · exact absurd (Int.natCast_nonneg k) h
    · rename_i hb
      cases j with
      | zero => simpa using hb
      | succ j =>
        have := ih _ _ h j (by simpa using hj)
        simpa using this
theorem badF_cnt {f : Fd} {c : Int} (h : badF f c = false) : c ≤ 0 := by
  unfold badF at h
  simp only [Bool.or_eq_false_iff, decide_eq_false_iff_not] at h
  omega
theorem cnt_none {pre : List Fd} {s : ByteArray} (h : cnt pre s ≤ 0) : ∀ g ∈ pre, ¬ g.n.data.toList = s.data.toList := by
  intro g hg e
  unfold cnt at h
  have h1 : (pre.filter fun g => g.n.data.toList == s.data.toList).length = 0 := by omega
  rw [List.length_eq_zero_iff, List.filter_eq_nil_iff] at h1
  have := h1 g hg
  simp [e] at this
theorem sIdx_at (s : ByteArray) (fs : List Fd) : ∀ (k j : Nat) (h : j < fs.length), fs[j].n.toList = s.toList → (∀ (i : Nat) (hi : i < j), fs[i].n.toList ≠ s.toList) → sIdx s fs k = ((k + j : Nat) : Int) := by
  induction fs with
  | nil => intro k j h; simp at h
  | cons f fs ih =>
    intro k j h h1 h2
    cases j with
    | zero =>
      unfold sIdx
      rw [if_pos (by simpa using h1)]; simp
    | succ j =>
      unfold sIdx
      rw [if_neg (by have := h2 0 (by omega); simpa using this), ih (k + 1) j (by simpa using h) (by simpa using h1) (fun i hi => by have := h2 (i + 1) (by omega); simpa using this)]
      congr 1; omega
theorem slot_at {ts : List Tm} (h : newRes ts = none) (j : Nat) (hj : j < ts.length) (k : Nat) (hk : k < (ts.getD j default).s.length) : slotI ts (ts.getD j default).n ((ts.getD j default).s.getD k default).n = (k : Int) := by
  unfold slotI
  rw [findD_at h j hj, getD_at hk]
  have hr := newGo_none ts [] 0 (newGo_of h) (ts.getD j default) (by rw [getD_at hj]; exact List.getElem_mem hj)
  unfold rightB at hr
  simp only [Bool.and_eq_true, Bool.not_eq_true', decide_eq_false_iff_not] at hr
  have hg := scan_good _ [] 0 hr.2 k hk
  rw [List.nil_append] at hg
  have hc := cnt_none (badF_cnt hg)
  rw [sIdx_at _ _ 0 k hk rfl (fun i hi e => hc _ (List.mem_iff_getElem.2 ⟨i, by rw [List.length_take]; omega, List.getElem_take⟩) (by rw [← ByteArray.toList_eq, ← ByteArray.toList_eq]; exact e))]
  simp
theorem hasSlot_at {ts : List Tm} (h : newRes ts = none) (j : Nat) (hj : j < ts.length) (k : Nat) (hk : k < (ts.getD j default).s.length) : hasSlot ts (ts.getD j default).n ((ts.getD j default).s.getD k default).n = true := by
  unfold hasSlot; rw [slot_at h j hj k hk]; simp
theorem slotR_at {ts : List Tm} (h : newRes ts = none) (j : Nat) (hj : j < ts.length) (k : Nat) (hk : k < (ts.getD j default).s.length) : slotR ts (ts.getD j default).n ((ts.getD j default).s.getD k default).n = (k : Int) := by
  unfold slotR; rw [slot_at h j hj k hk, if_pos (Int.natCast_nonneg k)]
theorem typeI_at {ts : List Tm} (h : newRes ts = none) (j : Nat) (hj : j < ts.length) (k : Nat) (hk : k < (ts.getD j default).s.length) : typeI ts (ts.getD j default).n ((ts.getD j default).s.getD k default).n = ((ts.getD j default).s.getD k default).t := by
  unfold typeI; rw [hasSlot_at h j hj k hk, if_pos rfl, slot_at h j hj k hk, findD_at h j hj]; simp

end Go.Proofs.Ytkableklofokdaa

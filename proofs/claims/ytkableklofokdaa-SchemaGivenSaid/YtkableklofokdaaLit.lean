/- The literals of head: which templates may be, and what is found in them. -/
import Derived.Test.YtkableklofokdaaSame
import Derived.Test.YtkableklofokdaaType
set_option linter.unusedSimpArgs false
set_option linter.unusedVariables false
namespace Go.Proofs.Ytkableklofokdaa
open Go Go.RowKit Go.Maps Go.WideMaps

/-- item, pair. -/
def itemN : ByteArray := ⟨#[105, 116, 101, 109]⟩
def pairN : ByteArray := ⟨#[112, 97, 105, 114]⟩
def twoT : List Tm := [⟨⟨#[105, 116, 101, 109]⟩, [⟨⟨#[110, 97, 109, 101]⟩, 3⟩, ⟨⟨#[112, 114, 105, 99, 101]⟩, 1⟩, ⟨⟨#[115, 111, 108, 100]⟩, 4⟩]⟩, ⟨⟨#[112, 97, 105, 114]⟩, [⟨⟨#[97]⟩, 3⟩, ⟨⟨#[98]⟩, 3⟩]⟩]
theorem two_new : newRes twoT = none := by kernel_rfl
theorem not_new : newRes [⟨⟨#[97]⟩, []⟩, ⟨⟨#[110, 111, 116]⟩, []⟩] = some (12, 1) := by kernel_rfl
theorem twice_new : newRes [⟨⟨#[97]⟩, []⟩, ⟨⟨#[98]⟩, []⟩, ⟨⟨#[97]⟩, []⟩] = some (4, 2) := by kernel_rfl
theorem two_is : isThere twoT ⟨#[112, 97, 105, 114]⟩ = true := by kernel_rfl
theorem two_no : isThere twoT ⟨#[110, 111]⟩ = false := by kernel_rfl
theorem two_find : findD twoT ⟨#[112, 97, 105, 114]⟩ = ⟨⟨#[112, 97, 105, 114]⟩, [⟨⟨#[97]⟩, 3⟩, ⟨⟨#[98]⟩, 3⟩]⟩ := by kernel_rfl
theorem two_find_len : (findD twoT ⟨#[112, 97, 105, 114]⟩).s.length = 2 := by kernel_rfl
theorem two_slot : slotR twoT ⟨#[105, 116, 101, 109]⟩ ⟨#[112, 114, 105, 99, 101]⟩ = 1 ∧ hasSlot twoT ⟨#[105, 116, 101, 109]⟩ ⟨#[112, 114, 105, 99, 101]⟩ = true := ⟨by kernel_rfl, by kernel_rfl⟩
theorem two_noslot : hasSlot twoT ⟨#[105, 116, 101, 109]⟩ ⟨#[97]⟩ = false := by kernel_rfl
theorem two_type : typeI twoT ⟨#[105, 116, 101, 109]⟩ ⟨#[115, 111, 108, 100]⟩ = 4 := by kernel_rfl
theorem two_notype : typeI twoT ⟨#[120]⟩ ⟨#[121]⟩ = 0 := by kernel_rfl
theorem name_x : nameB ⟨#[120]⟩ = true := by kernel_rfl
theorem name_y : nameB ⟨#[121]⟩ = true := by kernel_rfl
theorem two_sizes : ∀ t ∈ twoT, t.n.size ≤ maxLen ∧ t.s.length ≤ 8 ∧ ∀ f ∈ t.s, f.n.size ≤ maxLen := by
  have h8 : 8 ≤ maxLen := by unfold maxLen; omega
  have ha : (twoT.all fun t => decide (t.n.size ≤ 8) && decide (t.s.length ≤ 8) && t.s.all fun f => decide (f.n.size ≤ 8)) = true := by kernel_rfl
  intro t ht
  rw [List.all_eq_true] at ha
  have h := ha t ht
  simp only [Bool.and_eq_true, decide_eq_true_eq, List.all_eq_true] at h
  exact ⟨by omega, h.1.2, fun f hf => by have := h.2 f hf; omega⟩

/-- Cells of a block are a row of templates. -/
theorem rdC_block {w : World} {g : Nat} {cs : List Value} {t : TypeId} {fr : Nat × Nat} (h : w.heap[g]? = some (.cells cs.toArray t fr)) (lo hi : Nat) (h1 : lo ≤ g) (h2 : g < hi) : RdC lo hi w (some ⟨g, 0, none⟩) cs := by
  intro j v hj
  exact ⟨⟨g, 0, none⟩, rfl, h1, h2, World.news_of_block (cs := cs.toArray) (t := t) (fr := fr) h j v (by simpa using hj)⟩
theorem rdF_block {w : World} {g : Nat} {fs : List Fd} {t : TypeId} {fr : Nat × Nat} (h : w.heap[g]? = some (.cells (cellsF fs).toArray t fr)) (lo hi : Nat) (h1 : lo ≤ g) (h2 : g < hi) : RdF lo hi w (.slice (some ⟨g, 0, none⟩) fs.length fs.length) fs := ⟨_, _, rfl, Nat.le_refl _, rdC_block h lo hi h1 h2⟩
theorem rdF_nil (lo hi : Nat) (w : World) : RdF lo hi w (.slice none 0 0) [] := ⟨none, 0, rfl, Nat.le_refl _, RdC.nil _ _ _ _⟩

def fsI : List Fd := [⟨⟨#[110, 97, 109, 101]⟩, 3⟩, ⟨⟨#[112, 114, 105, 99, 101]⟩, 1⟩, ⟨⟨#[115, 111, 108, 100]⟩, 4⟩]
def fsP : List Fd := [⟨⟨#[97]⟩, 3⟩, ⟨⟨#[98]⟩, 3⟩]
theorem two_rd (w W : World) (h0 : W.heap[w.heap.size]? = some (.cells (cellsF fsI).toArray 38 (0, 0))) (h1 : W.heap[w.heap.size + 1]? = some (.cells (cellsF fsP).toArray 38 (0, 0)))
    (h2 : W.heap[w.heap.size + 1 + 1]? = some (.cells (cellsT [(⟨#[105, 116, 101, 109]⟩, .slice (some ⟨w.heap.size, 0, none⟩) 3 3), (⟨#[112, 97, 105, 114]⟩, .slice (some ⟨w.heap.size + 1, 0, none⟩) 2 2)]).toArray 31 (0, 0))) :
    RdT w.heap.size W.heap.size W (.slice (some ⟨w.heap.size + 1 + 1, 0, none⟩) 2 2) twoT := by
  have hs : w.heap.size + 1 + 1 < W.heap.size := (Array.getElem?_eq_some_iff.1 h2).1
  refine ⟨_, _, _, rfl, Nat.le_refl _, rdC_block h2 _ _ (by omega) hs, rfl, fun i hi => ?_⟩
  have : i = 0 ∨ i = 1 := by simp [twoT] at hi; omega
  rcases this with rfl | rfl
  · exact ⟨rfl, rdF_block h0 _ _ (Nat.le_refl _) (by omega)⟩
  · exact ⟨rfl, rdF_block h1 _ _ (by omega) (by omega)⟩

theorem two_calls (w : World) : Calls Try.prog 15 #[] w fun e w' => (∃ v, e = .returned v ∧ RdT w.heap.size w'.heap.size w' v twoT) ∧ Below w.heap.size w w' := by
  go_enter Try.func15, Try.ntmps15
  go_wp2_with fail
  refine bodyPost_ret (v := .slice (some ⟨w.heap.size + 1 + 1, 0, none⟩) 2 2) (by simp [results, Try.results15, go_sem]) rfl ⟨⟨_, rfl, two_rd w _ ?_ ?_ ?_⟩, ?_⟩
  · exact (Below.heap_alloc _ _ _ (by simp; omega)).trans ((Below.heap_alloc _ _ _ (by simp)).trans (heap_alloc_new w _))
  · exact (Below.heap_alloc _ _ _ (by simp)).trans (by have := heap_alloc_new (w.alloc (Obj.cells (cellsF fsI).toArray 38)) (Obj.cells (cellsF fsP).toArray 38); simp only [World.size_alloc] at this; exact this)
  · have := heap_alloc_new ((w.alloc (Obj.cells (cellsF fsI).toArray 38)).alloc (Obj.cells (cellsF fsP).toArray 38)) (Obj.cells (cellsT [(⟨#[105, 116, 101, 109]⟩, .slice (some ⟨w.heap.size, 0, none⟩) 3 3), (⟨#[112, 97, 105, 114]⟩, .slice (some ⟨w.heap.size + 1, 0, none⟩) 2 2)]).toArray 31)
    simp only [World.size_alloc] at this; exact this
  · exact (((Below.refl _ _).alloc (Nat.le_refl _) _).alloc (by simp) _).alloc (by simp; omega) _
theorem of_calls (k : Int) (s : ByteArray) (w : World) : Calls Try.prog 17 #[.int .i64 k, .string s] w fun e w' => e = .returned (.agg #[.int .i64 k, .string s]) ∧ Below w.heap.size w w' := by
  go_enter Try.func17, Try.ntmps17
  go_wp2_with fail
  refine bodyPost_ret (v := .agg #[.int .i64 k, .string s]) (by simp [results, Try.results17, go_sem]) rfl ⟨rfl, ?_⟩
  exact (Below.refl _ _).alloc (Nat.le_refl _) _
theorem vright_calls (s : ByteArray) (w : World) : Calls Try.prog 22 #[.agg #[.int .i64 3, .string s]] w fun e w' => e = .returned (.bool (nameB s)) ∧ Below w.heap.size w w' := by
  have cN := fun W => name_calls s W
  go_enter Try.func22, Try.ntmps22
  go_wp2_with fail
  refine (cN _).mono ?_; rintro e w1 ⟨rfl, hb⟩
  go_wp2_with fail
  go_ret
  exact ⟨rfl, ((Below.refl _ _).alloc (Nat.le_refl _) _).trans (hb.mono (by simp))⟩
end Go.Proofs.Ytkableklofokdaa

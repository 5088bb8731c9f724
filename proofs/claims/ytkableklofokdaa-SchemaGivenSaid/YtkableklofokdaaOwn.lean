/- The walks of slices.Clone at slots and of own: a template's slots in new memory. -/
import Derived.Test.YtkableklofokdaaMem
import Derived.Test.YtkableklofokdaaStr
import Derived.Lib.LazyBuf
set_option linter.unusedSimpArgs false
set_option linter.unusedVariables false
namespace Go.Proofs.Ytkableklofokdaa
open Go Go.RowKit Go.Maps Go.WideMaps

theorem infoF : (Try.prog.info? 38).map (fun i => (i.zero, i.size, i.bytes)) = some (some (.agg #[.string ⟨#[]⟩, .int .i64 0]), 2, 24) := by kernel_rfl
theorem infoT : (Try.prog.info? 31).map (fun i => (i.zero, i.size, i.bytes)) = some (some (.agg #[.string ⟨#[]⟩, .slice none 0 0]), 2, 40) := by kernel_rfl

theorem cellsF_one (fs : List Fd) : ∀ u ∈ cellsF fs, u.oneCell' = true := by
  intro u hu
  unfold cellsF at hu
  obtain ⟨f, _, h⟩ := List.mem_flatMap.1 hu
  rcases List.mem_cons.1 h with rfl | h
  · rfl
  · rcases List.mem_cons.1 h with rfl | h
    · rfl
    · cases h

/-- An empty row that was just laid is the call's own. -/
theorem own_empty (w : World) (base : Nat) (hb : base ≤ w.heap.size) (e : TypeId) (size : Nat) : (w.alloc (.cells #[] e)).ownsRow base e size (.slice (some ⟨w.heap.size, 0, none⟩) 0 0) 0 [] := by
  refine ⟨by simp, Or.inr ⟨w.heap.size, 0, #[], rfl, hb, ?_, Nat.le_refl _, by unfold maxLen; omega, by simp, by simp⟩⟩
  exact heap_alloc_new w _

theorem clone_calls (v : Value) (fs : List Fd) (lo hi : Nat) (w : World) (h : RdF lo hi w v fs) (hn : fs.length ≤ 1000000) :
    Calls Try.prog 27 #[v] w fun e w' => (∃ v', e = .returned v' ∧ w'.ownsRow w.heap.size 38 2 v' fs.length (cellsF fs)) ∧ Below w.heap.size w w' := by
  obtain ⟨A, c, rfl, hc, hr⟩ := h
  obtain ⟨i0, hi0, hz0, hz1, hz2⟩ := info_parts infoF
  cases A with
  | none =>
    have hf : fs = [] := by
      cases fs with
      | nil => rfl
      | cons f fs => obtain ⟨ad, h1, _⟩ := hr 0 (.string f.n) rfl; cases h1
    subst hf
    have hnil := Go.run_eql_slice_nil (P := Try.prog) w 29 38 none 0 c Try.underlying29
    go_enter Try.func27, Try.ntmps27
    go_wp2_with fail
    go_ret
    exact ⟨⟨_, rfl, World.ownsRow_nil _ _ _ _⟩, Below.refl _ _⟩
  | some ad =>
    obtain ⟨n, hfn⟩ : ∃ n, n = fs.length := ⟨_, rfl⟩
    have hnil := Go.run_eql_slice_nil (P := Try.prog) w 29 38 (some ad) fs.length c Try.underlying29
    rw [← hfn] at hnil hc hn ⊢
    have HL := Lib.hid hfn
    clear hfn
    go_enter Try.func27, Try.ntmps27
    go_wp2_with (at_builtin; refine wpList_append_own _ rfl _ _ 29 rfl w.heap.size 38 i0 (.agg #[.string ⟨#[]⟩, .int .i64 0]) 2 24 Try.underlying29 hi0 hz0 hz1 hz2 rfl (by decide) _ _ _ rfl (own_empty w w.heap.size (Nat.le_refl _) _ 2) ad n c (cellsF fs) rfl ?c0 ?c1 ?c2 ?c3 ?c4 ?c5 ?_)
    case c0 => rw [cellsF_length, HL.out]
    case c1 =>
      intro j u hj
      obtain ⟨ad', h1, _, h3, h4⟩ := hr j u hj
      obtain rfl := Option.some.inj h1
      rw [← h4]
      exact ((Below.refl w.heap.size w).alloc (Nat.le_refl _) _).cell (World.block_lt_of_cell? w _ h4)
    case c2 => exact cellsF_one fs
    case c3 => unfold maxLen; omega
    case c4 => omega
    case c5 => simp
    · intro v' w' hown hg hiff
      go_wp2_with fail
      go_ret
      exact ⟨⟨v', rfl, hown⟩, ((Below.refl w.heap.size w).alloc (Nat.le_refl _) _).grown hg (by simp) (by intro k hk; simp [Value.ownBlock] at hk; omega)⟩

theorem own_calls (s : ByteArray) (v : Value) (fs : List Fd) (lo hi : Nat) (w : World) (h : RdF lo hi w v fs) (hhi : hi ≤ w.heap.size) (hn : fs.length ≤ 1000000) :
    Calls Try.prog 19 #[.agg #[.string s, v]] w fun e w' => (∃ v', e = .returned (.agg #[.string s, v']) ∧ w'.ownsRow w.heap.size 38 2 v' fs.length (cellsF fs)) ∧ Below w.heap.size w w' := by
  go_enter Try.func19, Try.ntmps19
  go_wp2_with fail
  have hW : Below w.heap.size w ((w.alloc (Obj.cells #[Value.string s, v] 31)).alloc (Obj.cells #[Value.string { data := #[] }, Value.slice none 0 0] 31)) :=
    ((Below.refl _ _).alloc (Nat.le_refl _) _).alloc (by simp) _
  refine (clone_calls v fs lo hi _ (h.kept (Kept.of_below hW lo hhi)) hn).mono ?_; rintro e w1 ⟨⟨v', rfl, hown⟩, hb⟩
  obtain ⟨A', c', hv', _, _, _⟩ := rdC_own hown
  subst hv'
  have c0 : w1.cell? ⟨w.heap.size, 0, none⟩ = some (.string s) := (hb.cell (p := ⟨w.heap.size, 0, none⟩) (by simp <;> omega)).trans (by simp [go_sem])
  have c1 : w1.cell? ⟨w.heap.size, 1, none⟩ = some v := (hb.cell (p := ⟨w.heap.size, 1, none⟩) (by simp <;> omega)).trans (by simp [go_sem])
  have d0 : w1.cell? ⟨w.heap.size + 1, 0, none⟩ = some (.string ⟨#[]⟩) := (hb.cell (p := ⟨w.heap.size + 1, 0, none⟩) (by simp <;> omega)).trans (by simp [go_sem])
  have d1 : w1.cell? ⟨w.heap.size + 1, 1, none⟩ = some (.slice none 0 0) := (hb.cell (p := ⟨w.heap.size + 1, 1, none⟩) (by simp <;> omega)).trans (by simp [go_sem])
  have f1 : w1.frozen? ⟨w.heap.size, 1, none⟩ = false := (hb.frozen (p := ⟨w.heap.size, 1, none⟩) (by simp <;> omega)).trans (by simp [go_sem])
  have g0 : w1.frozen? ⟨w.heap.size + 1, 0, none⟩ = false := (hb.frozen (p := ⟨w.heap.size + 1, 0, none⟩) (by simp <;> omega)).trans (by simp [go_sem])
  have g1 : w1.frozen? ⟨w.heap.size + 1, 1, none⟩ = false := (hb.frozen (p := ⟨w.heap.size + 1, 1, none⟩) (by simp <;> omega)).trans (by simp [go_sem])
  have hz : w.heap.size + 1 < w1.heap.size := by have := hb.size; simp at this; omega
  have HB := hW.trans (hb.mono (by simp; omega))
  clear hW hb
  go_wp2_with fail
  have hown2 := ownsRow_setCell_below (ownsRow_setCell_below (ownsRow_setCell_below hown (a := ⟨w.heap.size, 1, none⟩) (by simp <;> omega) (.slice A' fs.length c')) (a := ⟨w.heap.size + 1, 0, none⟩) (by simp <;> omega) (.string s)) (a := ⟨w.heap.size + 1, 1, none⟩) (by simp <;> omega) (.slice A' fs.length c')
  refine bodyPost_ret (v := .agg #[.string s, .slice A' fs.length c']) ?_ rfl ⟨⟨_, rfl, own_base_le hown2 (by simp; omega)⟩, ((HB.setCell (by simp) _).setCell (by simp) _).setCell (by simp) _⟩
  simp [results, Try.results19, go_sem, c0, c1, d0, d1, hz]

end Go.Proofs.Ytkableklofokdaa

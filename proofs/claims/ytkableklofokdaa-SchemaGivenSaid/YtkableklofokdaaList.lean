/- The walk of a schema's List: the templates in new memory. -/
import Derived.Test.YtkableklofokdaaFind
set_option linter.unusedSimpArgs false
set_option linter.unusedVariables false
namespace Go.Proofs.Ytkableklofokdaa
open Go Go.RowKit Go.Maps Go.WideMaps

/-- Templates that the call owns. -/
def OwnsT (w : World) (base : Nat) (v : Value) (ts : List Tm) : Prop := ∃ vs, w.ownsRow base 31 2 v ts.length (cellsT vs) ∧ OwnTm w base vs ts
theorem OwnsT.rd {w : World} {base : Nat} {v : Value} {ts : List Tm} (h : OwnsT w base v ts) : RdT base w.heap.size w v ts := by
  obtain ⟨vs, h1, h2⟩ := h
  obtain ⟨A, c, hv, hc, _, hr⟩ := rdC_own h1
  exact ⟨A, c, vs, hv, hc, hr, h2.are⟩
theorem OwnsT.below {w w' : World} {base : Nat} {v : Value} {ts : List Tm} (h : OwnsT w base v ts) (hb : Below w.heap.size w w') : OwnsT w' base v ts := by
  obtain ⟨vs, h1, h2⟩ := h
  exact ⟨vs, own_below h1 hb, h2.below hb⟩
theorem OwnsT.base {w : World} {base base' : Nat} {v : Value} {ts : List Tm} (h : OwnsT w base v ts) (hb : base' ≤ base) : OwnsT w base' v ts := by
  obtain ⟨vs, h1, h2⟩ := h
  exact ⟨vs, own_base_le h1 hb, h2.1, fun i hi => ⟨(h2.2 i hi).1, own_base_le (h2.2 i hi).2 hb⟩⟩
/-- A template is added to owned ones. -/
theorem OwnTm.add {base : Nat} {wr w5 w6 : World} {o : Obj} {ts : List Tm} {k : Nat} {s : ByteArray} {fs : List Fd} {lv : Value} {vs2 : List (ByteArray × Value)} (hown : wr.ownsRow base 31 2 lv k (cellsT vs2)) (hOT : OwnTm wr base vs2 ts)
    (hb5 : Below wr.heap.size wr w5) {v' : Value} {b5 : Nat} (ho5 : w5.ownsRow b5 38 2 v' fs.length (cellsF fs)) (hbb : base ≤ b5)
    (hgrow : (w5.alloc o).grownBy w6 lv.ownBlock) : OwnTm w6 base (vs2 ++ [(s, v')]) (ts ++ [⟨s, fs⟩]) := by
  have hgr := grown_alloc hgrow
  have hlvb : ∀ b, lv.ownBlock = some b → ∃ cur, wr.heap[b]? = some (.cells cur 31 (0, 0)) := fun b hb => own_block hown hb
  have hfld : ∀ {bs : Nat} {v : Value} {n : Nat} {xs : List Value}, w5.ownsRow bs 38 2 v n xs → w6.ownsRow bs 38 2 v n xs := by
    intro bs v n xs h
    refine own_same h fun g cur hg _ => ?_
    have hg5 : g < w5.heap.size := (Array.getElem?_eq_some_iff.1 hg).1
    refine hgr.block g hg5 ?_
    intro e; obtain ⟨cur', h1⟩ := hlvb _ e.symm
    have hlt' : g < wr.heap.size := (Array.getElem?_eq_some_iff.1 h1).1
    rw [hb5.block g hlt', h1] at hg; cases hg
  have hOT5 := hOT.below hb5
  exact OwnTm.snoc ⟨hOT5.1, fun i hi => ⟨(hOT5.2 i hi).1, hfld (hOT5.2 i hi).2⟩⟩ rfl (hfld (own_base_le ho5 hbb))

theorem list_calls (p : Value) (ts : List Tm) (lo hi : Nat) (w : World) (h : SchemaAt lo hi w p ts) (hhi : hi ≤ w.heap.size) (hn : ts.length ≤ 100) (hf : ∀ t ∈ ts, t.s.length ≤ 1000000) :
    Calls Try.prog 14 #[p] w fun e w' => (∃ v', e = .returned v' ∧ OwnsT w' w.heap.size v' ts) ∧ Below w.heap.size w w' := by
  obtain ⟨g, M, lv, mn, rfl, hglo, hghi, hc0, hc1, hMlo, hMhi, hT, hm⟩ := h
  clear hm hc1
  obtain ⟨A, c, vs, rfl, hc, hr, hv⟩ := hT
  obtain ⟨n, hnn⟩ : ∃ n, n = ts.length := ⟨_, rfl⟩
  rw [← hnn] at hc hc0 hn
  have HN := Lib.hid hnn
  have HR := Lib.hid hr
  have HV := Lib.hid hv
  have HF := Lib.hid hf
  clear hnn hr hv hf
  obtain ⟨i0, hi0, hiz, his, hib⟩ := info_parts infoT
  go_enter Try.func14, Try.ntmps14
  go_wp2_with fail
  go_loopw [3, 11] (fun out i wr => ∃ k : Nat, k ≤ n ∧ i = .int .i64 k ∧ Below w.heap.size w wr ∧ ∃ vs2, wr.ownsRow w.heap.size 31 2 out k (cellsT vs2) ∧ OwnTm wr w.heap.size vs2 (ts.take k)) (fun _ i _ => n - (intOf i).toNat)
  case atStart => exact ⟨0, by omega, rfl, Below.refl _ _, [], World.ownsRow_nil _ _ _ _, OwnTm.nil _ _⟩
  case round =>
    obtain ⟨k, hk, rfl, hB, vs2, hown, hOT⟩ := hrel
    by_cases hlt : k < n
    · have hKp : Kept lo hi w wr := Kept.of_below hB lo hhi
      obtain ⟨ad, hA, _, _, c0, c1⟩ := (HR.out.kept hKp).tm k (by rw [HV.out.1, ← HN.out]; exact hlt)
      subst hA
      obtain ⟨hname, hslots⟩ := (HV.out.kept hKp).2 k (by rw [← HN.out]; exact hlt)
      have HT := takeT_snoc ts k (by rw [← HN.out]; exact hlt)
      have hfl : (ts.getD k default).s.length ≤ 1000000 := HF.out _ (by rw [List.getD_eq_getElem?_getD, List.getElem?_eq_getElem (by rw [← HN.out]; exact hlt)]; simp)
      rw [hname] at c0
      obtain ⟨s, hs⟩ : ∃ s, s = (ts.getD k default).n := ⟨_, rfl⟩
      obtain ⟨fs, hfs⟩ : ∃ fs, fs = (ts.getD k default).s := ⟨_, rfl⟩
      have hte : ts.getD k default = ⟨s, fs⟩ := by rw [hs, hfs]
      rw [hte] at HT
      rw [← hfs] at hslots hfl
      rw [← hs] at c0
      obtain ⟨sv, hsv⟩ : ∃ sv, sv = (vs.getD k default).2 := ⟨_, rfl⟩
      rw [← hsv] at c1 hslots
      have hslots2 := hslots
      obtain ⟨A2, c2, hsv2, _, _⟩ := hslots2
      subst hsv2
      have HSL := Lib.hid hslots
      have HTT := Lib.hid HT
      clear hname hslots HT hs hfs hte hsv
      go_wp2_with fail
      have hW : Below wr.heap.size wr (wr.alloc (.cells #[.string s, .slice A2 fs.length c2] 31)) := (Below.refl _ _).alloc (Nat.le_refl _) _
      refine (own_calls s (.slice A2 fs.length c2) fs lo hi _ (HSL.out.kept (Kept.of_below hW lo (by have := hB.size; omega))) (by have := hB.size; simp; omega) hfl).mono ?_; rintro e w5 ⟨⟨v', rfl, ho⟩, hb⟩
      obtain ⟨A5, c5, hv5, _, _, _⟩ := rdC_own ho
      subst hv5
      have hb5 : Below wr.heap.size wr w5 := hW.trans (hb.mono (by simp))
      have hown5 := own_below hown hb5
      go_wp2_with (at_builtin; refine wpList_append_own _ rfl _ _ 22 rfl w.heap.size 31 i0 (.agg #[.string ⟨#[]⟩, .slice none 0 0]) 2 40 Try.underlying22 hi0 hiz his hib rfl (by decide) u3 k (cellsT vs2) rfl (own_below hown5 ((Below.refl _ _).alloc (Nat.le_refl _) _)) ⟨w5.heap.size, 0, none⟩ 1 1 [.string s, .slice A5 fs.length c5] rfl ?c0 ?c1 ?c2 ?c3 ?c4 ?c5 ?_)
      case c0 => rfl
      case c1 => exact World.news_of_block (cs := #[.string s, .slice A5 fs.length c5]) (t := 31) (fr := (0, 0)) (heap_alloc_new w5 _)
      case c2 => simp [Value.oneCell']
      case c3 => unfold maxLen; omega
      case c4 => omega
      case c5 => have := hB.size; have := hb5.size; simp; omega
      · intro v' w6 hown6 hgrow hiff
        have hnew := OwnTm.add (s := s) hown hOT hb5 ho (by have := hB.size; simp; omega) hgrow
        have hB6 : Below w.heap.size w w6 := (hB.trans (hb5.mono hB.size)).grown (grown_alloc hgrow) (by have := hB.size; have := hb5.size; omega) (fun j hj => by
          obtain ⟨_, hx⟩ := hown
          rcases hx with ⟨rfl, _⟩ | ⟨g, cap', cur, rfl, hge, _⟩
          · cases hj
          · simp [Value.ownBlock] at hj; omega)
        clear hgrow hiff ho hW hb hb5 hown hown5 hOT
        go_wp2_with fail
        go_roundw
        case rel => exact ⟨k + 1, by omega, by go_num, hB6, vs2 ++ [(s, .slice A5 fs.length c5)], by rw [cellsT_append]; exact hown6, by rw [HTT.out]; exact hnew⟩
        case measure => simp [intOf]; omega
    · have hkn : k = n := by omega
      subst hkn
      have hdone : OwnsT wr w.heap.size u3 ts := by
        refine ⟨vs2, ?_, ?_⟩
        · rw [← HN.out]; exact hown
        · have := hOT; rw [HN.out, List.take_length] at this; exact this
      have HD := Lib.hid hdone
      clear hdone
      go_wp2_with fail
      go_ret
      exact ⟨⟨_, rfl, HD.out⟩, hB⟩

end Go.Proofs.Ytkableklofokdaa

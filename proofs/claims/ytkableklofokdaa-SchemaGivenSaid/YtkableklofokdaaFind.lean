/- The walks of a schema's Find, Slot, Type, List and Fits, and of what they lean on. -/
import Derived.Test.YtkableklofokdaaNew
set_option linter.unusedSimpArgs false
set_option linter.unusedVariables false
namespace Go.Proofs.Ytkableklofokdaa
open Go Go.RowKit Go.Maps Go.WideMaps

def noTm : Tm := ⟨⟨#[]⟩, []⟩
/-- The template of a name; one of nothing, if there is none. -/
def findD (ts : List Tm) (s : ByteArray) : Tm := match ts.findIdx? fun t => t.n.data.toList == s.data.toList with
  | some i => ts.getD i default
  | none => noTm

theorem find_calls (p : Value) (ts : List Tm) (s : ByteArray) (lo hi : Nat) (w : World) (h : SchemaAt lo hi w p ts) (hhi : hi ≤ w.heap.size) (hs : s.size ≤ maxLen) (hn : ts.length ≤ 100) (hf : ∀ t ∈ ts, t.s.length ≤ 1000000) :
    Calls Try.prog 10 #[p, .string s] w fun e w' => (∃ v', e = .returned (.tuple #[.agg #[.string (findD ts s).n, v'], .bool (isThere ts s)]) ∧ w'.ownsRow w.heap.size 38 2 v' (findD ts s).s.length (cellsF (findD ts s).s)) ∧ Below w.heap.size w w' := by
  obtain ⟨g, M, lv, mn, rfl, hglo, hghi, hc0, hc1, hMlo, hMhi, hT, hm⟩ := h
  have hglt : g < w.heap.size := by omega
  cases hpl : (ts.findIdx? fun t => t.n.data.toList == s.data.toList) with
  | none =>
    have hpm : placeM ts s.data.toList = none := by unfold placeM; rw [hpl]; rfl
    have hth := placeM_some ts s
    rw [hpm] at hth
    have hfd : findD ts s = noTm := by unfold findD; rw [hpl]
    rw [hfd, ← hth]
    have hW : Below w.heap.size w (w.alloc (.cells #[.string ⟨#[]⟩, .slice none 0 0] 31)) := (Below.refl _ _).alloc (Nat.le_refl _) _
    have hrun := (hm.kept (hW.block M (by omega))).look hs
    rw [hpm] at hrun
    have d1 := (hW.cell (p := ⟨g, 1, none⟩) hglt).trans hc1
    clear hpl hpm hth hfd hm hT hc0
    go_enter Try.func10, Try.ntmps10
    go_wp2_with fail
    refine bodyPost_ret (v := .tuple #[.agg #[.string ⟨#[]⟩, .slice none 0 0], .bool false]) (by simp [results, Try.results10, go_sem]) rfl ⟨⟨_, rfl, World.ownsRow_nil _ _ _ _⟩, hW⟩
  | some i =>
    have hpm : placeM ts s.data.toList = some (i : Int) := by unfold placeM; rw [hpl]; rfl
    have hth := placeM_some ts s
    rw [hpm] at hth
    have hil : i < ts.length := by
      have := (List.findIdx?_eq_some_iff_getElem.1 hpl).1; exact this
    have hfd : findD ts s = ts.getD i default := by unfold findD; rw [hpl]
    rw [hfd, ← hth]
    have hW : Below w.heap.size w (w.alloc (.cells #[.string ⟨#[]⟩, .slice none 0 0] 31)) := (Below.refl _ _).alloc (Nat.le_refl _) _
    have hrun := (hm.kept (hW.block M (by omega))).look hs
    rw [hpm] at hrun
    have d1 := (hW.cell (p := ⟨g, 1, none⟩) hglt).trans hc1
    have d0 := (hW.cell (p := ⟨g, 0, none⟩) hglt).trans hc0
    have hmem : ts.getD i default ∈ ts := by simp [List.getD_eq_getElem?_getD, List.getElem?_eq_getElem hil]
    have hf1 := hf _ hmem
    have hT' := hT.kept (Kept.of_below hW lo hhi)
    obtain ⟨A, c, vs, rfl, hc, hr, hv⟩ := hT'
    obtain ⟨ad, hA, _, _, e0, e1⟩ := hr.tm i (by rw [hv.1]; exact hil)
    subst hA
    obtain ⟨hname, hslots⟩ := hv.2 i hil
    rw [hname] at e0
    obtain ⟨sv, hsv⟩ : ∃ sv, sv = (vs.getD i default).2 := ⟨_, rfl⟩
    rw [← hsv] at e1 hslots
    obtain ⟨t, ht⟩ : ∃ t, t = ts.getD i default := ⟨_, rfl⟩
    rw [← ht] at e0 hslots hf1 ⊢
    obtain ⟨tn, tf⟩ := t
    simp only at e0 hslots hf1 ⊢
    have hslots2 := hslots
    obtain ⟨A2, c2, hsv2, _, _⟩ := hslots2
    subst hsv2
    have HSL := Lib.hid hslots
    obtain ⟨n, hnn⟩ : ∃ n, n = ts.length := ⟨_, rfl⟩
    rw [← hnn] at hc hn hil d0
    clear hpl hpm hth hfd hm hT hr hv hname hsv ht hslots hmem hnn hf hc0
    go_enter Try.func10, Try.ntmps10
    go_wp2_with fail
    refine (own_calls tn (.slice A2 tf.length c2) tf lo hi _ HSL.out (by simp; omega) hf1).mono ?_; rintro e w2 ⟨⟨v', rfl, ho⟩, hb⟩
    obtain ⟨A5, c5, hv5, _, _, _⟩ := rdC_own ho
    subst hv5
    have r0 := (hb.cell (p := ⟨w.heap.size, 0, none⟩) (by simp)).trans (show _ = some (.string ⟨#[]⟩) by simp [go_sem])
    have r1 := (hb.cell (p := ⟨w.heap.size, 1, none⟩) (by simp)).trans (show _ = some (.slice none 0 0) by simp [go_sem])
    have q0 := (hb.frozen (p := ⟨w.heap.size, 0, none⟩) (by simp)).trans (show _ = false by simp [go_sem])
    have q1 := (hb.frozen (p := ⟨w.heap.size, 1, none⟩) (by simp)).trans (show _ = false by simp [go_sem])
    have hz : w.heap.size < w2.heap.size := by have := hb.size; simp at this; omega
    have HB := hW.trans (hb.mono (by simp))
    clear hb hW
    go_wp2_with fail
    have ho2 := ownsRow_setCell_below (ownsRow_setCell_below ho (a := ⟨w.heap.size, 0, none⟩) (by simp) (.string tn)) (a := ⟨w.heap.size, 1, none⟩) (by simp) (.slice A5 tf.length c5)
    refine bodyPost_ret (v := .tuple #[.agg #[.string tn, .slice A5 tf.length c5], .bool true]) (by simp [results, Try.results10, go_sem, r0, r1, hz]) rfl ⟨⟨_, rfl, own_base_le ho2 (by simp)⟩, (HB.setCell (by simp) _).setCell (by simp) _⟩


theorem slot1_calls (n s : ByteArray) (t : Int) (B : Nat) (w : World) (hc : w.cell? ⟨B, 0, none⟩ = some (.string s)) (hB : B < w.heap.size) :
    Calls Try.prog 21 #[.agg #[.string n, .int .i64 t], .pointer (some ⟨B, 0, none⟩)] w fun e w' => e = .returned (.bool (n.toList == s.toList)) ∧ Below w.heap.size w w' := by
  go_enter Try.func21, Try.ntmps21
  go_wp2_with fail
  go_ret
  exact ⟨rfl, (Below.refl _ _).alloc (Nat.le_refl _) _⟩
theorem enters_slot1 : ∀ args w, (callFunc 21 args).run Try.prog w = .ok (.enter 21 args) w := enters_of Try.func21 (by kernel_rfl) rfl

/-- Where a slot's name stands, from a place on; -1. -/
def sIdx (s : ByteArray) : List Fd → Nat → Int
  | [], _ => -1
  | f :: fs, k => if (f.n.toList == s.toList) = true then (k : Int) else sIdx s fs (k + 1)
theorem sIdx_drop (s : ByteArray) (fs : List Fd) (k : Nat) (h : k < fs.length) : sIdx s (fs.drop k) k = if ((fs.getD k default).n.toList == s.toList) = true then (k : Int) else sIdx s (fs.drop (k + 1)) (k + 1) := by
  rw [List.drop_eq_getElem_cons h, sIdx]
  simp [List.getD_eq_getElem?_getD, List.getElem?_eq_getElem h]
theorem sIdx_range (s : ByteArray) (fs : List Fd) (k : Nat) : sIdx s fs k = -1 ∨ ((k : Int) ≤ sIdx s fs k ∧ sIdx s fs k < k + fs.length) := by
  induction fs generalizing k with
  | nil => exact Or.inl rfl
  | cons f fs ih =>
    unfold sIdx
    split
    · exact Or.inr ⟨Int.le_refl _, by simp; omega⟩
    · rcases ih (k + 1) with h | ⟨h1, h2⟩
      · exact Or.inl h
      · exact Or.inr ⟨by omega, by simp; omega⟩

set_option maxHeartbeats 400000 in
theorem indexS1_calls (A : Option Addr) (cap n : Nat) (fs : List Fd) (s : ByteArray) (lo hi B : Nat) (w : World) (hr : RdC lo hi w A (cellsF fs)) (hfn : fs.length = n) (hn : n ≤ 1000000) (hhi : hi ≤ w.heap.size)
    (hcB : w.cell? ⟨B, 0, none⟩ = some (.string s)) (hB : B < w.heap.size) :
    Calls Try.prog 20 #[.slice A n cap, .func (.func 21) #[] #[.pointer (some ⟨B, 0, none⟩)]] w fun e w' => e = .returned (.int .i64 (sIdx s fs 0)) ∧ Below w.heap.size w w' := by
  have eg := enters_slot1
  have HL := Lib.hid hfn
  have HR := Lib.hid hr
  clear hfn hr
  go_enter Try.func20, Try.ntmps20
  go_wp2_with fail
  go_loopw [5, 8] (fun v i wr => ∃ k : Nat, k ≤ n ∧ i = .int .i64 k ∧ Below w.heap.size w wr ∧ sIdx s (fs.drop k) k = sIdx s fs 0) (fun _ i _ => n - (intOf i).toNat)
  case atStart => exact ⟨0, by omega, rfl, Below.refl _ _, rfl⟩
  case round =>
    obtain ⟨k, hk, rfl, hb, hrest⟩ := hrel
    by_cases hlt : k < n
    · have hd := sIdx_drop s fs k (by rw [HL.out]; exact hlt)
      obtain ⟨ad, hA, hlo, hhi2, c0, c1⟩ := (HR.out.kept (Kept.of_below hb lo hhi)).fd k (by rw [HL.out]; exact hlt)
      subst hA
      obtain ⟨f, hf⟩ : ∃ f, f = fs.getD k default := ⟨_, rfl⟩
      rw [← hf] at hd c0 c1
      obtain ⟨fn, ft⟩ := f
      simp only at hd c0 c1
      have cB := (hb.cell (p := ⟨B, 0, none⟩) hB).trans hcB
      have cR := slot1_calls fn s ft B wr cB (by have := hb.size; omega)
      have HD := Lib.hid (hd.symm.trans hrest)
      clear hd hrest hf cB
      cases hbad : (fn.toList == s.toList) <;> rw [hbad] at cR
      · have HB := Lib.hid hbad
        clear hbad
        go_wp2_with fail
        refine cR.mono ?_; rintro e w2 ⟨rfl, hb2⟩
        go_wp2_with fail
        go_roundw
        case rel => exact ⟨k + 1, by omega, by go_num, hb.trans (hb2.mono hb.size), by have := HD.out; rw [HB.out] at this; simpa using this⟩
        case measure => simp [intOf]; omega
      · have HB := Lib.hid hbad
        clear hbad
        go_wp2_with fail
        refine cR.mono ?_; rintro e w2 ⟨rfl, hb2⟩
        go_wp2_with fail
        go_ret
        have e : (k : Int) = sIdx s fs 0 := by have := HD.out; rw [HB.out] at this; simpa using this
        exact ⟨ret_int e, hb.trans (hb2.mono hb.size)⟩
    · have : k = n := by omega
      subst this
      have hz : sIdx s (fs.drop k) k = -1 := by rw [List.drop_eq_nil_of_le (by rw [HL.out]; exact Nat.le_refl _)]; rfl
      rw [hz] at hrest
      have HD := Lib.hid hrest
      clear hrest hz
      go_wp2_with fail
      go_ret
      exact ⟨ret_int HD.out, hb⟩

/-- The place of a slot in a template, or 0; is there one? -/
def slotI (ts : List Tm) (s q : ByteArray) : Int := sIdx q (findD ts s).s 0
def slotR (ts : List Tm) (s q : ByteArray) : Int := if 0 ≤ slotI ts s q then slotI ts s q else 0
def hasSlot (ts : List Tm) (s q : ByteArray) : Bool := decide (0 ≤ slotI ts s q)
theorem slot_calls (p : Value) (ts : List Tm) (s q : ByteArray) (lo hi : Nat) (w : World) (h : SchemaAt lo hi w p ts) (hhi : hi ≤ w.heap.size) (hs : s.size ≤ maxLen) (hn : ts.length ≤ 100) (hf : ∀ t ∈ ts, t.s.length ≤ 1000) (hfd : (findD ts s).s.length ≤ 1000) :
    Calls Try.prog 12 #[p, .string s, .string q] w fun e w' => e = .returned (.tuple #[.int .i64 (slotR ts s q), .bool (hasSlot ts s q)]) ∧ Below w.heap.size w w' := by
  have hW : Below w.heap.size w (w.alloc (.cells #[.string q] 9)) := (Below.refl _ _).alloc (Nat.le_refl _) _
  have cF := find_calls p ts s lo hi _ (h.kept (Kept.of_below hW lo hhi)) (by simp; omega) hs hn (fun t ht => by have := hf t ht; omega)
  obtain ⟨g, M, lv, mn, rfl, _⟩ := h
  have hsr := sIdx_range q (findD ts s).s 0
  go_enter Try.func12, Try.ntmps12
  go_wp2_with fail
  refine cF.mono ?_; rintro e w1 ⟨⟨v', rfl, ho⟩, hb⟩
  obtain ⟨A5, c5, hv5, hle, hblk, hrd⟩ := rdC_own ho
  subst hv5
  have hW2 : Below w1.heap.size w1 (w1.alloc (.cells #[.string (findD ts s).n, .slice A5 (findD ts s).s.length c5] 31)) := (Below.refl _ _).alloc (Nat.le_refl _) _
  have hB1 : w.heap.size < w1.heap.size := by have := hb.size; simp at this; omega
  have q1 := (hb.cell (p := ⟨w.heap.size, 0, none⟩) (by simp)).trans (show _ = some (.string q) by simp [go_sem])
  have cI := indexS1_calls A5 c5 _ (findD ts s).s q _ _ w.heap.size _ (hrd.kept (Kept.of_below hW2 _ (Nat.le_refl _))) rfl (by omega) (by simp) ((hW2.cell (p := ⟨w.heap.size, 0, none⟩) hB1).trans q1) (by simp; omega)
  have HB := hW.trans (hb.mono (by simp))
  have HB2 := HB.alloc HB.size (.cells #[.string (findD ts s).n, .slice A5 (findD ts s).s.length c5] 31)
  have hfin : slotI ts s q = sIdx q (findD ts s).s 0 := rfl
  have HF := Lib.hid hfin
  clear hfin cF hrd ho hblk hb hW2 hW
  generalize sIdx q (findD ts s).s 0 = x at cI hsr HF
  go_wp2_with fail
  refine cI.mono ?_; rintro e w3 ⟨rfl, hb3⟩
  rcases hsr with rfl | ⟨hx0, hx1⟩
  · go_wp2_with fail
    go_ret2
    refine ⟨?_, HB2.trans (hb3.mono (by simp; omega))⟩
    show Ending.returned (.tuple #[.int .i64 0, .bool false]) = _
    unfold slotR hasSlot; rw [HF.out]; rfl
  · have hx0' : (0 : Int) ≤ x := by omega
    have hxd : decide (0 ≤ x) = true := by simpa using hx0'
    clear hx0
    go_wp2_with fail
    go_ret2
    refine ⟨?_, HB2.trans (hb3.mono (by simp; omega))⟩
    show Ending.returned (.tuple #[.int .i64 x, .bool true]) = _
    unfold slotR hasSlot; rw [HF.out, if_pos hx0', hxd]

end Go.Proofs.Ytkableklofokdaa

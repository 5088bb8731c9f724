/- The walk of the law SchemaFirst. -/
import Derived.Test.YtkableklofokdaaOpen
set_option linter.unusedSimpArgs false
set_option linter.unusedVariables false
namespace Go.Proofs.Ytkableklofokdaa
open Go Go.RowKit Go.Maps Go.WideMaps

/-! What is wrong with templates, and with the first ones of them. -/
theorem newGo_append (l1 l2 : List Tm) : ∀ (pre : List Tm) (i : Nat), newGo pre (l1 ++ l2) i = match newGo pre l1 i with | some r => some r | none => newGo (pre ++ l1) l2 (i + l1.length) := by
  induction l1 with
  | nil => intro pre i; simp [newGo]
  | cons t l1 ih =>
    intro pre i
    simp only [List.cons_append, newGo]
    split
    · rfl
    · split
      · rfl
      · rw [ih]
        simp only [List.length_cons, List.append_assoc, List.singleton_append, Nat.add_assoc, Nat.add_comm 1]
theorem newGo_range (l : List Tm) : ∀ (pre : List Tm) (i : Nat) (e : Int) (n : Nat), newGo pre l i = some (e, n) → i ≤ n ∧ n < i + l.length := by
  induction l with
  | nil => intro pre i e n h; simp [newGo] at h
  | cons t l ih =>
    intro pre i e n h
    simp only [newGo] at h
    split at h
    · simp at h; simp; omega
    · split at h
      · simp at h; simp; omega
      · have := ih _ _ _ _ h; simp; omega
theorem newRes_le {ts : List Tm} (h : ts.length ≤ 16) : newRes ts = newGo [] ts 0 := by unfold newRes; rw [if_neg (by omega)]
/-- The first ones may not be: then all may not be, for the same. -/
theorem newRes_take_some {ts : List Tm} (h : ts.length ≤ 16) {k : Nat} (hk : k ≤ ts.length) {e : Int} {m : Nat} (hr : newRes (ts.take k) = some (e, m)) : newRes ts = some (e, m) ∧ m < k := by
  have hl : (ts.take k).length = k := by rw [List.length_take]; omega
  rw [newRes_le (by omega)] at hr
  rw [newRes_le h]
  have := newGo_append (ts.take k) (ts.drop k) [] 0
  rw [List.take_append_drop, hr] at this
  have h2 := newGo_range _ _ _ _ _ hr
  exact ⟨this, by omega⟩
/-- The first ones may be: what is wrong lies behind. -/
theorem newRes_take_none {ts : List Tm} (h : ts.length ≤ 16) {k : Nat} (hk : k ≤ ts.length) {e : Int} {m : Nat} (hr : newRes (ts.take k) = none) (hs : newRes ts = some (e, m)) : k ≤ m := by
  have hl : (ts.take k).length = k := by rw [List.length_take]; omega
  rw [newRes_le (by omega)] at hr
  rw [newRes_le h] at hs
  have := newGo_append (ts.take k) (ts.drop k) [] 0
  rw [List.take_append_drop, hr, hs] at this
  have h2 := newGo_range _ _ _ _ _ this.symm
  omega
theorem rightB_len {t : Tm} (h : rightB t = true) : t.s.length ≤ 8 := by
  unfold rightB at h; simp only [Bool.and_eq_true, decide_eq_true_eq] at h; exact h.1.2
theorem newGo_none (l : List Tm) : ∀ (pre : List Tm) (i : Nat), newGo pre l i = none → ∀ t ∈ l, rightB t = true := by
  induction l with
  | nil => intro pre i h t ht; simp at ht
  | cons t l ih =>
    intro pre i h u hu
    simp only [newGo] at h
    split at h
    · cases h
    · rename_i hr
      split at h
      · cases h
      · rcases List.mem_cons.1 hu with rfl | hu
        · simpa using hr
        · exact ih _ _ h u hu
theorem newRes_none {ts : List Tm} (h : newRes ts = none) : ts.length ≤ 16 ∧ ∀ t ∈ ts, t.s.length ≤ 8 := by
  unfold newRes at h
  split at h
  · cases h
  · exact ⟨by omega, fun t ht => rightB_len (newGo_none _ _ _ h t ht)⟩

theorem Sized.two {ts : List Tm} (h : Sized ts) : ∀ t ∈ ts, t.n.size ≤ maxLen ∧ ∀ f ∈ t.s, f.n.size ≤ maxLen := fun t ht => ⟨(h t ht).1, (h t ht).2.2⟩
theorem Sized.take {ts : List Tm} (h : Sized ts) (k : Nat) : Sized (ts.take k) := fun t ht => h t (List.mem_of_mem_take ht)
theorem cellsT_take (vs : List (ByteArray × Value)) (k : Nat) : ∀ (j : Nat) (v : Value), (cellsT (vs.take k))[j]? = some v → (cellsT vs)[j]? = some v := by
  intro j v h
  have e : cellsT vs = cellsT (vs.take k) ++ cellsT (vs.drop k) := by rw [← cellsT_append, List.take_append_drop]
  rw [e, List.getElem?_append_left (List.getElem?_eq_some_iff.1 h).1]; exact h
theorem RdT.take {lo hi : Nat} {w : World} {A : Option Addr} {n c : Nat} {ts : List Tm} (h : RdT lo hi w (.slice A n c) ts) {k : Nat} (hk : k ≤ n) : RdT lo hi w (.slice A k c) (ts.take k) := by
  obtain ⟨A', c', vs, h1, h2, h3, h4⟩ := h
  cases h1
  refine ⟨A, c, vs.take k, by rw [List.length_take, Nat.min_eq_left hk], by rw [List.length_take]; omega, fun j v hj => h3 j v (cellsT_take _ _ _ _ hj), by rw [List.length_take, List.length_take, h4.1], fun i hi => ?_⟩
  rw [List.length_take] at hi
  have e : ∀ {α : Type} [Inhabited α] (l : List α), i < k → (l.take k).getD i default = l.getD i default := fun l hi => by
    rw [List.getD_eq_getElem?_getD, List.getD_eq_getElem?_getD, List.getElem?_take, if_pos hi]
  rw [e _ (by omega), e _ (by omega)]
  exact h4.2 i (by omega)

theorem great_all (v : Value) (ts : List Tm) (w w1 : World) (h : RdT 0 w.heap.size w v ts) (hb : Below w.heap.size w w1) (hn : ts.length ≤ maxLen) (hsz : Sized ts) :
    Calls Try.prog 9 #[v] w1 fun e w' => (∃ b, e = .returned (.bool b) ∧ (b = false → ts.length < 3000 ∧ ∀ t ∈ ts, t.s.length < 3000)) ∧ Below w.heap.size w w' :=
  (great_calls v ts 0 w.heap.size w1 (h.kept (Kept.of_below hb 0 (Nat.le_refl _))) hb.size hn hsz).mono fun e w' ⟨h1, h2⟩ => ⟨h1, hb.trans (h2.mono hb.size)⟩

set_option maxHeartbeats 1000000 in
theorem first_calls (A : Option Addr) (n c a : Nat) (ts : List Tm) (w : World) (h : RdT 0 w.heap.size w (.slice A n c) ts) (hA : A = none → c = 0) (hn : n = ts.length) (hm : n ≤ maxLen) (hsz : Sized ts) (ha : a < 256) :
    Calls Try.prog 6 #[.slice A n c, .int .u8 (a : Int)] w fun e w' => e = .returned (.bool true) ∧ Below w.heap.size w w' := by
  have cG := fun w1 hb => great_all _ ts w w1 h hb (by omega) hsz
  have HN := Lib.hid hn
  have HH := Lib.hid h
  have HZ := Lib.hid hsz
  have hc : n ≤ c := by obtain ⟨A', c', vs, h1, h2, _⟩ := h; cases h1; omega
  clear h hsz hn
  go_enter Try.func6, Try.ntmps6
  go_wp2_with fail
  refine (head_calls _).mono ?_; rintro e w1 ⟨rfl, hb1⟩
  go_wp2_with fail
  refine (cG _ hb1).mono ?_; rintro e w2 ⟨⟨b, rfl, hlen⟩, hb2⟩
  clear hb1 hlen cG
  cases b
  · by_cases h16 : n ≤ 16
    · have hd16 : decide ((16 : Int) < (n : Int)) = false := by simp; omega
      have h16t : ts.length ≤ 16 := by rw [← HN.out]; exact h16
      obtain ⟨k, hk⟩ : ∃ k : Nat, k = a % (n + 1) := ⟨_, rfl⟩
      have hkn : k ≤ n := by have := Nat.mod_lt a (show 0 < n + 1 by omega); omega
      have hmod : ((a : Int) % ((n : Int) + 1)) = (k : Int) := by rw [hk]; simp
      have hmod2 : ((a : Int).tmod ((n : Int) + 1)) = (k : Int) := by rw [Int.tmod_eq_emod_of_nonneg (by omega), hmod]
      have HK := Lib.hid hkn
      have hR2 := HH.out.kept (Kept.of_below hb2 0 (Nat.le_refl _))
      have hkt : k ≤ ts.length := by rw [← HN.out]; exact hkn
      clear hk
      cases hr : newRes ts with
      | none =>
        have hr2 : newRes (ts.take k) = none := by
          cases hq : newRes (ts.take k) with
          | none => rfl
          | some x => have := (newRes_take_some h16t hkt hq).1; rw [hr] at this; cases this
        have cN := new_none _ ts _ _ w2 hR2 hb2.size HZ.out.two hr
        have HR2 := Lib.hid hr2
        have HR := Lib.hid hr
        clear hR2 hr2 hr hkt h16t
        go_wp2_with fail
        refine cN.mono ?_; rintro e w3 ⟨⟨g, rfl, hS⟩, hb3⟩
        have hB3 := hb2.trans (hb3.mono hb2.size)
        have HS := Lib.hid hS
        clear hb3 hS cN
        go_wp2_with fail
        have hR3 := (HH.out.kept (Kept.of_below hB3 0 (Nat.le_refl _))).take HK.out
        refine (new_none _ (ts.take k) _ _ w3 hR3 hB3.size (HZ.out.take k).two HR2.out).mono ?_; rintro e w4 ⟨⟨g', rfl, hS'⟩, hb4⟩
        have hB4 := hB3.trans (hb4.mono hB3.size)
        have HS2 := Lib.hid (HS.out.kept (Kept.of_below hb4 _ (Nat.le_refl _)))
        have HS' := Lib.hid hS'
        have H43 := Lib.hid hb4.size
        have HRN := Lib.hid (newRes_none HR.out)
        have HRN' := Lib.hid (newRes_none HR2.out)
        clear hb4 hS' hR3 HS hB3 hb2
        go_wp2_with fail
        refine (list_calls _ (ts.take k) _ _ w4 HS'.out (Nat.le_refl _) (by have := HRN'.out.1; omega) (fun t ht => by have := HRN'.out.2 t ht; omega)).mono ?_; rintro e w5 ⟨⟨v5, rfl, ho5⟩, hb5⟩
        have hB5 := hB4.trans (hb5.mono hB4.size)
        have hS5 := HS2.out.kept (Kept.of_below hb5 _ H43.out)
        have hr5 := ho5.rd
        obtain ⟨A5, n5, c5, rfl⟩ : ∃ A n c, v5 = .slice A n c := by obtain ⟨A, c, _, h, _⟩ := hr5; exact ⟨A, _, c, h⟩
        have H5 := Lib.hid hb5.size
        clear hb5 ho5 HS2 HS' hB4
        go_wp2_with fail
        refine (list_calls _ ts _ _ w5 hS5 (by have := H5.out; have := H43.out; omega) (by have := HRN.out.1; omega) (fun t ht => by have := HRN.out.2 t ht; omega)).mono ?_; rintro e w6 ⟨⟨v6, rfl, ho6⟩, hb6⟩
        have hB6 := hB5.trans (hb6.mono hB5.size)
        have hr6 := ho6.rd
        obtain ⟨A6, n6, c6, rfl⟩ : ∃ A n c, v6 = .slice A n c := by obtain ⟨A, c, _, h, _⟩ := hr6; exact ⟨A, _, c, h⟩
        have hn6 : k ≤ n6 ∧ n6 ≤ c6 := by obtain ⟨A, c, _, h, h2, _⟩ := hr6; cases h; have := HK.out; rw [HN.out] at this; exact ⟨this, h2⟩
        obtain ⟨hn6, hc6⟩ := hn6
        have hr56 := ((hr5.mono (Nat.zero_le _) (Nat.le_refl _)).kept (Kept.of_below hb6 0 (Nat.le_refl _))).mono (Nat.le_refl _) hb6.size
        have hr6' := (hr6.mono (Nat.zero_le _) (Nat.le_refl _)).take hn6
        have H56 := Lib.hid hr56
        have H6 := Lib.hid hr6'
        clear hb6 ho6 hr5 hr6 hS5 hr56 hr6' hB5
        go_wp2_with fail
        refine (same_calls _ _ (ts.take k) w6 H56.out H6.out (by have := HRN'.out.1; unfold maxLen; omega) (fun t ht => by have := HRN'.out.2 t ht; unfold maxLen; omega)).mono ?_; rintro e w7 ⟨rfl, hb7⟩
        have hB7 := hB6.trans (hb7.mono hB6.size)
        clear hb7 H56 H6
        go_wp2_with fail
        go_ret
        exact ⟨rfl, hB7⟩
      | some x =>
        obtain ⟨er, m⟩ := x
        have cN := new_some _ ts er m _ _ w2 hR2 hb2.size HZ.out.two hr
        cases hq : newRes (ts.take k) with
        | none =>
          have hkm := newRes_take_none h16t hkt hq hr
          have HQ := Lib.hid hq
          clear hR2 hr hkt h16t hq
          go_wp2_with fail
          refine cN.mono ?_; rintro e w3 ⟨rfl, hb3⟩
          have hB3 := hb2.trans (hb3.mono hb2.size)
          clear hb3 cN
          go_wp2_with fail
          have hR3 := (HH.out.kept (Kept.of_below hB3 0 (Nat.le_refl _))).take HK.out
          refine (new_none _ (ts.take k) _ _ w3 hR3 hB3.size (HZ.out.take k).two HQ.out).mono ?_; rintro e w4 ⟨⟨g', rfl, hS'⟩, hb4⟩
          have hB4 := hB3.trans (hb4.mono hB3.size)
          have hd : decide ((k : Int) ≤ (m : Int)) = true := by simp; omega
          clear hb4 hS' hR3
          go_wp2_with fail
          go_ret
          exact ⟨rfl, hB4⟩
        | some y =>
          obtain ⟨er', m'⟩ := y
          obtain ⟨h1, h2⟩ := newRes_take_some h16t hkt hq
          rw [hr] at h1
          cases h1
          have HQ := Lib.hid hq
          clear hR2 hr hkt h16t hq
          go_wp2_with fail
          refine cN.mono ?_; rintro e w3 ⟨rfl, hb3⟩
          have hB3 := hb2.trans (hb3.mono hb2.size)
          clear hb3 cN
          go_wp2_with fail
          have hR3 := (HH.out.kept (Kept.of_below hB3 0 (Nat.le_refl _))).take HK.out
          refine (new_some _ (ts.take k) er m _ _ w3 hR3 hB3.size (HZ.out.take k).two HQ.out).mono ?_; rintro e w4 ⟨rfl, hb4⟩
          have hB4 := hB3.trans (hb4.mono hB3.size)
          have hd : decide ((k : Int) ≤ (m : Int)) = false := by simp; omega
          clear hb4 hR3
          go_wp2_with fail
          go_ret
          have hd2 : (!decide (k ≤ m)) = true := by simp; omega
          exact ⟨ret_bool hd2, hB4⟩
    · have hd16 : decide ((16 : Int) < (n : Int)) = true := by simp; omega
      go_wp2_with fail
      go_ret
      exact ⟨rfl, hb2⟩
  · go_wp2_with fail
    go_ret
    exact ⟨rfl, hb2⟩

end Go.Proofs.Ytkableklofokdaa

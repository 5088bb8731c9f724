/- The walk of head: it answers yes. -/
import Derived.Test.YtkableklofokdaaFits
set_option linter.unusedSimpArgs false
set_option linter.unusedVariables false
namespace Go.Proofs.Ytkableklofokdaa
open Go Go.RowKit Go.Maps Go.WideMaps

theorem new_some (v : Value) (ts : List Tm) (er : Int) (k lo hi : Nat) (w : World) (h : RdT lo hi w v ts) (hhi : hi ≤ w.heap.size) (hsz : ∀ t ∈ ts, t.n.size ≤ maxLen ∧ ∀ f ∈ t.s, f.n.size ≤ maxLen) (hr : newRes ts = some (er, k)) :
    Calls Try.prog 8 #[v] w fun e w' => e = .returned (.tuple #[.pointer none, .int .i64 er, .int .i64 (k : Int)]) ∧ Below w.heap.size w w' := by
  refine (new_calls v ts lo hi w h hhi hsz).mono ?_
  rintro e w' ⟨hb, h | ⟨h, _⟩⟩
  · obtain ⟨er', k', h1, h2⟩ := h
    rw [hr] at h1
    cases h1
    exact ⟨h2, hb⟩
  · rw [hr] at h; cases h
theorem new_none (v : Value) (ts : List Tm) (lo hi : Nat) (w : World) (h : RdT lo hi w v ts) (hhi : hi ≤ w.heap.size) (hsz : ∀ t ∈ ts, t.n.size ≤ maxLen ∧ ∀ f ∈ t.s, f.n.size ≤ maxLen) (hr : newRes ts = none) :
    Calls Try.prog 8 #[v] w fun e w' => (∃ g, e = .returned (.tuple #[.pointer (some ⟨g, 0, none⟩), .int .i64 0, .int .i64 0]) ∧ SchemaAt w.heap.size w'.heap.size w' (.pointer (some ⟨g, 0, none⟩)) ts) ∧ Below w.heap.size w w' := by
  refine (new_calls v ts lo hi w h hhi hsz).mono ?_
  rintro e w' ⟨hb, h | ⟨h, p, h1, h2⟩⟩
  · obtain ⟨er', k', h1, h2⟩ := h
    rw [hr] at h1
    cases h1
  · obtain ⟨g, M, lv, n, hp, hx⟩ := h2
    subst hp
    exact ⟨⟨g, h1, g, M, lv, n, rfl, hx⟩, hb⟩

/-- Templates of which only the names are said. -/
def bare (l : List ByteArray) : List Tm := l.map fun s => ⟨s, []⟩
theorem rdT_bare {W : World} {g n : Nat} {t : TypeId} {fr : Nat × Nat} (l : List ByteArray) (h : W.heap[g]? = some (.cells (cellsT (l.map fun s => (s, Value.slice none 0 0))).toArray t fr)) (hn : n = l.length) (lo hi : Nat) (h1 : lo ≤ g) (h2 : g < hi) :
    RdT lo hi W (.slice (some ⟨g, 0, none⟩) n n) (bare l) := by
  subst hn
  refine ⟨some ⟨g, 0, none⟩, l.length, l.map fun s => (s, Value.slice none 0 0), by simp [bare], by simp [bare], rdC_block h _ _ h1 h2, by simp [bare], fun i hi => ?_⟩
  have hi' : i < l.length := by simpa [bare] using hi
  rw [List.getD_eq_getElem?_getD, List.getD_eq_getElem?_getD]
  simp only [bare, List.getElem?_map, List.getElem?_eq_getElem hi', Option.map_some, Option.getD_some]
  exact ⟨rfl, rdF_nil _ _ _⟩

theorem two_lens : ∀ t ∈ twoT, t.s.length ≤ 1000 := fun t ht => by have := (two_sizes t ht).2.1; omega
theorem lit_len {n : Nat} (h : n ≤ 8) : n ≤ maxLen := by unfold maxLen; omega
theorem h_find (p : Value) (W : World) (hi : Nat) (h : SchemaAt 0 hi W p twoT) (hh : hi ≤ W.heap.size) :
    Calls Try.prog 10 #[p, .string ⟨#[112, 97, 105, 114]⟩] W fun e w' => (∃ A c, e = .returned (.tuple #[.agg #[.string ⟨#[112, 97, 105, 114]⟩, .slice A 2 c], .bool true])) ∧ Below W.heap.size W w' := by
  refine (find_calls p twoT ⟨#[112, 97, 105, 114]⟩ 0 hi W h hh (lit_len (Nat.le_of_ble_eq_true (by kernel_rfl))) (Nat.le_of_ble_eq_true (by kernel_rfl)) (fun t ht => by have := two_lens t ht; omega)).mono ?_
  rintro e w' ⟨⟨v', rfl, ho⟩, hb⟩
  obtain ⟨A, c, rfl, _, _, _⟩ := rdC_own ho
  rw [two_is, two_find_len, two_find]
  exact ⟨⟨A, c, rfl⟩, hb⟩
theorem pair_len : (findD twoT ⟨#[112, 97, 105, 114]⟩).s.length ≤ 1000 := by rw [two_find_len]; omega
theorem item_len : (findD twoT ⟨#[105, 116, 101, 109]⟩).s.length ≤ 1000 := Nat.le_of_ble_eq_true (by kernel_rfl)
theorem x_len : (findD twoT ⟨#[120]⟩).s.length ≤ 1000 := Nat.le_of_ble_eq_true (by kernel_rfl)
theorem h_slot (p : Value) (W : World) (hi : Nat) (h : SchemaAt 0 hi W p twoT) (hh : hi ≤ W.heap.size) :
    Calls Try.prog 12 #[p, .string ⟨#[105, 116, 101, 109]⟩, .string ⟨#[112, 114, 105, 99, 101]⟩] W fun e w' => e = .returned (.tuple #[.int .i64 1, .bool true]) ∧ Below W.heap.size W w' := by
  have c := slot_calls p twoT ⟨#[105, 116, 101, 109]⟩ ⟨#[112, 114, 105, 99, 101]⟩ 0 hi W h hh (lit_len (Nat.le_of_ble_eq_true (by kernel_rfl))) (Nat.le_of_ble_eq_true (by kernel_rfl)) two_lens item_len
  rw [two_slot.1, two_slot.2] at c
  exact c
theorem h_noslot (p : Value) (W : World) (hi : Nat) (h : SchemaAt 0 hi W p twoT) (hh : hi ≤ W.heap.size) :
    Calls Try.prog 12 #[p, .string ⟨#[105, 116, 101, 109]⟩, .string ⟨#[97]⟩] W fun e w' => e = .returned (.tuple #[.int .i64 0, .bool false]) ∧ Below W.heap.size W w' := by
  have c := slot_calls p twoT ⟨#[105, 116, 101, 109]⟩ ⟨#[97]⟩ 0 hi W h hh (lit_len (Nat.le_of_ble_eq_true (by kernel_rfl))) (Nat.le_of_ble_eq_true (by kernel_rfl)) two_lens item_len
  rw [two_noslot, (by kernel_rfl : slotR twoT ⟨#[105, 116, 101, 109]⟩ ⟨#[97]⟩ = 0)] at c
  exact c
theorem h_type (p : Value) (W : World) (hi : Nat) (h : SchemaAt 0 hi W p twoT) (hh : hi ≤ W.heap.size) :
    Calls Try.prog 13 #[p, .string ⟨#[105, 116, 101, 109]⟩, .string ⟨#[115, 111, 108, 100]⟩] W fun e w' => e = .returned (.int .i64 4) ∧ Below W.heap.size W w' := by
  have c := type_calls p twoT ⟨#[105, 116, 101, 109]⟩ ⟨#[115, 111, 108, 100]⟩ 0 hi W h hh (lit_len (Nat.le_of_ble_eq_true (by kernel_rfl))) (Nat.le_of_ble_eq_true (by kernel_rfl)) two_lens item_len
  rw [two_type] at c
  exact c
theorem h_notype (p : Value) (W : World) (hi : Nat) (h : SchemaAt 0 hi W p twoT) (hh : hi ≤ W.heap.size) :
    Calls Try.prog 13 #[p, .string ⟨#[120]⟩, .string ⟨#[121]⟩] W fun e w' => e = .returned (.int .i64 0) ∧ Below W.heap.size W w' := by
  have c := type_calls p twoT ⟨#[120]⟩ ⟨#[121]⟩ 0 hi W h hh (lit_len (Nat.le_of_ble_eq_true (by kernel_rfl))) (Nat.le_of_ble_eq_true (by kernel_rfl)) two_lens x_len
  rw [two_notype] at c
  exact c
theorem h_fits (p : Value) (W : World) (hi : Nat) (h : SchemaAt 0 hi W p twoT) (hh : hi ≤ W.heap.size) (g : Nat) (k : Int) (x y : ByteArray) (r : Int) (hr : fitsR [(3, x), (k, y)] = r) {t : TypeId} {fr : Nat × Nat} (hg : W.heap[g]? = some (.cells #[.int .i64 3, .string x, .int .i64 k, .string y] t fr)) :
    Calls Try.prog 16 #[p, .string ⟨#[112, 97, 105, 114]⟩, .slice (some ⟨g, 0, none⟩) 2 2] W fun e w' => e = .returned (.int .i64 r) ∧ Below W.heap.size W w' := by
  have c := fits_go p twoT ⟨#[112, 97, 105, 114]⟩ (some ⟨g, 0, none⟩) 2 2 [(3, x), (k, y)] 0 hi W h hh (lit_len (Nat.le_of_ble_eq_true (by kernel_rfl))) (Nat.le_of_ble_eq_true (by kernel_rfl)) two_lens two_is rfl two_find_len.symm (by omega) (by rw [two_find]; intro f hf; simp at hf; rcases hf with rfl | rfl <;> rfl)
    (rdC_block (cs := cellsV [(3, x), (k, y)]) hg 0 _ (Nat.zero_le _) (Array.getElem?_eq_some_iff.1 hg).1)
  rw [hr] at c
  exact c
theorem h_fits1 (p : Value) (W : World) (hi : Nat) (h : SchemaAt 0 hi W p twoT) (hh : hi ≤ W.heap.size) :
    Calls Try.prog 16 #[p, .string ⟨#[112, 97, 105, 114]⟩, .slice none 0 0] W fun e w' => e = .returned (.int .i64 1) ∧ Below W.heap.size W w' :=
  fits_len p twoT ⟨#[112, 97, 105, 114]⟩ none 0 0 0 hi W h hh (lit_len (Nat.le_of_ble_eq_true (by kernel_rfl))) (Nat.le_of_ble_eq_true (by kernel_rfl)) two_lens two_is (by rw [two_find_len]; omega)
theorem h_fits3 (p : Value) (W : World) (hi : Nat) (h : SchemaAt 0 hi W p twoT) (hh : hi ≤ W.heap.size) :
    Calls Try.prog 16 #[p, .string ⟨#[110, 111]⟩, .slice none 0 0] W fun e w' => e = .returned (.int .i64 3) ∧ Below W.heap.size W w' :=
  fits_none p twoT ⟨#[110, 111]⟩ _ 0 hi W h hh (lit_len (Nat.le_of_ble_eq_true (by kernel_rfl))) (Nat.le_of_ble_eq_true (by kernel_rfl)) two_lens two_no
theorem fits_ok : fitsR [(3, ⟨#[120]⟩), (3, ⟨#[121]⟩)] = 0 := by kernel_rfl
theorem fits_no : fitsR [(3, ⟨#[120]⟩), (1, ⟨#[49]⟩)] = 31 := by kernel_rfl
theorem bare_sizes (l : List ByteArray) (h : ∀ s ∈ l, s.size ≤ 8) : ∀ t ∈ bare l, t.n.size ≤ maxLen ∧ ∀ f ∈ t.s, f.n.size ≤ maxLen := by
  intro t ht
  obtain ⟨s, hs, rfl⟩ := List.mem_map.1 ht
  exact ⟨lit_len (h s hs), fun f hf => by simp at hf⟩

set_option maxHeartbeats 4000000 in
theorem head_calls (w : World) : Calls Try.prog 7 #[] w fun e w' => e = .returned (.bool true) ∧ Below w.heap.size w w' := by
  go_enter Try.func7, Try.ntmps7
  go_wp2_with fail
  refine (two_calls _).mono ?_; rintro e w1 ⟨⟨v, rfl, hv⟩, hb1⟩
  obtain ⟨A1, n1, c1, rfl⟩ : ∃ A n c, v = .slice A n c := by obtain ⟨A, c, _, h, _⟩ := hv; exact ⟨A, _, c, h⟩
  go_wp2_with fail
  refine (new_none _ twoT _ _ _ hv (Nat.le_refl _) (fun t ht => ⟨(two_sizes t ht).1, (two_sizes t ht).2.2⟩) two_new).mono ?_; rintro e w2 ⟨⟨g, rfl, hS⟩, hb2⟩
  have hB2 : Below w.heap.size w w2 := hb1.trans (hb2.mono hb1.size)
  have hS2 : Hid (SchemaAt 0 w2.heap.size w2 (.pointer (some ⟨g, 0, none⟩)) twoT) := Lib.hid (hS.mono (Nat.zero_le _) (Nat.le_refl _))
  clear hS hv hb1 hb2
  go_wp2_with fail
  refine (new_some _ (bare [⟨#[97]⟩, ⟨#[110, 111, 116]⟩]) 12 1 w2.heap.size (w2.heap.size + 1) _ (rdT_bare [⟨#[97]⟩, ⟨#[110, 111, 116]⟩] (heap_alloc_new w2 _) rfl _ _ (Nat.le_refl _) (by omega)) (by simp) (bare_sizes _ (by decide)) not_new).mono ?_
  rintro e w3 ⟨rfl, hb3⟩
  have hB3 : Below w2.heap.size w2 w3 := ((Below.refl _ _).alloc (Nat.le_refl _) _).trans (hb3.mono (by simp))
  clear hb3
  go_wp2_with fail
  refine (new_some _ (bare [⟨#[97]⟩, ⟨#[98]⟩, ⟨#[97]⟩]) 4 2 w3.heap.size (w3.heap.size + 1) _ (rdT_bare [⟨#[97]⟩, ⟨#[98]⟩, ⟨#[97]⟩] (heap_alloc_new w3 _) rfl _ _ (Nat.le_refl _) (by omega)) (by simp) (bare_sizes _ (by decide)) twice_new).mono ?_
  rintro e w4 ⟨rfl, hb4⟩
  have hB4 : Below w2.heap.size w2 w4 := hB3.trans ((((Below.refl _ _).alloc (Nat.le_refl _) _).trans (hb4.mono (by simp))).mono hB3.size)
  clear hb4 hB3
  go_wp2_with fail
  have hS4 := hS2.out.kept (Kept.of_below hB4 0 (Nat.le_refl _))
  refine (h_find _ _ _ hS4 hB4.size).mono ?_; rintro e w5 ⟨⟨A5, c5, rfl⟩, hb5⟩
  have hB5 : Below w2.heap.size w2 w5 := hB4.trans (hb5.mono hB4.size)
  clear hb5 hS4 hB4
  go_wp2_with fail
  have hX : Below w5.heap.size w5 (w5.alloc (.cells #[.string ⟨#[112, 97, 105, 114]⟩, .slice A5 2 c5] 31)) := (Below.refl _ _).alloc (Nat.le_refl _) _
  have hB6 := hB5.trans (hX.mono hB5.size)
  have x1 : (w5.alloc (.cells #[.string ⟨#[112, 97, 105, 114]⟩, .slice A5 2 c5] 31)).cell? ⟨w5.heap.size, 1, none⟩ = some (.slice A5 2 c5) := by simp [go_sem]
  have hlt : w5.heap.size < (w5.alloc (.cells #[.string ⟨#[112, 97, 105, 114]⟩, .slice A5 2 c5] 31)).heap.size := by simp
  generalize hW6 : w5.alloc (.cells #[.string ⟨#[112, 97, 105, 114]⟩, .slice A5 2 c5] 31) = w6
  rw [hW6] at hB6 x1 hlt
  clear hX hW6 hB5
  have hS6 := hS2.out.kept (Kept.of_below hB6 0 (Nat.le_refl _))
  refine (h_slot _ _ _ hS6 hB6.size).mono ?_; rintro e w7 ⟨rfl, hb7⟩
  have hB7 : Below w2.heap.size w2 w7 := hB6.trans (hb7.mono hB6.size)
  have x17 := (hb7.cell (p := ⟨w5.heap.size, 1, none⟩) hlt).trans x1
  have hlt7 : w5.heap.size < w7.heap.size := Nat.lt_of_lt_of_le hlt hb7.size
  clear hb7 hS6 hB6 x1 hlt
  go_wp2_with fail
  have hS7 := hS2.out.kept (Kept.of_below hB7 0 (Nat.le_refl _))
  refine (h_noslot _ _ _ hS7 hB7.size).mono ?_; rintro e w8 ⟨rfl, hb8⟩
  have hB8 : Below w2.heap.size w2 w8 := hB7.trans (hb8.mono hB7.size)
  have x18 := (hb8.cell (p := ⟨w5.heap.size, 1, none⟩) hlt7).trans x17
  clear hb8 hS7 hB7 x17 hlt7
  go_wp2_with fail
  have hS8 := hS2.out.kept (Kept.of_below hB8 0 (Nat.le_refl _))
  refine (h_type _ _ _ hS8 hB8.size).mono ?_; rintro e w9 ⟨rfl, hb9⟩
  have hB9 : Below w2.heap.size w2 w9 := hB8.trans (hb9.mono hB8.size)
  clear hb9 hS8 hB8
  go_wp2_with fail
  have hS9 := hS2.out.kept (Kept.of_below hB9 0 (Nat.le_refl _))
  refine (h_notype _ _ _ hS9 hB9.size).mono ?_; rintro e w10 ⟨rfl, hb10⟩
  have hB10 : Below w2.heap.size w2 w10 := hB9.trans (hb10.mono hB9.size)
  clear hb10 hS9 hB9
  go_wp2_with fail
  refine (of_calls _ _ _).mono ?_; rintro e w11 ⟨rfl, hb11⟩
  have hB11 : Below w2.heap.size w2 w11 := hB10.trans (hb11.mono hB10.size)
  clear hb11 hB10
  go_wp2_with fail
  refine (of_calls _ _ _).mono ?_; rintro e w12 ⟨rfl, hb12⟩
  have hB12 : Below w2.heap.size w2 w12 := hB11.trans (hb12.mono hB11.size)
  clear hb12 hB11
  go_wp2_with fail
  have hB13 : Below w2.heap.size w2 (w12.alloc (.cells #[.int .i64 3, .string ⟨#[120]⟩, .int .i64 3, .string ⟨#[121]⟩] 45)) := hB12.alloc hB12.size _
  have hS13 := hS2.out.kept (Kept.of_below hB13 0 (Nat.le_refl _))
  refine (h_fits _ _ _ hS13 hB13.size _ _ _ _ 0 fits_ok (heap_alloc_new w12 _)).mono ?_; rintro e w14 ⟨rfl, hb14⟩
  have hB14 : Below w2.heap.size w2 w14 := hB13.trans (hb14.mono hB13.size)
  clear hb14 hS13 hB13
  go_wp2_with fail
  have hS14 := hS2.out.kept (Kept.of_below hB14 0 (Nat.le_refl _))
  refine (h_fits1 _ _ _ hS14 hB14.size).mono ?_; rintro e w15 ⟨rfl, hb15⟩
  have hB15 : Below w2.heap.size w2 w15 := hB14.trans (hb15.mono hB14.size)
  clear hb15 hS14 hB14
  go_wp2_with fail
  have hS15 := hS2.out.kept (Kept.of_below hB15 0 (Nat.le_refl _))
  refine (h_fits3 _ _ _ hS15 hB15.size).mono ?_; rintro e w16 ⟨rfl, hb16⟩
  have hB16 : Below w2.heap.size w2 w16 := hB15.trans (hb16.mono hB15.size)
  clear hb16 hS15 hB15
  go_wp2_with fail
  refine (of_calls _ _ _).mono ?_; rintro e w17 ⟨rfl, hb17⟩
  have hB17 : Below w2.heap.size w2 w17 := hB16.trans (hb17.mono hB16.size)
  clear hb17 hB16
  go_wp2_with fail
  refine (of_calls _ _ _).mono ?_; rintro e w18 ⟨rfl, hb18⟩
  have hB18 : Below w2.heap.size w2 w18 := hB17.trans (hb18.mono hB17.size)
  clear hb18 hB17
  go_wp2_with fail
  have hB19 : Below w2.heap.size w2 (w18.alloc (.cells #[.int .i64 3, .string ⟨#[120]⟩, .int .i64 1, .string ⟨#[49]⟩] 45)) := hB18.alloc hB18.size _
  have hS19 := hS2.out.kept (Kept.of_below hB19 0 (Nat.le_refl _))
  refine (h_fits _ _ _ hS19 hB19.size _ _ _ _ 31 fits_no (heap_alloc_new w18 _)).mono ?_; rintro e w20 ⟨rfl, hb20⟩
  have hB20 : Below w2.heap.size w2 w20 := hB19.trans (hb20.mono hB19.size)
  clear hb20 hS19 hB19
  go_wp2_with fail
  have hS20 := hS2.out.kept (Kept.of_below hB20 0 (Nat.le_refl _))
  refine (list_calls _ twoT _ _ _ hS20 hB20.size (Nat.le_of_ble_eq_true (by kernel_rfl)) (fun t ht => by have := two_lens t ht; omega)).mono ?_; rintro e w21 ⟨⟨v, rfl, hv⟩, hb21⟩
  have hB21 : Below w2.heap.size w2 w21 := hB20.trans (hb21.mono hB20.size)
  have hvr := hv.rd
  obtain ⟨A2, n2, c2, rfl⟩ : ∃ A n c, v = .slice A n c := by obtain ⟨A, c, _, h, _⟩ := hvr; exact ⟨A, _, c, h⟩
  clear hb21 hS20 hB20 hv
  go_wp2_with fail
  refine (two_calls _).mono ?_; rintro e w22 ⟨⟨u, rfl, hu⟩, hb22⟩
  have hB22 : Below w2.heap.size w2 w22 := hB21.trans (hb22.mono hB21.size)
  obtain ⟨A3, n3, c3, rfl⟩ : ∃ A n c, u = .slice A n c := by obtain ⟨A, c, _, h, _⟩ := hu; exact ⟨A, _, c, h⟩
  have hvk := (hvr.mono (Nat.zero_le _) (Nat.le_refl _)).kept (Kept.of_below hb22 0 (Nat.le_refl _))
  have hvk2 := hvk.mono (Nat.le_refl _) hb22.size
  have huk := hu.mono (Nat.zero_le _) (Nat.le_refl _)
  clear hb22 hB21 hvr hvk hu
  go_wp2_with fail
  refine (same_calls _ _ twoT _ hvk2 huk (lit_len (Nat.le_of_ble_eq_true (by kernel_rfl))) (fun t ht => lit_len (two_sizes t ht).2.1)).mono ?_; rintro e w23 ⟨rfl, hb23⟩
  have hB23 : Below w2.heap.size w2 w23 := hB22.trans (hb23.mono hB22.size)
  clear hb23 hB22 hvk2 huk
  go_wp2_with fail
  go_ret
  exact ⟨rfl, hB2.trans (hB23.mono hB2.size)⟩

end Go.Proofs.Ytkableklofokdaa

/- The walk of a schema's Fits, as far as the live question asks it: at a template all of whose slots are symbols. -/
import Derived.Test.YtkableklofokdaaLit
set_option linter.unusedSimpArgs false
set_option linter.unusedVariables false
namespace Go.Proofs.Ytkableklofokdaa
open Go Go.RowKit Go.Maps Go.WideMaps

/-- Values, as cells: a kind, a text. -/
def cellsV (l : List (Int × ByteArray)) : List Value := l.flatMap fun x => [.int .i64 x.1, .string x.2]
theorem cellsV_cons (x : Int × ByteArray) (l : List (Int × ByteArray)) : cellsV (x :: l) = .int .i64 x.1 :: .string x.2 :: cellsV l := rfl
theorem cellsV_at (l : List (Int × ByteArray)) (i : Nat) (h : i < l.length) : (cellsV l)[i * 2]? = some (.int .i64 (l.getD i default).1) ∧ (cellsV l)[i * 2 + 1]? = some (.string (l.getD i default).2) := by
  induction l generalizing i with
  | nil => simp at h
  | cons f fs ih =>
    rw [cellsV_cons]
    cases i with
    | zero => simp
    | succ i =>
      have := ih i (by simpa using h)
      have e1 : (i + 1) * 2 = i * 2 + 1 + 1 := by omega
      rw [e1]
      simpa using this
theorem RdC.vl {lo hi : Nat} {w : World} {A : Option Addr} {vs : List (Int × ByteArray)} (h : RdC lo hi w A (cellsV vs)) (i : Nat) (hi' : i < vs.length) :
    ∃ ad, A = some ad ∧ lo ≤ ad.block ∧ ad.block < hi ∧ w.cell? (ad.add (i * 2)) = some (.int .i64 (vs.getD i default).1) ∧ w.cell? ⟨(ad.add (i * 2)).block, (ad.add (i * 2)).off + 1, none⟩ = some (.string (vs.getD i default).2) := by
  obtain ⟨c0, c1⟩ := cellsV_at vs i hi'
  obtain ⟨ad, h1, h2, h3, h4⟩ := h _ _ c0
  obtain ⟨ad', h1', _, _, h4'⟩ := h _ _ c1
  rw [h1] at h1'
  obtain rfl := Option.some.inj h1'
  refine ⟨ad, h1, h2, h3, h4, ?_⟩
  have e : (ad.add (i * 2 + 1)) = ⟨(ad.add (i * 2)).block, (ad.add (i * 2)).off + 1, none⟩ := by
    unfold Addr.add
    rw [if_neg (by omega)]
    by_cases hz : i * 2 = 0
    · rw [if_pos hz, hz]
    · rw [if_neg hz]; simp [Nat.add_assoc]
  rw [← e]; exact h4'

def okV (x : Int × ByteArray) : Bool := decide (x.1 = 3) && nameB x.2
/-- What Fits says of values, where all slots are symbols. -/
def fitsR (l : List (Int × ByteArray)) : Int := match l with
  | [] => 0
  | x :: l => if okV x = true then fitsR l else 31
theorem fitsR_drop (l : List (Int × ByteArray)) (k : Nat) (h : k < l.length) : fitsR (l.drop k) = if okV (l.getD k default) = true then fitsR (l.drop (k + 1)) else 31 := by
  rw [List.drop_eq_getElem_cons h, fitsR]
  simp [List.getD_eq_getElem?_getD, List.getElem?_eq_getElem h]

theorem fits_none (p : Value) (ts : List Tm) (s : ByteArray) (V : Value) (lo hi : Nat) (w : World) (h : SchemaAt lo hi w p ts) (hhi : hi ≤ w.heap.size) (hs : s.size ≤ maxLen) (hn : ts.length ≤ 100) (hf : ∀ t ∈ ts, t.s.length ≤ 1000) (hno : isThere ts s = false) :
    Calls Try.prog 16 #[p, .string s, V] w fun e w' => e = .returned (.int .i64 3) ∧ Below w.heap.size w w' := by
  have cF := find_calls p ts s lo hi _ h hhi hs hn (fun t ht => by have := hf t ht; omega)
  rw [hno] at cF
  clear h hf hno
  go_enter Try.func16, Try.ntmps16
  go_wp2_with fail
  refine cF.mono ?_; rintro e w1 ⟨⟨v', rfl, ho⟩, hb⟩
  obtain ⟨A5, c5, hv5, _, _, _⟩ := rdC_own ho
  subst hv5
  go_wp2_with fail
  go_ret
  exact ⟨rfl, hb.trans ((((Below.refl w1.heap.size w1).alloc (Nat.le_refl _) _).mono (by exact hb.size)))⟩

theorem fits_len (p : Value) (ts : List Tm) (s : ByteArray) (A : Option Addr) (n c : Nat) (lo hi : Nat) (w : World) (h : SchemaAt lo hi w p ts) (hhi : hi ≤ w.heap.size) (hs : s.size ≤ maxLen) (hn : ts.length ≤ 100) (hf : ∀ t ∈ ts, t.s.length ≤ 1000) (hno : isThere ts s = true) (hne : n ≠ (findD ts s).s.length) :
    Calls Try.prog 16 #[p, .string s, .slice A n c] w fun e w' => e = .returned (.int .i64 1) ∧ Below w.heap.size w w' := by
  have cF := find_calls p ts s lo hi _ h hhi hs hn (fun t ht => by have := hf t ht; omega)
  rw [hno] at cF
  obtain ⟨m, hm⟩ : ∃ m, m = (findD ts s).s.length := ⟨_, rfl⟩
  rw [← hm] at hne cF
  have hd : decide ((n : Int) = (m : Int)) = false := by simp; omega
  clear h hf hno hm
  go_enter Try.func16, Try.ntmps16
  go_wp2_with fail
  refine cF.mono ?_; rintro e w1 ⟨⟨v', rfl, ho⟩, hb⟩
  obtain ⟨A5, c5, hv5, _, _, _⟩ := rdC_own ho
  subst hv5
  go_wp2_with fail
  go_ret
  exact ⟨rfl, hb.trans ((((Below.refl w1.heap.size w1).alloc (Nat.le_refl _) _).mono (by exact hb.size)))⟩

set_option maxHeartbeats 800000 in
theorem fits_go (p : Value) (ts : List Tm) (s : ByteArray) (A : Option Addr) (n c : Nat) (l : List (Int × ByteArray)) (lo hi : Nat) (w : World) (h : SchemaAt lo hi w p ts) (hhi : hi ≤ w.heap.size) (hs : s.size ≤ maxLen) (hn : ts.length ≤ 100) (hf : ∀ t ∈ ts, t.s.length ≤ 1000) (hno : isThere ts s = true)
    (hl : l.length = n) (hne : n = (findD ts s).s.length) (hn2 : n ≤ 100) (hsym : ∀ f ∈ (findD ts s).s, f.t = 3) (hv : RdC 0 w.heap.size w A (cellsV l)) :
    Calls Try.prog 16 #[p, .string s, .slice A n c] w fun e w' => e = .returned (.int .i64 (fitsR l)) ∧ Below w.heap.size w w' := by
  have cF := find_calls p ts s lo hi _ h hhi hs hn (fun t ht => by have := hf t ht; omega)
  rw [hno] at cF
  obtain ⟨t, ht⟩ : ∃ t, t = findD ts s := ⟨_, rfl⟩
  rw [← ht] at hne cF hsym
  obtain ⟨tn, tf⟩ := t
  simp only at hne cF hsym
  rw [← hne] at cF
  have HL := Lib.hid hl
  have HNE := Lib.hid hne
  have HSY := Lib.hid hsym
  have HVV := Lib.hid hv
  obtain ⟨r, hr⟩ : ∃ r, r = fitsR l := ⟨_, rfl⟩
  rw [← hr]
  have HRR := Lib.hid hr
  clear h hf hno ht hl hne hsym hr hv
  go_enter Try.func16, Try.ntmps16
  go_wp2_with fail
  refine cF.mono ?_; rintro e w1 ⟨⟨v', rfl, ho⟩, hb⟩
  obtain ⟨A5, c5, hv5, hc5, _, hrd⟩ := rdC_own ho
  subst hv5
  have HRD := Lib.hid hrd
  clear hrd ho cF
  go_wp2_with fail
  have hW1 : Below w.heap.size w (w1.alloc (Obj.cells #[Value.string tn, Value.slice A5 n c5] 31)) := hb.trans ((((Below.refl w1.heap.size w1).alloc (Nat.le_refl _) _).mono (by exact hb.size)))
  have hW2 : Below w1.heap.size w1 (w1.alloc (Obj.cells #[Value.string tn, Value.slice A5 n c5] 31)) := (Below.refl w1.heap.size w1).alloc (Nat.le_refl _) _
  have b1 : (w1.alloc (Obj.cells #[Value.string tn, Value.slice A5 n c5] 31)).cell? ⟨w1.heap.size, 1, none⟩ = some (.slice A5 n c5) := by simp [go_sem]
  have hz : w1.heap.size < (w1.alloc (Obj.cells #[Value.string tn, Value.slice A5 n c5] 31)).heap.size := by simp
  have HRD2 : Hid (RdC 0 w1.heap.size (w1.alloc (Obj.cells #[Value.string tn, Value.slice A5 n c5] 31)) A5 (cellsF tf)) := Lib.hid ((HRD.out.mono (Nat.zero_le _) (Nat.le_refl _)).kept (Kept.of_below hW2 0 (Nat.le_refl _)))
  have HV2 : Hid (RdC 0 w.heap.size (w1.alloc (Obj.cells #[Value.string tn, Value.slice A5 n c5] 31)) A (cellsV l)) := Lib.hid (HVV.out.kept (Kept.of_below hW1 0 (Nat.le_refl _)))
  have hsz := hb.size
  generalize hWe : w1.alloc (Obj.cells #[Value.string tn, Value.slice A5 n c5] 31) = W1
  rw [hWe] at hW1 b1 hz HRD2 HV2
  clear hW2 hWe HRD hb HVV
  go_loopw [29] (fun i wr => ∃ k : Nat, k ≤ n ∧ i = .int .i64 k ∧ Below W1.heap.size W1 wr ∧ Hid (fitsR (l.drop k) = r)) (fun i _ => n - (intOf i).toNat)
  case atStart => exact ⟨0, by omega, rfl, Below.refl _ _, Lib.hid (by rw [HRR.out]; rfl)⟩
  case round =>
    obtain ⟨k, hk, rfl, hB, hR⟩ := hrel
    by_cases hlt : k < n
    · have hK2 : Kept 0 w1.heap.size W1 wr := Kept.of_below hB 0 (by omega)
      obtain ⟨ad, hA, _, hab, c0, c1⟩ := (HV2.out.kept (Kept.of_below hB 0 (by have := hW1.size; omega))).vl k (by rw [HL.out]; exact hlt)
      subst hA
      obtain ⟨ad2, hA2, _, hab2, d0, d1⟩ := (HRD2.out.kept hK2).fd k (by rw [← HNE.out]; exact hlt)
      subst hA2
      have h3 : (tf.getD k default).t = 3 := HSY.out _ (by rw [List.getD_eq_getElem?_getD, List.getElem?_eq_getElem (by rw [← HNE.out]; exact hlt)]; simp)
      rw [h3] at d1
      have hR2 := fitsR_drop l k (by rw [HL.out]; exact hlt)
      rw [hR.out] at hR2
      obtain ⟨x, hx⟩ : ∃ x, x = l.getD k default := ⟨_, rfl⟩
      rw [← hx] at c0 c1 hR2
      obtain ⟨kd, tx⟩ := x
      simp only at c0 c1 hR2
      have HR2 := Lib.hid hR2
      have e1 := (hB.cell (p := ⟨w1.heap.size, 1, none⟩) hz).trans b1
      clear hx hR2 hK2 d0 h3 hR
      go_wp2_with fail
      have hX : Below wr.heap.size wr (wr.alloc (Obj.cells #[Value.int .i64 kd, Value.string tx] 45)) := (Below.refl _ _).alloc (Nat.le_refl _) _
      have e2 := (hX.cell (p := ⟨w1.heap.size, 1, none⟩) (by have := hB.size; simp only; omega)).trans e1
      have d2 := (hX.cell (p := ⟨(ad2.add (k * 2)).block, (ad2.add (k * 2)).off + 1, none⟩) (by have := hB.size; simp only [add_block]; omega)).trans d1
      have x0 : (wr.alloc (Obj.cells #[Value.int .i64 kd, Value.string tx] 45)).cell? ⟨wr.heap.size, 0, none⟩ = some (.int .i64 kd) := by simp [go_sem]
      have x1 : (wr.alloc (Obj.cells #[Value.int .i64 kd, Value.string tx] 45)).cell? ⟨wr.heap.size, 1, none⟩ = some (.string tx) := by simp [go_sem]
      have hBX : Below W1.heap.size W1 (wr.alloc (Obj.cells #[Value.int .i64 kd, Value.string tx] 45)) := hB.trans (hX.mono hB.size)
      generalize hWe : wr.alloc (Obj.cells #[Value.int .i64 kd, Value.string tx] 45) = W2
      rw [hWe] at e2 d2 x0 x1 hBX
      clear hWe hX e1 d1 c0 c1
      have hBXs := hBX.size
      by_cases hk3 : kd = 3
      · subst hk3
        have hok : okV (3, tx) = nameB tx := by simp [okV]
        cases hnb : nameB tx
        · have hr31 : r = 31 := by rw [HR2.out, hok, hnb]; rfl
          have HR31 := Lib.hid hr31
          have cR := fun W => vright_calls tx W
          rw [hnb] at cR
          clear hr31 hok hnb
          go_region_law (go_simp; go_at_call 22; refine (cR _).mono ?_; rintro e w3 ⟨rfl, hb3⟩)
          all_goals
            have hb4 : Below W2.heap.size W2 w3 := ⟨hb3.os, hb3.tape, hb3.output, hb3.size, hb3.block⟩
            go_wp2_with fail
            go_ret
            exact ⟨ret_int HR31.out.symm, hW1.trans ((hBX.trans (hb4.mono hBXs)).mono hW1.size)⟩
        · have hnx : Hid (fitsR (l.drop (k + 1)) = r) := Lib.hid (by rw [HR2.out, hok, hnb]; rfl)
          have cR := fun W => vright_calls tx W
          rw [hnb] at cR
          clear hok hnb
          go_region_law (go_simp; go_at_call 22; refine (cR _).mono ?_; rintro e w3 ⟨rfl, hb3⟩)
          all_goals
            have hb4 : Below W2.heap.size W2 w3 := ⟨hb3.os, hb3.tape, hb3.output, hb3.size, hb3.block⟩
            go_wp2_with fail
            go_roundw
            case rel => exact ⟨k + 1, by omega, by go_num, hBX.trans (hb4.mono hBXs), hnx⟩
            case measure => simp [intOf]; omega
      · have hr31 : r = 31 := by rw [HR2.out]; simp [okV, hk3]
        have HR31 := Lib.hid hr31
        have hd3 : (kd == 3) = false := by simp [hk3]
        clear hr31
        go_quiet (fail)
        go_wp2_with fail
        go_ret
        exact ⟨ret_int HR31.out.symm, hW1.trans (Below.mono (by exact ⟨hBX.os, hBX.tape, hBX.output, hBX.size, hBX.block⟩) hW1.size)⟩
    · have hkn : k = n := by omega
      subst hkn
      have hr0 : r = 0 := by rw [← hR.out, List.drop_eq_nil_of_le (by rw [HL.out]; exact Nat.le_refl _)]; rfl
      have HR0 := Lib.hid hr0
      clear hr0 hR
      go_wp2_with fail
      go_ret
      exact ⟨ret_int HR0.out.symm, hW1.trans (hB.mono hW1.size)⟩

end Go.Proofs.Ytkableklofokdaa

/- The walk of schema.right: may a template be so? With its closure, that counts names in a map, and the library's IndexFunc and ContainsFunc at it. -/
import Derived.Test.YtkableklofokdaaMap
import Derived.Test.YtkableklofokdaaOwn
set_option linter.unusedSimpArgs false
set_option linter.unusedVariables false
namespace Go.Proofs.Ytkableklofokdaa
open Go Go.RowKit Go.Maps Go.WideMaps

/-- Is a slot bad, before which its name was counted c times? -/
def badF (f : Fd) (c : Int) : Bool := !wordB f.n || decide (f.t < 1) || decide (4 < f.t) || decide (1 < c + 1)

theorem right1_calls (f : Fd) (S M n : Nat) (m : List UInt8 → Option Int) (c : Int) (w : World) (hcS : w.cell? ⟨S, 0, none⟩ = some (.map (some M))) (hm : MapN w M n m) (hn : n ≤ 1000)
    (hSM : S < w.heap.size) (hc : (m f.n.data.toList).getD 0 = c) (hc0 : 0 ≤ c) (hc1 : c ≤ 1000) (hsz : f.n.size ≤ maxLen) :
    Calls Try.prog 25 #[.agg #[.string f.n, .int .i64 f.t], .pointer (some ⟨S, 0, none⟩)] w fun e w' => e = .returned (.bool (badF f c)) ∧ MapN w' M (n + 1) (putM m f.n.data.toList (c + 1)) ∧ w.grownBy w' (some M) := by
  obtain ⟨s, t⟩ := f
  simp only at hc hsz ⊢
  have hkey := keyS hsz
  have hMlt := hm.lt
  obtain ⟨D, hown, hD, hall⟩ := hm
  have hne : S ≠ M := by obtain ⟨es, clock, h1, _⟩ := hown; exact cell_ne_map hcS h1
  have HC := Lib.hid hc
  have HA := Lib.hid hall
  clear hc hall
  go_enter Try.func25, Try.ntmps25
  go_wp2_with (at_lookup; refine wpList_lookup_own_int _ rfl _ _ 48 rfl 9 3 .i64 lawS Try.underlying48 Try.underlying3 (zeroI _) M n D rfl (hown.alloc _) _ _ rfl hkey ?_)
  intro c' hat _
  have ec : c' = c := by
    have h1 := (HA.out s.data.toList).2
    rw [HC.out, hat] at h1
    injection h1 with h1; injection h1
  subst ec
  clear hat
  go_wp2_with (at_mapUpdate; refine wpList_mapUpdate_own _ rfl _ _ _ 48 rfl 9 3 lawS Try.underlying48 _ M n D rfl (hown.alloc _) (by unfold maxLen; omega) _ _ _ rfl rfl hkey _ [] (plainElem_int Try.underlying3 (by exact WalkArith.wf_i64 (by omega))) ?_)
  intro w1 hown1 hg1
  have HM := MapN.of_put hD HA.out hown1
  have hz1 : w.heap.size + 1 ≤ w1.heap.size := by have := hg1.size; simpa using this
  have s0 : w1.cell? ⟨S, 0, none⟩ = some (.map (some M)) := (grown_cell hg1 (by simp; omega) (by simpa using hne)).trans ((((Below.refl _ w).alloc (Nat.le_refl _) _).cell (p := ⟨S, 0, none⟩) hSM).trans hcS)
  have b0 : w1.cell? ⟨w.heap.size, 0, none⟩ = some (.string s) := (grown_cell hg1 (by simp) (by simp; omega)).trans (by simp [go_sem])
  have b1 : w1.cell? ⟨w.heap.size, 1, none⟩ = some (.int .i64 t) := (grown_cell hg1 (by simp) (by simp; omega)).trans (by simp [go_sem])
  have hG := grown_alloc hg1
  clear hg1 hown1
  cases hwb : wordB s
  · have cw : ∀ W, Calls Try.prog 23 #[.string s] W _ := fun W => hwb ▸ word_calls s W
    have HW := Lib.hid hwb
    clear hwb
    go_wp2_with fail
    refine (cw _).mono ?_; rintro e w2 ⟨rfl, hb2⟩
    go_wp2_with fail
    go_ret
    exact ⟨ret_bool (by simp [badF, HW.out]), HM.kept (hb2.block M (by omega)), grown_below hG hb2⟩
  · have cw : ∀ W, Calls Try.prog 23 #[.string s] W _ := fun W => hwb ▸ word_calls s W
    have HW := Lib.hid hwb
    clear hwb
    by_cases ht1 : t < 1
    · have ht1' : decide (t < 1) = true := by simpa using ht1
      go_wp2_with fail
      refine (cw _).mono ?_; rintro e w2 ⟨rfl, hb2⟩
      have b1' := (hb2.cell (p := ⟨w.heap.size, 1, none⟩) (by simp; omega)).trans b1
      go_wp2_with fail
      go_ret
      exact ⟨ret_bool (by simp [badF, HW.out, ht1]), HM.kept (hb2.block M (by omega)), grown_below hG hb2⟩
    · have ht1' : decide (t < 1) = false := by simpa using ht1
      by_cases ht4 : 4 < t
      · have ht4' : decide (4 < t) = true := by simpa using ht4
        go_wp2_with fail
        refine (cw _).mono ?_; rintro e w2 ⟨rfl, hb2⟩
        have b1' := (hb2.cell (p := ⟨w.heap.size, 1, none⟩) (by simp; omega)).trans b1
        go_wp2_with fail
        go_ret
        exact ⟨ret_bool (by simp [badF, HW.out, ht1, ht4]), HM.kept (hb2.block M (by omega)), grown_below hG hb2⟩
      · have ht4' : decide (4 < t) = false := by simpa using ht4
        go_wp2_with fail
        refine (cw _).mono ?_; rintro e w2 ⟨rfl, hb2⟩
        have b0' := (hb2.cell (p := ⟨w.heap.size, 0, none⟩) (by simp; omega)).trans b0
        have b1' := (hb2.cell (p := ⟨w.heap.size, 1, none⟩) (by simp; omega)).trans b1
        have s0' := (hb2.cell (p := ⟨S, 0, none⟩) (by simp; omega)).trans s0
        have HM2 := HM.kept (hb2.block M (by omega))
        have HM3 := HM2
        obtain ⟨D2, hown2, _, hall2⟩ := HM2
        have HA2 := Lib.hid hall2
        clear hall2
        obtain ⟨c2, hrun2, hat2, _⟩ := hown2.lookup_int lawS Try.underlying48 Try.underlying3 (zeroI _) hkey
        have ec2 : c2 = c' + 1 := by
          have h1 := (HA2.out s.data.toList).2
          rw [hat2] at h1
          injection h1 with h1; injection h1 with _ h1
          rw [h1]; unfold putM; rw [if_pos rfl]; rfl
        subst ec2
        clear hat2
        go_wp2_with fail
        go_ret
        exact ⟨ret_bool (by unfold badF; simp only; rw [HW.out, ht1', ht4']; simp), HM3, grown_below hG hb2⟩


/-- How often a name stands in slots. -/
def cnt (pre : List Fd) (s : ByteArray) : Int := ((pre.filter fun g => g.n.data.toList == s.data.toList).length : Nat)
/-- What the map says behind some slots. -/
def seenM (pre : List Fd) : List UInt8 → Option Int := pre.foldl (fun m f => putM m f.n.data.toList ((m f.n.data.toList).getD 0 + 1)) (fun _ => none)
theorem seenM_snoc (pre : List Fd) (f : Fd) : seenM (pre ++ [f]) = putM (seenM pre) f.n.data.toList ((seenM pre f.n.data.toList).getD 0 + 1) := by
  unfold seenM; rw [List.foldl_append]; rfl
theorem seenM_cnt (pre : List Fd) : ∀ s : ByteArray, (seenM pre s.data.toList).getD 0 = cnt pre s := by
  induction hl : pre.length generalizing pre with
  | zero =>
    intro s
    obtain rfl := List.length_eq_zero_iff.1 hl
    rfl
  | succ n ih =>
    intro s
    obtain ⟨l, f, rfl⟩ : ∃ l f, pre = l ++ [f] := ⟨pre.dropLast, pre.getLast (by intro h; subst h; simp at hl), (List.dropLast_concat_getLast _).symm⟩
    have hl' : l.length = n := by simpa using hl
    rw [seenM_snoc, ih l hl' f.n]
    unfold putM
    by_cases h : s.data.toList = f.n.data.toList
    · rw [if_pos h]
      unfold cnt
      rw [List.filter_append, h]
      simp
    · rw [if_neg h, ih l hl' s]
      unfold cnt
      rw [List.filter_append]
      have h1 : (f.n.data.toList == s.data.toList) = false := by rw [beq_eq_false_iff_ne]; exact fun e => h e.symm
      have h2 : [f].filter (fun g => g.n.data.toList == s.data.toList) = [] := by simp only [List.filter_cons, h1, Bool.false_eq_true, if_false, List.filter_nil]
      rw [h2, List.append_nil]
theorem cnt_range (pre : List Fd) (s : ByteArray) : 0 ≤ cnt pre s ∧ cnt pre s ≤ pre.length := by
  unfold cnt
  have := List.length_filter_le (fun g : Fd => g.n.data.toList == s.data.toList) pre
  omega
/-- The place of the first bad slot, behind others; -1. -/
def scan (pre : List Fd) : List Fd → Nat → Int
  | [], _ => -1
  | f :: fs, k => if badF f (cnt pre f.n) = true then (k : Int) else scan (pre ++ [f]) fs (k + 1)
theorem take_snoc (fs : List Fd) (k : Nat) (h : k < fs.length) : fs.take (k + 1) = fs.take k ++ [fs.getD k default] := by
  rw [List.take_succ_eq_append_getElem h]; simp [List.getD_eq_getElem?_getD, List.getElem?_eq_getElem h]
theorem scan_drop (fs : List Fd) (k : Nat) (h : k < fs.length) : scan (fs.take k) (fs.drop k) k = if badF (fs.getD k default) (cnt (fs.take k) (fs.getD k default).n) = true then (k : Int) else scan (fs.take (k + 1)) (fs.drop (k + 1)) (k + 1) := by
  rw [List.drop_eq_getElem_cons h, scan, take_snoc fs k h]
  simp [List.getD_eq_getElem?_getD, List.getElem?_eq_getElem h]

theorem enters_right1 : ∀ args w, (callFunc 25 args).run Try.prog w = .ok (.enter 25 args) w := enters_of Try.func25 (by kernel_rfl) rfl

set_option maxHeartbeats 400000 in
theorem indexF_calls (A : Option Addr) (cap n : Nat) (fs : List Fd) (lo hi S M : Nat) (w : World) (hr : RdC lo hi w A (cellsF fs)) (hfn : fs.length = n) (hn : n ≤ 900) (hhi : hi ≤ w.heap.size) (hM : hi ≤ M)
    (hcS : w.cell? ⟨S, 0, none⟩ = some (.map (some M))) (hSlt : S < w.heap.size) (hSM : S ≠ M) (hm : MapN w M 0 (seenM [])) (hsz : ∀ f ∈ fs, f.n.size ≤ maxLen) :
    Calls Try.prog 20 #[.slice A n cap, .func (.func 25) #[] #[.pointer (some ⟨S, 0, none⟩)]] w fun e w' => e = .returned (.int .i64 (scan [] fs 0)) ∧ w.grownBy w' (some M) := by
  have eg := enters_right1
  have HL := Lib.hid hfn
  have HR := Lib.hid hr
  have HS := Lib.hid hsz
  clear hfn hr hsz
  go_enter Try.func20, Try.ntmps20
  go_wp2_with fail
  go_loopw [5, 8] (fun v i wr => ∃ k : Nat, k ≤ n ∧ i = .int .i64 k ∧ w.grownBy wr (some M) ∧ MapN wr M k (seenM (fs.take k)) ∧ scan (fs.take k) (fs.drop k) k = scan [] fs 0) (fun _ i _ => n - (intOf i).toNat)
  case atStart => exact ⟨0, by omega, rfl, grown_refl _ _, hm, rfl⟩
  case round =>
    obtain ⟨k, hk, rfl, hg, hmk, hrest⟩ := hrel
    by_cases hlt : k < n
    · have hd := scan_drop fs k (by rw [HL.out]; exact hlt)
      have htk := take_snoc fs k (by rw [HL.out]; exact hlt)
      have hlenk : (fs.take k).length ≤ 900 := by rw [List.length_take]; omega
      have hmem : fs.getD k default ∈ fs := by
        have : k < fs.length := by rw [HL.out]; exact hlt
        simp [List.getD_eq_getElem?_getD, List.getElem?_eq_getElem this]
      have hKp : Kept lo hi w wr := Kept.grown hg hhi (fun j hj => by cases hj; exact Or.inr hM)
      obtain ⟨ad, hA, hlo, hhi2, c0, c1⟩ := (HR.out.kept hKp).fd k (by rw [HL.out]; exact hlt)
      subst hA
      have hcc := seenM_cnt (fs.take k) (fs.getD k default).n
      have hcr := cnt_range (fs.take k) (fs.getD k default).n
      have hsz1 := HS.out _ hmem
      obtain ⟨f, hf⟩ : ∃ f, f = fs.getD k default := ⟨_, rfl⟩
      rw [← hf] at hd htk c0 c1 hcc hcr hsz1
      obtain ⟨pre, hpre⟩ : ∃ pre, pre = fs.take k := ⟨_, rfl⟩
      rw [← hpre] at hd htk hcc hcr hlenk hmk hrest
      have hS1 : wr.cell? ⟨S, 0, none⟩ = some (.map (some M)) := (grown_cell hg hSlt (by simpa using hSM)).trans hcS
      have cR := right1_calls f S M k (seenM pre) (cnt pre f.n) wr hS1 hmk (by omega) (by have := hg.size; omega) hcc hcr.1 (by omega) hsz1
      have hsn := seenM_snoc pre f
      rw [hcc] at hsn
      rw [← hsn, ← htk] at cR
      have HD := Lib.hid (hd.symm.trans hrest)
      clear hd hrest hf hpre hcc hcr hsz1 htk hsn hmem
      cases hbad : badF f (cnt pre f.n) <;> rw [hbad] at cR
      · have HB := Lib.hid hbad
        clear hbad
        go_wp2_with fail
        refine cR.mono ?_; rintro e w2 ⟨rfl, hm2, hg2⟩
        go_wp2_with fail
        go_roundw
        case rel => exact ⟨k + 1, by omega, by go_num, grown_trans hg hg2, hm2, by have := HD.out; rw [HB.out] at this; simpa using this⟩
        case measure => simp [intOf]; omega
      · have HB := Lib.hid hbad
        clear hbad
        go_wp2_with fail
        refine cR.mono ?_; rintro e w2 ⟨rfl, hm2, hg2⟩
        go_wp2_with fail
        go_ret
        have e : (k : Int) = scan [] fs 0 := by have := HD.out; rw [HB.out] at this; simpa using this
        exact ⟨ret_int e, grown_trans hg hg2⟩
    · have : k = n := by omega
      subst this
      have hz : scan (fs.take k) (fs.drop k) k = -1 := by rw [List.drop_eq_nil_of_le (by rw [HL.out]; exact Nat.le_refl _)]; rfl
      rw [hz] at hrest
      have HD := Lib.hid hrest
      clear hrest hz
      go_wp2_with fail
      go_ret
      exact ⟨ret_int HD.out, hg⟩


theorem containsF_calls (A : Option Addr) (cap n : Nat) (fs : List Fd) (lo hi S M : Nat) (w : World) (hr : RdC lo hi w A (cellsF fs)) (hfn : fs.length = n) (hn : n ≤ 900) (hhi : hi ≤ w.heap.size) (hM : hi ≤ M)
    (hcS : w.cell? ⟨S, 0, none⟩ = some (.map (some M))) (hSlt : S < w.heap.size) (hSM : S ≠ M) (hm : MapN w M 0 (seenM [])) (hsz : ∀ f ∈ fs, f.n.size ≤ maxLen) :
    Calls Try.prog 26 #[.slice A n cap, .func (.func 25) #[] #[.pointer (some ⟨S, 0, none⟩)]] w fun e w' => e = .returned (.bool (decide (0 ≤ scan [] fs 0))) ∧ w.grownBy w' (some M) := by
  have c := indexF_calls A cap n fs lo hi S M w hr hfn hn hhi hM hcS hSlt hSM hm hsz
  clear hr hfn hcS hm hsz
  generalize scan [] fs 0 = x at c ⊢
  go_enter Try.func26, Try.ntmps26
  go_wp2_with fail
  refine c.mono ?_; rintro e w' ⟨rfl, hg⟩
  go_wp2_with fail
  go_ret
  exact ⟨rfl, hg⟩

def keys4 : List ByteArray := [⟨#[97, 115]⟩, ⟨#[110, 111, 116]⟩, ⟨#[105, 102]⟩, ⟨#[108, 101, 116]⟩]
theorem lit4_cells (W : World) (i : Nat) (h : i < 4) : (W.alloc (.cells #[.string ⟨#[97, 115]⟩, .string ⟨#[110, 111, 116]⟩, .string ⟨#[105, 102]⟩, .string ⟨#[108, 101, 116]⟩] 9)).cell? ((⟨W.heap.size, 0, none⟩ : Addr).add i) = some (.string (keys4.getD i ByteArray.empty)) := by
  match i, h with
  | 0, _ => simp [Addr.add, go_sem]; rfl
  | 1, _ => simp [Addr.add, go_sem]; rfl
  | 2, _ => simp [Addr.add, go_sem]; rfl
  | 3, _ => simp [Addr.add, go_sem]; rfl

/-- The world in which the slots are looked at: a list of words, an empty map, and a box that holds the map. -/
theorem right_map (w1 : World) (o1 : Obj) (t : TypeId) : MapN (((w1.alloc o1).alloc (.map #[] 0)).alloc (.cells #[.map (some (w1.heap.size + 1))] t)) (w1.heap.size + 1) 0 (seenM []) := by
  have h := MapN.made (w1.alloc o1)
  have e : (w1.alloc o1).heap.size = w1.heap.size + 1 := by simp
  rw [e] at h
  exact h.kept (Below.heap_alloc _ _ _ (by simp))
theorem right_cell (w1 : World) (o1 : Obj) (t : TypeId) : (((w1.alloc o1).alloc (.map #[] 0)).alloc (.cells #[.map (some (w1.heap.size + 1))] t)).cell? ⟨w1.heap.size + 1 + 1, 0, none⟩ = some (.map (some (w1.heap.size + 1))) := by
  simp [go_sem]
theorem right_below {B : Nat} {w w1 : World} (h : Below B w w1) (hB : B ≤ w1.heap.size) (o1 o2 o3 : Obj) : Below B w (((w1.alloc o1).alloc o2).alloc o3) :=
  ((h.alloc hB o1).alloc (by simp; omega) o2).alloc (by simp; omega) o3

/-- May a template be so? -/
def rightB (t : Tm) : Bool := wordB t.n && !isIn t.n keys4 && decide (t.s.length ≤ 8) && !decide (0 ≤ scan [] t.s 0)

theorem right_calls (t : Tm) (v : Value) (lo hi : Nat) (w : World) (h : RdF lo hi w v t.s) (hhi : hi ≤ w.heap.size) (hsz : ∀ f ∈ t.s, f.n.size ≤ maxLen) :
    Calls Try.prog 18 #[.agg #[.string t.n, v]] w fun e w' => e = .returned (.bool (rightB t)) ∧ Below w.heap.size w w' := by
  obtain ⟨s, fs⟩ := t
  obtain ⟨A, c, rfl, hc, hr⟩ := h
  simp only at *
  have cw := fun W => word_calls s W
  have ck := fun W => containsS_calls _ keys4 4 4 s _ rfl (by omega) (fun i hi => lit4_cells W i hi)
  cases hwb : wordB s
  · rw [hwb] at cw
    have HW := Lib.hid hwb
    clear hwb
    go_enter Try.func18, Try.ntmps18
    go_wp2_with fail
    refine (cw _).mono ?_; rintro e w1 ⟨rfl, hb⟩
    go_wp2_with fail
    go_ret
    exact ⟨ret_bool (by unfold rightB; rw [HW.out]; rfl), ((Below.refl _ _).alloc (Nat.le_refl _) _).trans (hb.mono (by simp))⟩
  · rw [hwb] at cw
    have HW := Lib.hid hwb
    clear hwb
    have hmm := @run_makeMap Try.prog
    obtain ⟨n, hn⟩ : ∃ n, n = fs.length := ⟨_, rfl⟩
    rw [← hn] at hc ⊢
    have HN := Lib.hid hn
    have HR := Lib.hid hr
    have HS := Lib.hid hsz
    clear hn hr hsz
    cases hin : isIn s keys4
    · rw [hin] at ck
      have HI := Lib.hid hin
      clear hin
      by_cases h8 : n ≤ 8
      · have h8' : decide ((8 : Int) < (n : Int)) = false := by simp; omega
        go_enter Try.func18, Try.ntmps18
        go_wp2_with fail
        refine (cw _).mono ?_; rintro e w1 ⟨rfl, hb⟩
        have b0 : w1.cell? ⟨w.heap.size, 0, none⟩ = some (.string s) := (hb.cell (p := ⟨w.heap.size, 0, none⟩) (by simp <;> omega)).trans (by simp [go_sem])
        have b1 : w1.cell? ⟨w.heap.size, 1, none⟩ = some (.slice A n c) := (hb.cell (p := ⟨w.heap.size, 1, none⟩) (by simp <;> omega)).trans (by simp [go_sem])
        have hz : w.heap.size < w1.heap.size := by have := hb.size; simp at this; omega
        have HB := ((Below.refl w.heap.size w).alloc (Nat.le_refl _) _).trans (hb.mono (by simp))
        clear hb
        go_wp2_with fail
        refine (ck w1).mono ?_; rintro e w2 ⟨rfl, rfl⟩
        have b1' : ∀ o1 o2 o3, (((w1.alloc o1).alloc o2).alloc o3).cell? ⟨w.heap.size, 1, none⟩ = some (.slice A n c) := fun o1 o2 o3 => (((((Below.refl w1.heap.size w1).alloc (Nat.le_refl _) o1).alloc (by simp) o2).alloc (by simp <;> omega) o3).cell (p := ⟨w.heap.size, 1, none⟩) hz).trans b1
        go_wp2_with fail
        refine (containsF_calls A c n fs lo hi (w1.heap.size + 1 + 1) (w1.heap.size + 1) _ (HR.out.kept (Kept.of_below (right_below HB HB.size _ _ _) lo hhi)) HN.out.symm (by omega) (by simp; omega) (by omega) (right_cell w1 _ _) (by simp) (by omega) (right_map w1 _ _) HS.out).mono ?_; rintro e w4 ⟨rfl, hg⟩
        have hfin : rightB ⟨s, fs⟩ = !decide (0 ≤ scan [] fs 0) := by unfold rightB; simp only; rw [HW.out, HI.out, ← HN.out]; simp [h8]
        have HF := Lib.hid hfin
        clear hfin
        generalize decide (0 ≤ scan [] fs 0) = b at HF ⊢
        go_wp2_with fail
        go_ret
        exact ⟨ret_bool HF.out.symm, (right_below HB HB.size _ _ _).grown hg (by simp; omega) (fun k hk => by cases hk; omega)⟩
      · have h8' : decide ((8 : Int) < (n : Int)) = true := by simp; omega
        go_enter Try.func18, Try.ntmps18
        go_wp2_with fail
        refine (cw _).mono ?_; rintro e w1 ⟨rfl, hb⟩
        have b0 : w1.cell? ⟨w.heap.size, 0, none⟩ = some (.string s) := (hb.cell (p := ⟨w.heap.size, 0, none⟩) (by simp <;> omega)).trans (by simp [go_sem])
        have b1 : w1.cell? ⟨w.heap.size, 1, none⟩ = some (.slice A n c) := (hb.cell (p := ⟨w.heap.size, 1, none⟩) (by simp <;> omega)).trans (by simp [go_sem])
        have hz : w.heap.size < w1.heap.size := by have := hb.size; simp at this; omega
        have HB := ((Below.refl w.heap.size w).alloc (Nat.le_refl _) _).trans (hb.mono (by simp))
        clear hb
        go_wp2_with fail
        refine (ck w1).mono ?_; rintro e w2 ⟨rfl, rfl⟩
        go_wp2_with fail
        go_ret
        exact ⟨ret_bool (by unfold rightB; simp only; rw [HW.out, HI.out, ← HN.out]; simp; omega), HB.alloc HB.size _⟩
    · rw [hin] at ck
      have HI := Lib.hid hin
      clear hin
      go_enter Try.func18, Try.ntmps18
      go_wp2_with fail
      refine (cw _).mono ?_; rintro e w1 ⟨rfl, hb⟩
      have b0 : w1.cell? ⟨w.heap.size, 0, none⟩ = some (.string s) := (hb.cell (p := ⟨w.heap.size, 0, none⟩) (by simp <;> omega)).trans (by simp [go_sem])
      have hz : w.heap.size < w1.heap.size := by have := hb.size; simp at this; omega
      have HB := ((Below.refl w.heap.size w).alloc (Nat.le_refl _) _).trans (hb.mono (by simp))
      clear hb
      go_wp2_with fail
      refine (ck w1).mono ?_; rintro e w2 ⟨rfl, rfl⟩
      go_wp2_with fail
      go_ret
      exact ⟨ret_bool (by unfold rightB; simp only; rw [HW.out, HI.out]; rfl), HB.alloc HB.size _⟩

end Go.Proofs.Ytkableklofokdaa

/- The walks of the functions over texts that the schema leans on: within, Name with its closure, the library's indexFunc, IndexFunc, ContainsFunc, Index and Contains at texts, and word: what each returns, at every text. No condition but the sizes that are typed. -/
import Derived.Test.YtkableklofokdaaProg
import Derived.WalkKit
import Derived.WalkLawsBesides
import Derived.WalkSpells
import Derived.Lib.Hide
import Derived.Lib.OthersKept
import Derived.Lib.TrimU
import Derived.Deep.LoopGhost
import Derived.Shelf.Abstract
set_option linter.unusedSimpArgs false
set_option linter.unusedVariables false
namespace Go.Proofs.Ytkableklofokdaa
open Go Go.RowKit Go.Shelf

theorem ret_int {k : IntKind} {a b : Int} (h : a = b) : Ending.returned (.int k a) = .returned (.int k b) := by rw [h]
theorem ret_bool {a b : Bool} (h : a = b) : Ending.returned (.bool a) = .returned (.bool b) := by rw [h]

theorem within_calls (c a b : Int) (w : World) :
    Calls Try.prog 30 #[.int .i32 c, .int .i32 a, .int .i32 b] w fun e w' => e = .returned (.bool (decide (a ≤ c) && decide (c ≤ b))) ∧ w = w' := by
  by_cases h : a ≤ c
  · have h' : decide (a ≤ c) = true := by simpa using h
    go_enter Try.func30, Try.ntmps30
    go_wp2
    go_ret
    exact ⟨by simp [h], rfl⟩
  · have h' : decide (a ≤ c) = false := by simpa using h
    go_enter Try.func30, Try.ntmps30
    go_wp2
    go_ret
    exact ⟨by simp [h], rfl⟩

/-- Is a rune no letter, and no digit? -/
def oddR (r : Nat) : Bool := !(decide (97 ≤ r) && decide (r ≤ 122)) && !(decide (48 ≤ r) && decide (r ≤ 57))

theorem name1_calls (r : Nat) (w : World) :
    Calls Try.prog 37 #[.int .i32 (r : Int)] w fun e w' => e = .returned (.bool (oddR r)) ∧ w = w' := by
  have e1 : (decide ((97:Int) ≤ (r:Int)) && decide ((r:Int) ≤ 122)) = (decide (97 ≤ r) && decide (r ≤ 122)) := by
    congr 1 <;> (apply decide_eq_decide.2; omega)
  have e2 : (decide ((48:Int) ≤ (r:Int)) && decide ((r:Int) ≤ 57)) = (decide (48 ≤ r) && decide (r ≤ 57)) := by
    congr 1 <;> (apply decide_eq_decide.2; omega)
  have c1 := within_calls (r:Int) 97 122 w
  have c2 := within_calls (r:Int) 48 57 w
  rw [e1] at c1
  rw [e2] at c2
  unfold oddR
  generalize (decide (97 ≤ r) && decide (r ≤ 122)) = x at *
  generalize (decide (48 ≤ r) && decide (r ≤ 57)) = y at *
  clear e1 e2
  cases x
  · go_enter Try.func37, Try.ntmps37
    go_wp2_with fail
    refine c1.mono ?_; rintro e w' ⟨rfl, rfl⟩
    go_wp2_with fail
    refine c2.mono ?_; rintro e w' ⟨rfl, rfl⟩
    go_wp2_with fail
    go_ret
    exact ⟨rfl, rfl⟩
  · go_enter Try.func37, Try.ntmps37
    go_wp2_with fail
    refine c1.mono ?_; rintro e w' ⟨rfl, rfl⟩
    go_wp2_with fail
    go_ret
    exact ⟨rfl, rfl⟩

/-- Where the first rune of which p holds begins, from a place on, by at most so many runes; -1: there is none. -/
def idxFrom (p : Nat → Bool) (s : ByteArray) : Nat → Nat → Int
  | 0, _ => -1
  | f + 1, pos => if pos < s.size then (if p (Utf8.decode s pos).1 = true then (pos : Int) else idxFrom p s f (pos + (Utf8.decode s pos).2)) else -1
def idxOf (p : Nat → Bool) (s : ByteArray) : Int := idxFrom p s s.size 0
theorem idxFrom_end (p : Nat → Bool) (s : ByteArray) (f pos : Nat) (h : ¬ pos < s.size) : idxFrom p s f pos = -1 := by cases f <;> simp [idxFrom, h]
theorem enters_name1 : ∀ args w, (callFunc 37 args).run Try.prog w = .ok (.enter 37 args) w := enters_of Try.func37 (by kernel_rfl) rfl

set_option maxHeartbeats 400000 in
theorem indexFunc_calls (s : ByteArray) (w : World) :
    Calls Try.prog 38 #[.string s, .func (.func 37) #[] #[], .bool true] w fun e w' => e = .returned (.int .i64 (idxOf oddR s)) ∧ Below w.heap.size w w' := by
  have eg := enters_name1
  go_enter Try.func38, Try.ntmps38
  go_wp2
  go_loopg [] s.size (fun gf wx => ∃ pos : Nat, wx.heap[w.heap.size]? = some (.stringIter s pos) ∧ Below w.heap.size w wx ∧ idxFrom oddR s gf pos = idxOf oddR s ∧ s.size ≤ pos + gf)
  case atStart => exact ⟨0, World.iter_heap w s 0, (Below.refl _ w).alloc (Nat.le_refl _) _, rfl, by omega⟩
  case round =>
    obtain ⟨pos, hit, hbw, hleft, hfu⟩ := hrel
    by_cases hps : pos < s.size
    · obtain ⟨g', rfl⟩ : ∃ g', gk = g' + 1 := ⟨gk - 1, by omega⟩
      have hnx : ∀ ty, (Instr.next (.pointer (some ⟨w.heap.size, 0, none⟩)) true ty).run Try.prog wr = _ := fun ty => Lib.run_next_any_at wr w.heap.size s pos ty hit hps
      have hwd := Lib.width_pos s pos
      obtain ⟨R, hR⟩ : ∃ R, (Utf8.decode s pos).1 = R := ⟨_, rfl⟩
      obtain ⟨K, hK⟩ : ∃ K, (Utf8.decode s pos).2 = K := ⟨_, rfl⟩
      simp only [idxFrom, hps, if_true, hR, hK] at hleft
      rw [hR, hK] at hnx
      rw [hK] at hwd
      have hit2 := Lib.iterAt_heap wr w.heap.size s pos (pos + K) hit
      have hbw2 := Lib.below_iterAt hbw (k := w.heap.size) (Nat.le_refl _) s (pos + K)
      obtain ⟨W, hWd⟩ : ∃ W, wr.iterAt w.heap.size s (pos + K) = W := ⟨_, rfl⟩
      rw [hWd] at hnx hit2 hbw2
      have cS : Calls Try.prog 37 (#[.int .i32 (R : Int)]) W _ := name1_calls R W
      cases hsp : oddR R <;> rw [hsp] at cS <;> simp only [hsp, if_true, Bool.false_eq_true, Bool.true_eq_false, if_false] at hleft
      · go_wp2_with fail
        refine cS.mono ?_; rintro e W' ⟨rfl, rfl⟩
        go_wp2_with fail
        go_roundg g'
        case measure => omega
        case rel => exact ⟨pos + K, hit2, hbw2, hleft, by omega⟩
      · go_wp2_with fail
        refine cS.mono ?_; rintro e W' ⟨rfl, rfl⟩
        go_wp2_with fail
        go_ret
        exact ⟨by rw [← hleft] <;> rfl, hbw2⟩
    · have hnx : ∀ ty, (Instr.next (.pointer (some ⟨w.heap.size, 0, none⟩)) true ty).run Try.prog wr = _ := fun ty => Lib.run_next_end_at wr w.heap.size s pos ty hit hps
      rw [idxFrom_end oddR s gk pos hps] at hleft
      go_wp2
      go_ret
      exact ⟨by rw [← hleft] <;> rfl, hbw⟩

theorem IndexFunc_calls (s : ByteArray) (w : World) :
    Calls Try.prog 36 #[.string s, .func (.func 37) #[] #[]] w fun e w' => e = .returned (.int .i64 (idxOf oddR s)) ∧ Below w.heap.size w w' := by
  go_enter Try.func36, Try.ntmps36
  go_wp2_with fail
  refine (indexFunc_calls s _).mono ?_; rintro e w' ⟨rfl, hb⟩
  go_wp2_with fail
  go_ret
  exact ⟨rfl, hb⟩

theorem ContainsFunc_calls (s : ByteArray) (w : World) :
    Calls Try.prog 31 #[.string s, .func (.func 37) #[] #[]] w fun e w' => e = .returned (.bool (decide (0 ≤ idxOf oddR s))) ∧ Below w.heap.size w w' := by
  have c := fun W => IndexFunc_calls s W
  generalize idxOf oddR s = x at c ⊢
  go_enter Try.func31, Try.ntmps31
  go_wp2_with fail
  refine (c _).mono ?_; rintro e w' ⟨rfl, hb⟩
  go_wp2_with fail
  go_ret
  exact ⟨rfl, hb⟩

/-- A text's first byte; 0: there is none. -/
def byte0 (s : ByteArray) : Int := if h : 0 < s.size then ((s[0]'h).toNat : Int) else 0
/-- Is a text a name? -/
def nameB (s : ByteArray) : Bool := !(s.toList == []) && decide (s.size ≤ 24) && !(decide (0 ≤ idxOf oddR s)) && (decide (97 ≤ byte0 s) && decide (byte0 s ≤ 122))

theorem name_calls (s : ByteArray) (w : World) :
    Calls Try.prog 32 #[.string s] w fun e w' => e = .returned (.bool (nameB s)) ∧ Below w.heap.size w w' := by
  by_cases h1 : s.toList = []
  · have h1' : (s.toList == ([] : List UInt8)) = true := by simpa using h1
    have hn : nameB s = false := by unfold nameB; rw [h1']; rfl
    rw [hn]
    clear hn h1'
    go_enter Try.func32, Try.ntmps32
    go_wp2_with fail
    go_ret
    exact ⟨rfl, Below.refl _ _⟩
  · have h1' : (s.toList == ([] : List UInt8)) = false := by simpa using h1
    by_cases h2 : s.size ≤ 24
    · have h2' : decide ((s.size : Int) ≤ 24) = true := by simp; omega
      have hpos : 0 < s.size := by
        rcases Nat.eq_zero_or_pos s.size with h | h
        · exact absurd (by unfold ByteArray.toList; unfold ByteArray.toList.loop; rw [if_neg (by omega)]; rfl) h1
        · exact h
      have cc := fun W => ContainsFunc_calls s W
      have hb0 : byte0 s = ((s[0]'hpos).toNat : Int) := by unfold byte0; rw [dif_pos hpos]
      have hb1 : 0 ≤ byte0 s ∧ byte0 s ≤ 255 := by rw [hb0]; have := (s[0]'hpos).toNat_lt; omega
      have cw := fun W => within_calls (byte0 s) 97 122 W
      have hnm : nameB s = (!(decide (0 ≤ idxOf oddR s)) && (decide (97 ≤ byte0 s) && decide (byte0 s ≤ 122))) := by
        unfold nameB; rw [h1']; simp [h2]
      rw [hnm]
      clear hnm h1
      generalize decide (0 ≤ idxOf oddR s) = b at cc ⊢
      generalize (decide (97 ≤ byte0 s) && decide (byte0 s ≤ 122)) = c at cw ⊢
      rw [hb0] at cw
      have hw : wrap32 ((s[0]'hpos).toNat : Int) = ((s[0]'hpos).toNat : Int) := by have := (s[0]'hpos).toNat_lt; unfold wrap32; omega
      have HW := Lib.hid hw
      clear hb0 hb1 hw
      cases b
      · go_enter Try.func32, Try.ntmps32
        go_wp2_with fail
        refine (cc _).mono ?_; rintro e w' ⟨rfl, hb⟩
        go_wp2_with fail
        rw [HW.out]
        refine (cw _).mono ?_; rintro e w' ⟨rfl, rfl⟩
        go_wp2_with fail
        go_ret
        exact ⟨rfl, hb⟩
      · go_enter Try.func32, Try.ntmps32
        go_wp2_with fail
        refine (cc _).mono ?_; rintro e w' ⟨rfl, hb⟩
        go_wp2_with fail
        go_ret
        exact ⟨rfl, hb⟩
    · have h2' : decide ((s.size : Int) ≤ 24) = false := by simp; omega
      have hn : nameB s = false := by unfold nameB; simp [h2]
      rw [hn]
      clear hn
      go_enter Try.func32, Try.ntmps32
      go_wp2_with fail
      go_ret
      exact ⟨rfl, Below.refl _ _⟩

/-- Where a text stands in a list, from a place on: the first place; -1. -/
def idxIn (x : ByteArray) (l : List ByteArray) (k : Nat) : Int := match l with
  | [] => -1
  | y :: ys => if (x.toList == y.toList) = true then (k : Int) else idxIn x ys (k + 1)
/-- Is a text in a list? -/
def isIn (x : ByteArray) (l : List ByteArray) : Bool := l.any fun y => x.toList == y.toList
theorem idxIn_isIn (x : ByteArray) (l : List ByteArray) (k : Nat) : decide (0 ≤ idxIn x l k) = isIn x l := by
  induction l generalizing k with
  | nil => rfl
  | cons y ys ih =>
    unfold idxIn isIn
    rw [List.any_cons]
    by_cases h : (x.toList == y.toList) = true
    · rw [if_pos h, h]; simp
    · rw [if_neg h]; simp only [Bool.not_eq_true] at h; rw [h, Bool.false_or]; exact ih (k + 1)
theorem idxIn_drop (x : ByteArray) (l : List ByteArray) (k : Nat) (h : k < l.length) : idxIn x (l.drop k) k = if (x.toList == (l.getD k ByteArray.empty).toList) = true then (k : Int) else idxIn x (l.drop (k + 1)) (k + 1) := by
  rw [List.drop_eq_getElem_cons h, idxIn]
  simp [List.getD_eq_getElem?_getD, List.getElem?_eq_getElem h]

theorem indexS_calls (ad : Addr) (l : List ByteArray) (n cap : Nat) (x : ByteArray) (w : World) (hnl : l.length = n) (hn : n ≤ 1000000)
    (hc : ∀ i, i < n → w.cell? (ad.add i) = some (.string (l.getD i ByteArray.empty))) :
    Calls Try.prog 35 #[.slice (some ad) n cap, .string x] w fun e w' => e = .returned (.int .i64 (idxIn x l 0)) ∧ w = w' := by
  have HL := Lib.hid hnl
  clear hnl
  go_enter Try.func35, Try.ntmps35
  go_wp2
  go_loop [5, 8] (fun v i => ∃ k : Nat, k ≤ n ∧ i = .int .i64 k ∧ idxIn x (l.drop k) k = idxIn x l 0) (fun _ i => n - (intOf i).toNat)
  case atStart => exact ⟨0, by omega, rfl, rfl⟩
  case round =>
    obtain ⟨k, hk, rfl, hrest⟩ := hrel
    by_cases hlt : k < n
    · obtain ⟨y, hy⟩ : ∃ y, y = l.getD k ByteArray.empty := ⟨_, rfl⟩
      have hcx : w.cell? (ad.add k) = some (.string y) := by rw [hy]; exact hc k hlt
      have hd := idxIn_drop x l k (by rw [HL.out]; exact hlt)
      rw [← hy] at hd
      have HD := Lib.hid (hd.symm.trans hrest)
      clear hd hrest hy hc
      cases heq : (x.toList == y.toList)
      · go_wp2
        go_round
        case rel => exact ⟨k + 1, by omega, by go_num, by have := HD.out; rw [heq] at this; simpa using this⟩
        case measure => simp [intOf]; omega
      · go_wp2
        go_ret
        have e : (k : Int) = idxIn x l 0 := by have := HD.out; rw [heq] at this; simpa using this
        exact ⟨ret_int e, rfl⟩
    · have : k = n := by omega
      subst this
      have hz : idxIn x (l.drop k) k = -1 := by rw [List.drop_eq_nil_of_le (by rw [HL.out]; exact Nat.le_refl _)]; rfl
      rw [hz] at hrest
      have HD := Lib.hid hrest
      clear hrest hz hc
      go_wp2
      go_ret
      exact ⟨ret_int HD.out, rfl⟩

theorem containsS_calls (ad : Addr) (l : List ByteArray) (n cap : Nat) (x : ByteArray) (w : World) (hnl : l.length = n) (hn : n ≤ 1000000)
    (hc : ∀ i, i < n → w.cell? (ad.add i) = some (.string (l.getD i ByteArray.empty))) :
    Calls Try.prog 24 #[.slice (some ad) n cap, .string x] w fun e w' => e = .returned (.bool (isIn x l)) ∧ w = w' := by
  have c := indexS_calls ad l n cap x w hnl hn hc
  have hr := idxIn_isIn x l 0
  rw [← hr]
  clear hc hnl hr
  generalize idxIn x l 0 = z at c ⊢
  go_enter Try.func24, Try.ntmps24
  go_wp2_with fail
  refine c.mono ?_; rintro e w' ⟨rfl, rfl⟩
  go_wp2_with fail
  go_ret
  exact ⟨rfl, rfl⟩

def vals3 : List ByteArray := [⟨#[116, 114, 117, 101]⟩, ⟨#[102, 97, 108, 115, 101]⟩, ⟨#[110, 111, 110, 101]⟩]
/-- Is a text a name, and no value? -/
def wordB (s : ByteArray) : Bool := nameB s && !isIn s vals3

theorem lit3_cells (W : World) (i : Nat) (h : i < 3) : (W.alloc (.cells #[.string ⟨#[116, 114, 117, 101]⟩, .string ⟨#[102, 97, 108, 115, 101]⟩, .string ⟨#[110, 111, 110, 101]⟩] 9)).cell? ((⟨W.heap.size, 0, none⟩ : Addr).add i) = some (.string (vals3.getD i ByteArray.empty)) := by
  match i, h with
  | 0, _ => simp [Addr.add, go_sem]; rfl
  | 1, _ => simp [Addr.add, go_sem]; rfl
  | 2, _ => simp [Addr.add, go_sem]; rfl

theorem word_calls (s : ByteArray) (w : World) :
    Calls Try.prog 23 #[.string s] w fun e w' => e = .returned (.bool (wordB s)) ∧ Below w.heap.size w w' := by
  have cn := fun W => name_calls s W
  have ck := fun W => containsS_calls _ vals3 3 3 s _ rfl (by omega) (fun i hi => lit3_cells W i hi)
  unfold wordB
  generalize isIn s vals3 = b at ck ⊢
  cases hnb : nameB s <;> rw [hnb] at cn
  · go_enter Try.func23, Try.ntmps23
    go_wp2_with fail
    refine (cn _).mono ?_; rintro e w' ⟨rfl, hb⟩
    go_wp2_with fail
    go_ret
    exact ⟨rfl, hb⟩
  · go_enter Try.func23, Try.ntmps23
    go_wp2_with fail
    refine (cn _).mono ?_; rintro e w' ⟨rfl, hb⟩
    go_wp2_with fail
    refine (ck w').mono ?_; rintro e w1 ⟨rfl, rfl⟩
    go_wp2_with fail
    go_ret
    exact ⟨rfl, hb.alloc hb.size _⟩
end Go.Proofs.Ytkableklofokdaa

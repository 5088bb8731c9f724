/- The walk of schema.New: a schema of templates, or what is wrong, and with which one. -/
import Derived.Test.YtkableklofokdaaRight
import Derived.Deep.RegionHeld3
import Derived.Deep.AppendLies
import Derived.Deep.RegionLaw
import Derived.Deep.QuietTactic
import Derived.BigQuiet
set_option linter.unusedSimpArgs false
set_option linter.unusedVariables false
namespace Go.Proofs.Ytkableklofokdaa
open Go Go.RowKit Go.Maps Go.WideMaps

/-- Has one of some templates a name? -/
def isThere (pre : List Tm) (s : ByteArray) : Bool := pre.any fun t => t.n.data.toList == s.data.toList
/-- What is wrong with templates, behind others: an error and the place; nothing, if all may be. -/
def newGo (pre : List Tm) : List Tm → Nat → Option (Int × Nat)
  | [], _ => none
  | t :: ts, k => if rightB t = false then some (12, k) else if isThere pre t.n = true then some (4, k) else newGo (pre ++ [t]) ts (k + 1)
def newRes (ts : List Tm) : Option (Int × Nat) := if 16 < ts.length then some (2, 16) else newGo [] ts 0
theorem takeT_snoc (ts : List Tm) (k : Nat) (h : k < ts.length) : ts.take (k + 1) = ts.take k ++ [ts.getD k default] := by
  rw [List.take_succ_eq_append_getElem h]; simp [List.getD_eq_getElem?_getD, List.getElem?_eq_getElem h]
theorem newGo_drop (ts : List Tm) (k : Nat) (h : k < ts.length) : newGo (ts.take k) (ts.drop k) k =
    if rightB (ts.getD k default) = false then some (12, k) else if isThere (ts.take k) (ts.getD k default).n = true then some (4, k) else newGo (ts.take (k + 1)) (ts.drop (k + 1)) (k + 1) := by
  rw [List.drop_eq_getElem_cons h, newGo, takeT_snoc ts k h]
  simp [List.getD_eq_getElem?_getD, List.getElem?_eq_getElem h]

/-- Where a name stands among templates. -/
def placeM (pre : List Tm) (s : List UInt8) : Option Int := Option.map (fun i : Nat => (i : Int)) (pre.findIdx? fun t => t.n.data.toList == s)
theorem placeM_nil : placeM [] = fun _ => none := rfl
theorem placeM_some (pre : List Tm) (s : ByteArray) : (placeM pre s.data.toList).isSome = isThere pre s := by
  unfold placeM isThere
  rw [Option.isSome_map, List.findIdx?_isSome]
theorem placeM_snoc (pre : List Tm) (t : Tm) (h : isThere pre t.n = false) : placeM (pre ++ [t]) = putM (placeM pre) t.n.data.toList (pre.length : Nat) := by
  funext s
  unfold placeM putM
  rw [List.findIdx?_append]
  by_cases hs : s = t.n.data.toList
  · subst hs
    have h1 : pre.findIdx? (fun x => x.n.data.toList == t.n.data.toList) = none := by
      rw [List.findIdx?_eq_none_iff]
      intro x hx
      unfold isThere at h
      rw [List.any_eq_false] at h
      simpa using h x hx
    rw [h1, if_pos rfl]
    simp [List.findIdx?_cons]
  · rw [if_neg hs]
    have h2 : (t.n.data.toList == s) = false := by rw [beq_eq_false_iff_ne]; exact fun e => hs e.symm
    simp only [List.findIdx?_cons, h2, Bool.false_eq_true, if_false, List.findIdx?_nil, Option.map_none, Option.or_none]

/-- A schema in memory, that reads through blocks from lo on and below hi. -/
def SchemaAt (lo hi : Nat) (w : World) (p : Value) (ts : List Tm) : Prop :=
  ∃ g M lv n, p = .pointer (some ⟨g, 0, none⟩) ∧ lo ≤ g ∧ g < hi ∧ w.cell? ⟨g, 0, none⟩ = some lv ∧ w.cell? ⟨g, 1, none⟩ = some (.map (some M)) ∧ lo ≤ M ∧ M < hi ∧ RdT lo hi w lv ts ∧ MapN w M n (placeM ts)
theorem SchemaAt.kept {lo hi : Nat} {w w' : World} {p : Value} {ts : List Tm} (h : SchemaAt lo hi w p ts) (k : Kept lo hi w w') : SchemaAt lo hi w' p ts := by
  obtain ⟨g, M, lv, n, h1, h2, h3, h4, h5, h6, h7, h8, h9⟩ := h
  exact ⟨g, M, lv, n, h1, h2, h3, (k.cell (p := ⟨g, 0, none⟩) h2 h3).trans h4, (k.cell (p := ⟨g, 1, none⟩) h2 h3).trans h5, h6, h7, h8.kept k, h9.kept (k M h6 h7)⟩
theorem SchemaAt.mono {lo hi lo' hi' : Nat} {w : World} {p : Value} {ts : List Tm} (h : SchemaAt lo hi w p ts) (h1 : lo' ≤ lo) (h2 : hi ≤ hi') : SchemaAt lo' hi' w p ts := by
  obtain ⟨g, M, lv, n, a1, a2, a3, a4, a5, a6, a7, a8, a9⟩ := h
  exact ⟨g, M, lv, n, a1, by omega, by omega, a4, a5, by omega, by omega, a8.mono h1 h2, a9⟩

/-- Names, and slots that the call owns. -/
def OwnTm (w : World) (base : Nat) (vs : List (ByteArray × Value)) (ts : List Tm) : Prop :=
  vs.length = ts.length ∧ ∀ i, i < ts.length → (vs.getD i default).1 = (ts.getD i default).n ∧ w.ownsRow base 38 2 (vs.getD i default).2 (ts.getD i default).s.length (cellsF (ts.getD i default).s)
theorem OwnTm.nil (w : World) (base : Nat) : OwnTm w base [] [] := ⟨rfl, fun i hi => by simp at hi⟩
theorem OwnTm.snoc {w : World} {base : Nat} {vs : List (ByteArray × Value)} {ts : List Tm} (h : OwnTm w base vs ts) {x : ByteArray × Value} {t : Tm} (h1 : x.1 = t.n) (h2 : w.ownsRow base 38 2 x.2 t.s.length (cellsF t.s)) : OwnTm w base (vs ++ [x]) (ts ++ [t]) := by
  refine ⟨by simp [h.1], fun i hi => ?_⟩
  by_cases hl : i < ts.length
  · rw [getD_snoc_lt _ _ _ (by rw [h.1]; exact hl), getD_snoc_lt _ _ _ hl]; exact h.2 i hl
  · have : i = ts.length := by simp at hi; omega
    subst this
    rw [getD_snoc_eq, ← h.1, getD_snoc_eq]; exact ⟨h1, h2⟩
/-- A row of the call's own stays, if its block does. -/
theorem own_same {w w' : World} {base : Nat} {e : TypeId} {size n : Nat} {v : Value} {xs : List Value} (h : w.ownsRow base e size v n xs) (hk : ∀ g cur, w.heap[g]? = some (.cells cur e (0, 0)) → base ≤ g → w'.heap[g]? = w.heap[g]?) : w'.ownsRow base e size v n xs := by
  obtain ⟨h1, h2⟩ := h
  refine ⟨h1, ?_⟩
  rcases h2 with h2 | ⟨g, cap, cur, a1, a2, a3, a4⟩
  · exact Or.inl h2
  · exact Or.inr ⟨g, cap, cur, a1, a2, by rw [hk g cur a3 a2]; exact a3, a4⟩
theorem OwnTm.same {w w' : World} {base : Nat} {vs : List (ByteArray × Value)} {ts : List Tm} (h : OwnTm w base vs ts) (hk : ∀ g cur, w.heap[g]? = some (.cells cur 38 (0, 0)) → base ≤ g → w'.heap[g]? = w.heap[g]?) : OwnTm w' base vs ts :=
  ⟨h.1, fun i hi => ⟨(h.2 i hi).1, own_same (h.2 i hi).2 hk⟩⟩
theorem own_block {w : World} {base : Nat} {e : TypeId} {size n : Nat} {v : Value} {xs : List Value} (h : w.ownsRow base e size v n xs) {g : Nat} (hg : v.ownBlock = some g) : ∃ cur, w.heap[g]? = some (.cells cur e (0, 0)) := by
  obtain ⟨_, h2⟩ := h
  rcases h2 with ⟨rfl, _⟩ | ⟨g', cap, cur, rfl, _, a3, _⟩
  · cases hg
  · simp [Value.ownBlock] at hg; subst hg; exact ⟨cur, a3⟩
theorem own_past_map {w w' : World} {base M : Nat} {e : TypeId} {size n : Nat} {v : Value} {xs : List Value} (h : w.ownsRow base e size v n xs) {es : Array MapEntry} {clock : Nat} (hM : w.heap[M]? = some (.map es clock)) (hg : w.grownBy w' (some M)) : w'.ownsRow base e size v n xs :=
  own_same h fun g cur hgc _ => hg.block g (Array.getElem?_eq_some_iff.1 hgc).1 (by intro e; cases e; rw [hgc] at hM; cases hM)
theorem OwnTm.past_map {w w' : World} {base M : Nat} {vs : List (ByteArray × Value)} {ts : List Tm} (h : OwnTm w base vs ts) {es : Array MapEntry} {clock : Nat} (hM : w.heap[M]? = some (.map es clock)) (hg : w.grownBy w' (some M)) : OwnTm w' base vs ts :=
  h.same fun g cur hgc _ => hg.block g (Array.getElem?_eq_some_iff.1 hgc).1 (by intro e; cases e; rw [hgc] at hM; cases hM)
theorem own_below {w w' : World} {base : Nat} {e : TypeId} {size n : Nat} {v : Value} {xs : List Value} (h : w.ownsRow base e size v n xs) (hb : Below w.heap.size w w') : w'.ownsRow base e size v n xs :=
  own_same h fun g cur hgc _ => hb.block g (Array.getElem?_eq_some_iff.1 hgc).1
theorem MapN.obj {w : World} {M n : Nat} {m : List UInt8 → Option Int} (h : MapN w M n m) : ∃ es clock, w.heap[M]? = some (.map es clock) := by
  obtain ⟨D, ⟨es, clock, h1, _⟩, _⟩ := h; exact ⟨es, clock, h1⟩
theorem OwnTm.below {w w' : World} {base : Nat} {vs : List (ByteArray × Value)} {ts : List Tm} (h : OwnTm w base vs ts) (hb : Below w.heap.size w w') : OwnTm w' base vs ts :=
  h.same fun g cur hg _ => hb.block g (Array.getElem?_eq_some_iff.1 hg).1
theorem OwnTm.are {w : World} {base : Nat} {vs : List (ByteArray × Value)} {ts : List Tm} (h : OwnTm w base vs ts) : AreTm base w.heap.size w vs ts :=
  ⟨h.1, fun i hi => ⟨(h.2 i hi).1, by
    obtain ⟨A, c, h1, h2, _, h4⟩ := rdC_own (h.2 i hi).2
    exact ⟨A, c, h1, h2, h4⟩⟩⟩


/-- What New leaves. -/
def NewPost (ts : List Tm) (w : World) (e : Ending) (w' : World) : Prop :=
  Below w.heap.size w w' ∧ ((∃ er k, newRes ts = some (er, k) ∧ e = .returned (.tuple #[.pointer none, .int .i64 er, .int .i64 (k : Nat)])) ∨
    (newRes ts = none ∧ ∃ p, e = .returned (.tuple #[p, .int .i64 0, .int .i64 0]) ∧ SchemaAt w.heap.size w'.heap.size w' p ts))

theorem new_long (v : Value) (ts : List Tm) (lo hi : Nat) (w : World) (h : RdT lo hi w v ts) (hl : 16 < ts.length) :
    Calls Try.prog 8 #[v] w (NewPost ts w) := by
  obtain ⟨A, c, vs, rfl, hc, hr, hvs⟩ := h
  have hfin : newRes ts = some (2, 16) := by unfold newRes; rw [if_pos hl]
  have HF := Lib.hid hfin
  clear hfin
  obtain ⟨n, hn⟩ : ∃ n, n = ts.length := ⟨_, rfl⟩
  rw [← hn] at hl hc ⊢
  have hl' : decide ((16 : Int) < (n : Int)) = true := by simp; omega
  clear hr hvs hn
  go_enter Try.func8, Try.ntmps8
  go_wp2_with fail
  go_ret3
  exact ⟨Below.refl _ _, Or.inl ⟨2, 16, HF.out, rfl⟩⟩

/-- A round's state: so many templates have been taken. -/
structure Loop (w : World) (lo hi : Nat) (ts : List Tm) (k : Nat) (wr : World) : Prop where
  below : Below w.heap.size w wr
  map : MapN wr w.heap.size k (placeM (ts.take k))
  list : ∃ lv vs, wr.cell? ⟨w.heap.size + 1, 0, none⟩ = some lv ∧ wr.ownsRow w.heap.size 31 2 lv k (cellsT vs) ∧ OwnTm wr w.heap.size vs (ts.take k)
  cell1 : wr.cell? ⟨w.heap.size + 1, 1, none⟩ = some (.map (some w.heap.size))
  frozen : wr.frozen? ⟨w.heap.size + 1, 0, none⟩ = false
  type : ∃ cs, wr.heap[w.heap.size + 1]? = some (.cells cs 50 (0, 0))
  left : newGo (ts.take k) (ts.drop k) k = newGo [] ts 0

theorem below_drew'' {w w' : World} (h : Below w.drew.heap.size w.drew w') : Below w.heap.size w w' := ⟨h.os, h.tape, h.output, h.size, h.block⟩
theorem heap_set_other (w : World) (a : Addr) (u : Value) {k : Nat} (h : k ≠ a.block) : (w.setCell a u).heap[k]? = w.heap[k]? := Below.heap_setCell w a u k h

theorem Loop.step {w : World} {lo hi : Nat} {ts : List Tm} {k : Nat} {wr w4 w5 w6 : World} (hLp : Loop w lo hi ts k wr) (hlt : k < ts.length) {s : ByteArray} {fs : List Fd} (HT : ts.take (k + 1) = ts.take k ++ [⟨s, fs⟩])
    (hr : rightB ⟨s, fs⟩ = true) (hno : isThere (ts.take k) s = false)
    (HD : (if rightB ⟨s, fs⟩ = false then some (12, k) else if isThere (ts.take k) s = true then some (4, k) else newGo (ts.take (k + 1)) (ts.drop (k + 1)) (k + 1)) = newGo [] ts 0)
    {lv : Value} {vs2 : List (ByteArray × Value)} (hown : wr.ownsRow w.heap.size 31 2 lv k (cellsT vs2)) (hOT : OwnTm wr w.heap.size vs2 (ts.take k))
    (hG4 : wr.grownBy w4 (some w.heap.size)) (hM4 : MapN w4 w.heap.size (k + 1) (putM (placeM (ts.take k)) s.data.toList (k : Int)))
    (hb5 : Below w4.heap.size w4 w5) {A5 : Option Addr} {c5 : Nat} (ho5 : w5.ownsRow w4.heap.size 38 2 (.slice A5 fs.length c5) fs.length (cellsF fs))
    {o : Obj} {gg cap : Nat} (hown6 : w6.ownsRow w.heap.size 31 2 (.slice (some ⟨gg, 0, none⟩) (k + 1) cap) (k + 1) (cellsT vs2 ++ [.string s, .slice A5 fs.length c5]))
    (hgrow : (w5.alloc o).grownBy w6 lv.ownBlock) (k61 : w6.cell? ⟨w.heap.size + 1, 0, none⟩ = some lv) (k6f : w6.frozen? ⟨w.heap.size + 1, 0, none⟩ = false) :
    Loop w lo hi ts (k + 1) (w6.setCell ⟨w.heap.size + 1, 0, none⟩ (.slice (some ⟨gg, 0, none⟩) (k + 1) cap)) := by
  have hgr := grown_alloc hgrow
  obtain ⟨cs, hcs⟩ := hLp.type
  have hp : w.heap.size + 1 < wr.heap.size := (Array.getElem?_eq_some_iff.1 hcs).1
  -- a block of wr that is neither the map nor the list's
  have h6 : ∀ b, b < w5.heap.size → some b ≠ lv.ownBlock → w6.heap[b]? = w5.heap[b]? := fun b hb hne => hgr.block b hb hne
  have h5 : ∀ b, b < w4.heap.size → w5.heap[b]? = w4.heap[b]? := fun b hb => hb5.block b hb
  have s4 := hG4.size
  have s5 := hb5.size
  have h64 : ∀ b, b < w4.heap.size → some b ≠ lv.ownBlock → w6.heap[b]? = w4.heap[b]? := fun b hb hne => (h6 b (by omega) hne).trans (h5 b hb)
  have h6r : ∀ b, b < wr.heap.size → b ≠ w.heap.size → some b ≠ lv.ownBlock → w6.heap[b]? = wr.heap[b]? := fun b hb h1 h2 => (h64 b (by omega) h2).trans (hG4.block b hb (by simpa using h1))
  have hlvb : ∀ b, lv.ownBlock = some b → ∃ cur, wr.heap[b]? = some (.cells cur 31 (0, 0)) := fun b hb => own_block hown hb
  obtain ⟨es, clock, hobj⟩ := hLp.map.obj
  have hneP : some (w.heap.size + 1) ≠ lv.ownBlock := by
    intro e; obtain ⟨cur, h1⟩ := hlvb _ e.symm; rw [hcs] at h1; cases h1
  have hneM : some w.heap.size ≠ lv.ownBlock := by
    intro e; obtain ⟨cur, h1⟩ := hlvb _ e.symm; rw [hobj] at h1; cases h1
  have hP6 : w6.heap[w.heap.size + 1]? = some (.cells cs 50 (0, 0)) := (h6r _ hp (by omega) hneP).trans hcs
  have hlk : (ts.take k).length = k := by rw [List.length_take]; omega
  have hb0 : Below w.heap.size w w6 := by
    have b1 : Below w.heap.size w w4 := hLp.below.grown hG4 hLp.below.size (fun j hj => by cases hj; exact Nat.le_refl _)
    have b2 : Below w.heap.size w w5 := b1.trans (hb5.mono b1.size)
    exact b2.grown hgr b2.size (fun j hj => by
      obtain ⟨_, hx⟩ := hown
      rcases hx with ⟨rfl, _⟩ | ⟨g, cap', cur, rfl, hge, _⟩
      · cases hj
      · simp [Value.ownBlock] at hj; omega)
  have hfld : ∀ {base : Nat} {v : Value} {n : Nat} {xs : List Value}, w5.ownsRow base 38 2 v n xs → (w6.setCell ⟨w.heap.size + 1, 0, none⟩ (.slice (some ⟨gg, 0, none⟩) (k + 1) cap)).ownsRow base 38 2 v n xs := by
    intro base v n xs h
    refine own_same h fun g cur hg _ => ?_
    have hg5 : g < w5.heap.size := (Array.getElem?_eq_some_iff.1 hg).1
    have hgl : some g ≠ lv.ownBlock := by
      intro e; obtain ⟨cur', h1⟩ := hlvb _ e.symm
      have hlt' : g < wr.heap.size := (Array.getElem?_eq_some_iff.1 h1).1
      have hgM : g ≠ w.heap.size := by rintro rfl; rw [hobj] at h1; cases h1
      rw [h5 g (by omega), hG4.block g hlt' (by simpa using hgM), h1] at hg; cases hg
    have hgP : g ≠ w.heap.size + 1 := by
      rintro rfl
      rw [← h6 _ hg5 hgl, hP6] at hg; cases hg
    rw [heap_set_other _ _ _ hgP]; exact h6 g hg5 hgl
  have hOT5 : OwnTm w5 w.heap.size vs2 (ts.take k) := (hOT.past_map hobj hG4).below hb5
  refine ⟨hb0.setCell (by simp) _, ?_, ?_, ?_, ?_, ?_, ?_⟩
  · rw [HT, placeM_snoc _ ⟨s, fs⟩ hno, hlk]
    refine hM4.kept ?_
    rw [heap_set_other _ _ _ (by simp)]
    exact h64 _ (by omega) hneM
  · refine ⟨.slice (some ⟨gg, 0, none⟩) (k + 1) cap, vs2 ++ [(s, .slice A5 fs.length c5)], by simp [go_sem, k61], ?_, ?_⟩
    · rw [cellsT_append]
      refine own_same hown6 fun g cur hg _ => heap_set_other _ _ _ ?_
      rintro rfl
      rw [hP6] at hg; cases hg
    · rw [HT]
      refine OwnTm.snoc ⟨hOT5.1, fun i hi => ⟨(hOT5.2 i hi).1, hfld (hOT5.2 i hi).2⟩⟩ rfl ?_
      exact hfld (own_base_le ho5 (by have := hLp.below.size; omega))
  · have h1 : w6.cell? ⟨w.heap.size + 1, 1, none⟩ = wr.cell? ⟨w.heap.size + 1, 1, none⟩ := World.cell?_of_block (w := wr) (a := ⟨w.heap.size + 1, 1, none⟩) (h6r (w.heap.size + 1) hp (by omega) hneP)
    have h2 := h1.trans hLp.cell1
    simp [go_sem, h2]
  · simpa [go_sem] using k6f
  · exact ⟨cs.setIfInBounds 0 (.slice (some ⟨gg, 0, none⟩) (k + 1) cap), by simp [World.setCell, Array.getElem?_modify, hP6]⟩
  · rw [← HD, if_neg (by rw [hr]; simp), if_neg (by rw [hno]; simp)]

theorem Loop.start (w : World) (lo hi : Nat) (ts : List Tm) : Loop w lo hi ts 0 ((w.alloc (.map #[] 0)).alloc (.cells #[.slice none 0 0, .map (some w.heap.size)] 50)) := by
  have hB : Below w.heap.size w ((w.alloc (.map #[] 0)).alloc (.cells #[.slice none 0 0, .map (some w.heap.size)] 50)) := ((Below.refl _ _).alloc (Nat.le_refl _) _).alloc (by simp) _
  refine ⟨hB, ?_, ⟨.slice none 0 0, [], by simp [go_sem], World.ownsRow_nil _ _ _ _, OwnTm.nil _ _⟩, by simp [go_sem], by simp [go_sem], ⟨#[.slice none 0 0, .map (some w.heap.size)], ?_⟩, rfl⟩
  · exact (MapN.made w).kept (Below.heap_alloc _ _ _ (by simp))
  · have := heap_alloc_new (w.alloc (.map #[] 0)) (.cells #[.slice none 0 0, .map (some w.heap.size)] 50)
    simpa using this

theorem Loop.done {w : World} {lo hi : Nat} {ts : List Tm} {wr : World} (h : Loop w lo hi ts ts.length wr) : SchemaAt w.heap.size wr.heap.size wr (.pointer (some ⟨w.heap.size + 1, 0, none⟩)) ts := by
  obtain ⟨lv, vs, h1, h2, h3⟩ := h.list
  obtain ⟨cs, hcs⟩ := h.type
  have hp : w.heap.size + 1 < wr.heap.size := (Array.getElem?_eq_some_iff.1 hcs).1
  rw [List.take_length] at h3
  obtain ⟨A, c, hv, hc, _, hr⟩ := rdC_own h2
  have hm := h.map
  rw [List.take_length] at hm
  exact ⟨w.heap.size + 1, w.heap.size, lv, ts.length, rfl, by omega, hp, h1, h.cell1, Nat.le_refl _, by omega, ⟨A, c, vs, hv, hc, hr, h3.are⟩, hm⟩

set_option maxHeartbeats 800000 in
theorem new_short (v : Value) (ts : List Tm) (lo hi : Nat) (w : World) (h : RdT lo hi w v ts) (hhi : hi ≤ w.heap.size) (hl : ts.length ≤ 16)
    (hsz : ∀ t ∈ ts, t.n.size ≤ maxLen ∧ ∀ f ∈ t.s, f.n.size ≤ maxLen) :
    Calls Try.prog 8 #[v] w (NewPost ts w) := by
  obtain ⟨A, c, vs, rfl, hc, hr, hvs⟩ := h
  obtain ⟨n, hn⟩ : ∃ n, n = ts.length := ⟨_, rfl⟩
  rw [← hn] at hl hc ⊢
  have hl' : decide ((16 : Int) < (n : Int)) = false := by simp; omega
  have hmm := @run_makeMap Try.prog
  have HN := Lib.hid hn
  have HR := Lib.hid hr
  have HV := Lib.hid hvs
  have HS := Lib.hid hsz
  clear hn hr hvs hsz
  obtain ⟨i0, hi0, hiz, his, hib⟩ := info_parts infoT
  go_enter Try.func8, Try.ntmps8
  go_wp2_with fail
  go_loopw [6, 7, 8, 9, 18] (fun _ _ _ _ i wr => ∃ k : Nat, k ≤ n ∧ i = .int .i64 k ∧ Loop w lo hi ts k wr) (fun _ _ _ _ i _ => n - (intOf i).toNat)
  case atStart => exact ⟨0, by omega, rfl, Loop.start w lo hi ts⟩
  case round =>
    obtain ⟨k, hk, rfl, hLp⟩ := hrel
    by_cases hlt : k < n
    · obtain ⟨lv, vs2, hlv, hown, hOT⟩ := hLp.list
      have hKp : Kept lo hi w wr := Kept.of_below hLp.below lo hhi
      obtain ⟨ad, hA, hlo, hhi2, c0, c1⟩ := (HR.out.kept hKp).tm k (by rw [HV.out.1, ← HN.out]; exact hlt)
      subst hA
      obtain ⟨hname, hslots⟩ := (HV.out.kept hKp).2 k (by rw [← HN.out]; exact hlt)
      rw [hname] at c0
      obtain ⟨sv, hsv⟩ : ∃ sv, sv = (vs.getD k default).2 := ⟨_, rfl⟩
      rw [← hsv] at c1 hslots
      have hmem : ts.getD k default ∈ ts := by
        have : k < ts.length := by rw [← HN.out]; exact hlt
        simp [List.getD_eq_getElem?_getD, List.getElem?_eq_getElem this]
      have hsz1 := HS.out _ hmem
      have hd := newGo_drop ts k (by rw [← HN.out]; exact hlt)
      have htk := takeT_snoc ts k (by rw [← HN.out]; exact hlt)
      obtain ⟨t, ht⟩ : ∃ t, t = ts.getD k default := ⟨_, rfl⟩
      rw [← ht] at c0 hslots hsz1 hd htk
      obtain ⟨s, fs⟩ := t
      simp only at c0 hslots hsz1 hd htk
      obtain ⟨hs1, hs2⟩ := hsz1
      have HD := Lib.hid (hd.symm.trans hLp.left)
      have HS2 := Lib.hid hs2
      have HT := Lib.hid htk
      clear hd htk ht hs2 hsv hname hmem
      have hslots2 := hslots
      obtain ⟨A2, c2, hsv2, _, _⟩ := hslots2
      subst hsv2
      have HSL := Lib.hid hslots
      clear hslots
      go_wp2_with fail
      have hkey := keyS hs1
      have hb1 : Below wr.heap.size wr (wr.alloc (Obj.cells #[Value.string s, Value.slice A2 fs.length c2] 31)) := (Below.refl _ _).alloc (Nat.le_refl _) _
      have hz1 : w.heap.size + 1 < wr.heap.size := by have := World.block_lt_of_cell? wr _ hLp.cell1; exact this
      have t0 : (wr.alloc (Obj.cells #[Value.string s, Value.slice A2 fs.length c2] 31)).cell? ⟨wr.heap.size, 0, none⟩ = some (.string s) := by simp [go_sem]
      have t1 : (wr.alloc (Obj.cells #[Value.string s, Value.slice A2 fs.length c2] 31)).cell? ⟨wr.heap.size, 1, none⟩ = some (.slice A2 fs.length c2) := by simp [go_sem]
      have p1 := (hb1.cell (p := ⟨w.heap.size + 1, 1, none⟩) hz1).trans hLp.cell1
      have hM1 : MapN (wr.alloc (Obj.cells #[Value.string s, Value.slice A2 fs.length c2] 31)) w.heap.size k (placeM (ts.take k)) := hLp.map.kept (hb1.block _ (by omega))
      have hsize : (wr.alloc (Obj.cells #[Value.string s, Value.slice A2 fs.length c2] 31)).heap.size = wr.heap.size + 1 := by simp
      obtain ⟨W1, hW1⟩ : ∃ W1, W1 = wr.alloc (Obj.cells #[Value.string s, Value.slice A2 fs.length c2] 31) := ⟨_, rfl⟩
      rw [← hW1] at hb1 t0 t1 p1 hM1 hsize ⊢
      clear hW1
      have hrun := hM1.lookN hs1
      have hth := placeM_some (ts.take k) s
      rw [hth] at hrun
      obtain ⟨c3, hc3⟩ : ∃ c3, c3 = (placeM (ts.take k) s.data.toList).getD 0 := ⟨_, rfl⟩
      obtain ⟨th, hth2⟩ : ∃ th, th = isThere (ts.take k) s := ⟨_, rfl⟩
      rw [← hc3, ← hth2] at hrun
      have HTH := Lib.hid hth2
      clear hc3 hth hth2
      go_quiet (fail)
      have hb2 : Below wr.heap.size wr (W1.drewN nq) := ⟨hb1.os, hb1.tape, hb1.output, hb1.size, hb1.block⟩
      have hM2 : MapN (W1.drewN nq) w.heap.size k (placeM (ts.take k)) := hM1.kept rfl
      have t0' : (W1.drewN nq).cell? ⟨wr.heap.size, 0, none⟩ = some (.string s) := t0
      have t1' : (W1.drewN nq).cell? ⟨wr.heap.size, 1, none⟩ = some (.slice A2 fs.length c2) := t1
      have hsize' : (W1.drewN nq).heap.size = wr.heap.size + 1 := hsize
      clear t0 t1 hsize hM1 hb1 hrun p1
      generalize W1.drewN nq = W2 at *
      have HZ := Lib.hid hsize'
      clear hsize'
      have hKw : Kept lo hi wr W2 := Kept.of_below hb2 lo (by have := hLp.below.size; omega)
      have cR := right_calls ⟨s, fs⟩ (.slice A2 fs.length c2) lo hi W2 (HSL.out.kept hKw) (by have := hLp.below.size; have := hb2.size; omega) HS2.out
      cases hrb : rightB ⟨s, fs⟩
      · rw [hrb] at cR
        have HRB := Lib.hid hrb
        clear hrb
        go_wp2_with fail
        refine cR.mono ?_; rintro e w3 ⟨rfl, hb3⟩
        go_wp2_with fail
        go_ret3
        exact ⟨hLp.below.trans ((hb2.mono hLp.below.size).trans (hb3.mono (by have := hb2.size; have := hLp.below.size; omega))), Or.inl ⟨12, k, by unfold newRes; rw [if_neg (by rw [← HN.out]; omega), ← HD.out, HRB.out]; rfl, rfl⟩⟩
      · rw [hrb] at cR
        have HRB := Lib.hid hrb
        clear hrb
        cases th
        · go_wp2_with fail
          refine cR.mono ?_; rintro e w3 ⟨rfl, hb3⟩
          have hB3 : Below wr.heap.size wr w3 := hb2.trans (hb3.mono hb2.size)
          have hs3 : wr.heap.size + 1 ≤ w3.heap.size := by have := hb3.size; rw [HZ.out] at this; exact this
          have t03 := (hb3.cell (p := ⟨wr.heap.size, 0, none⟩) (by rw [HZ.out]; simp)).trans t0'
          have t13 := (hb3.cell (p := ⟨wr.heap.size, 1, none⟩) (by rw [HZ.out]; simp)).trans t1'
          have p13 := (hB3.cell (p := ⟨w.heap.size + 1, 1, none⟩) hz1).trans hLp.cell1
          have hM3 : MapN w3.drew w.heap.size k (placeM (ts.take k)) := (hM2.kept (hb3.block _ (by rw [HZ.out]; omega))).kept rfl
          obtain ⟨w4, hup, hM4, hg4⟩ := hM3.store hs1 (by omega) (k : Int) (by omega) (by omega)
          clear hb3 hM2 hM3 t0' t1'
          go_wp2_with fail
          go_region
          have hg4' := grown_drew hg4
          have hG4 : wr.grownBy w4 (some w.heap.size) := grown_trans (grown_of_below hB3 _) hg4'
          obtain ⟨es, clock, hobj⟩ := hLp.map.obj
          have hne0 : w.heap.size + 1 ≠ w.heap.size := by omega
          have t04 := (grown_cell hg4' (p := ⟨wr.heap.size, 0, none⟩) (by simp; omega) (by simp; omega)).trans t03
          have t14 := (grown_cell hg4' (p := ⟨wr.heap.size, 1, none⟩) (by simp; omega) (by simp; omega)).trans t13
          have p04 := (grown_cell hG4 (p := ⟨w.heap.size + 1, 0, none⟩) hz1 (by simp)).trans hlv
          have p14 := (grown_cell hG4 (p := ⟨w.heap.size + 1, 1, none⟩) hz1 (by simp)).trans hLp.cell1
          have f04 := (grown_frozen hG4 (p := ⟨w.heap.size + 1, 0, none⟩) hz1 (by simp)).trans hLp.frozen
          have hL4 := own_past_map hown hobj hG4
          have hOT4 := hOT.past_map hobj hG4
          have hs4 : wr.heap.size + 1 ≤ w4.heap.size := by have := hg4'.size; omega
          have hneP : lv.ownBlock ≠ some (w.heap.size + 1) := by
            intro e
            obtain ⟨cur, h1⟩ := own_block hown e
            obtain ⟨cs, h2⟩ := hLp.type
            rw [h1] at h2; cases h2
          have hneT : lv.ownBlock ≠ some wr.heap.size := by
            intro e
            obtain ⟨cur, h1⟩ := own_block hown e
            exact absurd (Array.getElem?_eq_some_iff.1 h1).1 (Nat.lt_irrefl _)
          have hK4 : Kept lo hi wr w4 := Kept.grown hG4 (by have := hLp.below.size; omega) (fun j hj => by cases hj; exact Or.inr hhi)
          have hle : fs.length ≤ 8 := by
            have h1 := HRB.out
            unfold rightB at h1
            simp only [Bool.and_eq_true, decide_eq_true_eq] at h1
            exact h1.1.2
          have HLE := Lib.hid hle
          clear hg4 t03 t13 p13 hup hobj hle
          go_wp2_with fail
          have hRd : RdF lo hi w4.drew (.slice A2 fs.length c2) fs := HSL.out.kept (hK4.trans (Kept.of_below (Below.refl w4.heap.size w4).drew lo (by have := hLp.below.size; omega)))
          have hhi4 : hi ≤ w4.drew.heap.size := by have := hLp.below.size; simp; omega
          have hle6 : fs.length ≤ 1000000 := by have := HLE.out; omega
          have HRd := Lib.hid hRd
          clear hRd
          have hk5 : ∀ w5, Below w4.drew.heap.size w4.drew w5 → w5.cell? ⟨w.heap.size + 1, 0, none⟩ = some lv ∧ w5.cell? ⟨wr.heap.size, 0, none⟩ = some (.string s) ∧ w5.cell? ⟨wr.heap.size, 1, none⟩ = some (.slice A2 fs.length c2) ∧ w5.frozen? ⟨w.heap.size + 1, 0, none⟩ = false ∧ wr.heap.size + 1 ≤ w5.heap.size ∧ w5.ownsRow w.heap.size 31 2 lv k (cellsT vs2) ∧ (∀ o, (w5.alloc o).cell? ⟨w.heap.size + 1, 0, none⟩ = some lv) := fun w5 hb5 =>
            ⟨(hb5.cell (p := ⟨w.heap.size + 1, 0, none⟩) (by simp; omega)).trans p04, (hb5.cell (p := ⟨wr.heap.size, 0, none⟩) (by simp; omega)).trans t04, (hb5.cell (p := ⟨wr.heap.size, 1, none⟩) (by simp; omega)).trans t14,
              (hb5.frozen (p := ⟨w.heap.size + 1, 0, none⟩) (by simp; omega)).trans f04, by have := hb5.size; simp at this; omega, own_below (own_same hL4 (w' := w4.drew) (fun _ _ _ _ => rfl)) hb5, fun o => (((Below.refl w5.heap.size w5).alloc (Nat.le_refl _) o).cell (p := ⟨w.heap.size + 1, 0, none⟩) (by have h5 := hb5.size; have e5 : w4.drew.heap.size = w4.heap.size := rfl; simp only; omega)).trans ((hb5.cell (p := ⟨w.heap.size + 1, 0, none⟩) (by simp; omega)).trans p04)⟩
          have HK5 := Lib.hid hk5
          clear hk5
          have hk6 : ∀ (w5 w6 : World) (o : Obj), wr.heap.size + 1 ≤ w5.heap.size → w5.cell? ⟨w.heap.size + 1, 0, none⟩ = some lv → w5.cell? ⟨wr.heap.size, 0, none⟩ = some (.string s) → w5.cell? ⟨wr.heap.size, 1, none⟩ = some (.slice A2 fs.length c2) → w5.frozen? ⟨w.heap.size + 1, 0, none⟩ = false → (w5.alloc o).grownBy w6 lv.ownBlock →
              w6.cell? ⟨w.heap.size + 1, 0, none⟩ = some lv ∧ w6.cell? ⟨wr.heap.size, 0, none⟩ = some (.string s) ∧ w6.cell? ⟨wr.heap.size, 1, none⟩ = some (.slice A2 fs.length c2) ∧ w6.frozen? ⟨w.heap.size + 1, 0, none⟩ = false := fun w5 w6 o h5 a1 a2 a3 a4 hgrow =>
            have hgr := grown_alloc hgrow
            ⟨(grown_cell hgr (p := ⟨w.heap.size + 1, 0, none⟩) (by simp; omega) (Ne.symm hneP)).trans a1, (grown_cell hgr (p := ⟨wr.heap.size, 0, none⟩) (by simp; omega) (Ne.symm hneT)).trans a2, (grown_cell hgr (p := ⟨wr.heap.size, 1, none⟩) (by simp; omega) (Ne.symm hneT)).trans a3, (grown_frozen hgr (p := ⟨w.heap.size + 1, 0, none⟩) (by simp; omega) (Ne.symm hneP)).trans a4⟩
          have HK6 := Lib.hid hk6
          clear hk6
          have hk63 : k + 1 ≤ maxLen := by unfold maxLen; omega
          have hkb : (k + 1) * 40 ≤ 140737488355328 := by omega
          go_region_law (first
              | (refine step_append_lies _ (by rfl) _ _ _ (by rfl) w.heap.size 31 i0 _ 2 40 Try.underlying22 hi0 hiz his hib rfl (by omega) lv k (cellsT vs2) (by rfl) (hL5.alloc _) ⟨w5.heap.size, 0, none⟩ 1 1 [.string s, .slice A5 fs.length c5] (by rfl) (by rfl) (World.news_of_block (cs := #[.string s, .slice A5 fs.length c5]) (t := 31) (fr := (0, 0)) (heap_alloc_new w5 _)) (by simp [Value.oneCell']) (by omega) hk63 hkb (by simp; omega) (w5.heap.size + 1) (by simp) ?_; intro gg cap w6 hown6 hgrow hat hltg; obtain ⟨k61, k62, k63, k6f⟩ := HK6.out w5 w6 _ hs5 k51 k52 k53 k5f hgrow)
              | (go_simp; go_at_call 19; refine (own_calls s (.slice A2 fs.length c2) fs lo hi _ HRd.out hhi4 hle6).mono ?_; rintro e w5 ⟨⟨v', rfl, ho5⟩, hb5⟩; obtain ⟨A5, c5, hv5, _, _, _⟩ := rdC_own ho5; subst hv5; obtain ⟨k51, k52, k53, k5f, hs5, hL5, k5a⟩ := HK5.out w5 hb5))
          all_goals
            have hS := Loop.step hLp (by rw [← HN.out]; exact hlt) HT.out HRB.out HTH.out.symm HD.out hown hOT hG4 hM4 (below_drew'' hb5) ho5 hown6 hgrow k61 k6f
            go_wp2_with fail
            go_roundw
            case rel => exact ⟨k + 1, by omega, by go_num, hS⟩
            case measure => simp [intOf]; omega
        · go_wp2_with fail
          refine cR.mono ?_; rintro e w3 ⟨rfl, hb3⟩
          go_wp2_with fail
          go_ret3
          exact ⟨hLp.below.trans ((hb2.mono hLp.below.size).trans (hb3.mono (by have := hb2.size; have := hLp.below.size; omega))), Or.inl ⟨4, k, by unfold newRes; rw [if_neg (by rw [← HN.out]; omega), ← HD.out, HRB.out, ← HTH.out]; rfl, rfl⟩⟩
    · have hkn : k = n := by omega
      subst hkn
      have hfin : newRes ts = none := by
        unfold newRes
        rw [if_neg (by rw [← HN.out]; omega), ← hLp.left, List.drop_eq_nil_of_le (by rw [← HN.out]; exact Nat.le_refl _)]
        rfl
      have hdone : SchemaAt w.heap.size wr.heap.size wr (.pointer (some ⟨w.heap.size + 1, 0, none⟩)) ts := Loop.done (lo := lo) (hi := hi) (HN.out ▸ hLp)
      have HF := Lib.hid hfin
      have HDn := Lib.hid hdone
      clear hfin hdone
      go_wp2_with fail
      go_ret3
      exact ⟨hLp.below, Or.inr ⟨HF.out, _, rfl, HDn.out⟩⟩

/-- What New answers, for any templates. -/
theorem new_calls (v : Value) (ts : List Tm) (lo hi : Nat) (w : World) (h : RdT lo hi w v ts) (hhi : hi ≤ w.heap.size) (hsz : ∀ t ∈ ts, t.n.size ≤ maxLen ∧ ∀ f ∈ t.s, f.n.size ≤ maxLen) :
    Calls Try.prog 8 #[v] w (NewPost ts w) := by
  rcases Nat.lt_or_ge 16 ts.length with hl | hl
  · exact new_long v ts lo hi w h hl
  · exact new_short v ts lo hi w h hhi hl hsz

end Go.Proofs.Ytkableklofokdaa

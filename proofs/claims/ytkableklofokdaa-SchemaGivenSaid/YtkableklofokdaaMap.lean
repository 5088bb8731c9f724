/- A map from texts to ints that the call itself made, as a partial function; what a store makes of it. -/
import Derived.Test.YtkableklofokdaaMem
import Derived.Deep.Draws
set_option linter.unusedSimpArgs false
set_option linter.unusedVariables false
namespace Go.Proofs.Ytkableklofokdaa
open Go Go.RowKit Go.Maps Go.WideMaps

theorem lawS : Keyed Try.prog 9 := string_keyed Try.underlying9
theorem zeroI (w : World) : (zeroValue 3).run Try.prog w = .ok (.int .i64 0) w := by kernel_rfl
theorem keyS {s : ByteArray} (h : s.size ≤ maxLen) : keyOf Try.prog 9 (.string s) = some (.string s.data.toList) := keyOf_string_mk Try.underlying9 h

/-- Block M is a map of at most n entries, from texts to ints, that says m. -/
def MapN (w : World) (M n : Nat) (m : List UInt8 → Option Int) : Prop :=
  ∃ D : DataW Unit, w.ownsMap Try.prog 9 (plainElem Try.prog 3) M n D ∧ IsMap D ∧ ∀ k, Maps.has D (.string k) = (m k).isSome ∧ D.atKey (.string k) (.lit (.int .i64 0)) = .lit (.int .i64 ((m k).getD 0))

theorem MapN.kept {w w' : World} {M n : Nat} {m : List UInt8 → Option Int} (h : MapN w M n m) (hk : w'.heap[M]? = w.heap[M]?) : MapN w' M n m := by
  obtain ⟨D, ⟨es, clock, h1, h2⟩, h3⟩ := h
  exact ⟨D, ⟨es, clock, by rw [hk]; exact h1, h2⟩, h3⟩
theorem MapN.lt {w : World} {M n : Nat} {m : List UInt8 → Option Int} (h : MapN w M n m) : M < w.heap.size := by
  obtain ⟨D, h1, _⟩ := h; exact h1.lt
theorem MapN.made (w : World) : MapN (w.alloc (.map #[] 0)) w.heap.size 0 (fun _ => none) :=
  ⟨.map [], World.ownsMap_made _ _ _ _, isMap_empty, fun k => ⟨rfl, rfl⟩⟩

/-- The map with a text put to a number. -/
def putM (m : List UInt8 → Option Int) (s : List UInt8) (c : Int) : List UInt8 → Option Int := fun k => if k = s then some c else m k
theorem MapN.of_put {w : World} {M n : Nat} {m : List UInt8 → Option Int} {D : DataW Unit} (hD : IsMap D) (hm : ∀ k, Maps.has D (.string k) = (m k).isSome ∧ D.atKey (.string k) (.lit (.int .i64 0)) = .lit (.int .i64 ((m k).getD 0)))
    {s : List UInt8} {c : Int} (h : w.ownsMap Try.prog 9 (plainElem Try.prog 3) M n (D.put (.string s) (.lit (.int .i64 c)))) : MapN w M n (putM m s c) := by
  refine ⟨_, h, hD.put _ _, fun k => ?_⟩
  unfold putM
  by_cases hk : k = s
  · subst hk
    rw [if_pos rfl, has_put_same hD (by trivial), atKey_put_same hD (by trivial)]
    exact ⟨rfl, rfl⟩
  · rw [if_neg hk, has_put_other (fun e => hk (by injection e)), atKey_put_other (fun e => hk (by injection e))]
    exact hm k

theorem MapN.look {w : World} {M n : Nat} {m : List UInt8 → Option Int} (h : MapN w M n m) {s : ByteArray} (hs : s.size ≤ maxLen) :
    (Instr.lookup 48 (.map (some M)) (.string s) true).run Try.prog w = .ok (.tuple #[.int .i64 ((m s.data.toList).getD 0), .bool (m s.data.toList).isSome]) w := by
  obtain ⟨D, hown, hD, hall⟩ := h
  obtain ⟨v, ps, hrun, hv⟩ := hown.look_ok lawS Try.underlying48 (zeroI w) (plainElem_int Try.underlying3 (by decide)) (keyS hs)
  obtain ⟨c, rfl, hc, _⟩ := plainElem_int_inv Try.underlying3 hv
  have h1 := congrArg Prod.fst hc
  simp only at h1
  rw [(hall s.data.toList).2] at h1
  injection h1 with h1; injection h1 with _ h1
  rw [hrun, (hall s.data.toList).1, ← h1]
theorem MapN.lookN {w : World} {M n : Nat} {m : List UInt8 → Option Int} (h : MapN w M n m) {s : ByteArray} (hs : s.size ≤ maxLen) (q : Nat) :
    (Instr.lookup 48 (.map (some M)) (.string s) true).run Try.prog (w.drewN q) = .ok (.tuple #[.int .i64 ((m s.data.toList).getD 0), .bool (m s.data.toList).isSome]) (w.drewN q) := (h.kept (w' := w.drewN q) rfl).look hs

theorem MapN.store {w : World} {M n : Nat} {m : List UInt8 → Option Int} (h : MapN w M n m) {s : ByteArray} (hs : s.size ≤ maxLen) (hn : n ≤ 1000) (c : Int) (hc0 : 0 ≤ c) (hc1 : c ≤ 100000) :
    ∃ w', (Instr.mapUpdate 48 (.map (some M)) (.string s) (.int .i64 c)).run Try.prog w = .ok () w' ∧ MapN w' M (n + 1) (putM m s.data.toList c) ∧ w.grownBy w' (some M) := by
  obtain ⟨D, hown, hD, hall⟩ := h
  obtain ⟨w', h1, h2, h3⟩ := hown.update lawS Try.underlying48 (by unfold maxLen; omega) (keyS hs) (plainElem_int Try.underlying3 (a := c) (by exact WalkArith.wf_i64 (by omega)))
  exact ⟨w', h1, MapN.of_put hD hall h2, h3⟩

theorem MapN.look1 {w : World} {M n : Nat} {m : List UInt8 → Option Int} (h : MapN w M n m) {s : ByteArray} (hs : s.size ≤ maxLen) :
    (Instr.lookup 48 (.map (some M)) (.string s) false).run Try.prog w = .ok (.int .i64 ((m s.data.toList).getD 0)) w := by
  obtain ⟨D, hown, hD, hall⟩ := h
  obtain ⟨c, hrun, hat, _⟩ := hown.lookup_int lawS Try.underlying48 Try.underlying3 (zeroI w) (keyS hs)
  rw [(hall s.data.toList).2] at hat
  injection hat with h1; injection h1 with _ h1
  rw [hrun, h1]
theorem MapN.look1N {w : World} {M n : Nat} {m : List UInt8 → Option Int} (h : MapN w M n m) {s : ByteArray} (hs : s.size ≤ maxLen) (q : Nat) :
    (Instr.lookup 48 (.map (some M)) (.string s) false).run Try.prog (w.drewN q) = .ok (.int .i64 ((m s.data.toList).getD 0)) (w.drewN q) := (h.kept (w' := w.drewN q) rfl).look1 hs

end Go.Proofs.Ytkableklofokdaa

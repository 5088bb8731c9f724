/- The walk of the law SchemaGiven. -/
import Derived.Test.YtkableklofokdaaGivenP
import Derived.Lib.QuietBelow
set_option linter.unusedSimpArgs false
set_option linter.unusedVariables false
namespace Go.Proofs.Ytkableklofokdaa
open Go Go.RowKit Go.Maps Go.WideMaps Go.Sort

theorem are_one {W : World} {s : ByteArray} {v : Value} {fs : List Fd} {lo hi : Nat} (hr : RdF lo hi W v fs) : ∀ i, i < [(⟨s, fs⟩ : Tm)].length → IsTm lo hi W ([(s, v)].getD i default) ([(⟨s, fs⟩ : Tm)].getD i default) := by
  intro i hi
  have : i = 0 := by simp at hi; omega
  subst this; exact ⟨rfl, hr⟩
theorem rdT_one {W : World} {g : Nat} {s : ByteArray} {v : Value} {fs : List Fd} {t : TypeId} {fr : Nat × Nat} {lo hi : Nat} (h : W.heap[g]? = some (.cells #[.string s, v] t fr)) (hr : RdF lo hi W v fs) (h1 : lo ≤ g) (h2 : g < hi) : RdT lo hi W (.slice (some ⟨g, 0, none⟩) 1 1) [⟨s, fs⟩] :=
  ⟨some ⟨g, 0, none⟩, 1, [(s, v)], rfl, Nat.le_refl _, rdC_block (cs := cellsT [(s, v)]) h lo hi h1 h2, rfl, are_one hr⟩
theorem rdT_sub {w : World} {ad : Addr} {k c : Nat} {s : ByteArray} {sv : Value} {fs : List Fd} {lo hi : Nat} (h0 : w.cell? (ad.add (k * 2)) = some (.string s)) (h1 : w.cell? ⟨(ad.add (k * 2)).block, (ad.add (k * 2)).off + 1, none⟩ = some sv)
    (hb : lo ≤ ad.block) (hb2 : ad.block < hi) (hr : RdF lo hi w sv fs) (hc : 1 ≤ c) : RdT lo hi w (.slice (some (ad.add (k * 2))) 1 c) [⟨s, fs⟩] := by
  refine ⟨some (ad.add (k * 2)), c, [(s, sv)], rfl, hc, fun j v hj => ⟨_, rfl, by rw [add_block]; exact hb, by rw [add_block]; exact hb2, ?_⟩, rfl, are_one hr⟩
  have e : (ad.add (k * 2 + 1)) = ⟨(ad.add (k * 2)).block, (ad.add (k * 2)).off + 1, none⟩ := by
    unfold Addr.add
    rw [if_neg (by omega)]
    by_cases hz : k * 2 = 0
    · rw [if_pos hz, hz]
    · rw [if_neg hz]; simp [Nat.add_assoc]
  match j, hj with
  | 0, hj => simp [cellsT] at hj; subst hj; rw [add_add]; exact h0
  | 1, hj => simp [cellsT] at hj; subst hj; rw [add_add, e]; exact h1
  | j + 2, hj => simp [cellsT] at hj

set_option maxRecDepth 20000 in
set_option maxHeartbeats 4000000 in
theorem given_calls (A : Option Addr) (n c : Nat) (ts : List Tm) (w : World) (h : RdT 0 w.heap.size w (.slice A n c) ts) (hA : A = none → c = 0) (hn : n = ts.length) (hm : n ≤ maxLen) (hsz : Sized ts) :
    Calls Try.prog 3 #[.slice A n c] w fun e w' => e = .returned (.bool true) ∧ Below w.heap.size w w' := by
  have HN := Lib.hid hn
  have HH := Lib.hid h
  have HZ := Lib.hid hsz
  have hcc : n ≤ c := by obtain ⟨A', c', vs, h1, h2, _⟩ := h; cases h1; omega
  clear h hsz hn
  go_enter Try.func3, Try.ntmps3
  go_wp2_with fail
  refine (head_calls _).mono ?_; rintro e w1 ⟨rfl, hb1⟩
  go_wp2_with fail
  have hR1 := HH.out.kept (Kept.of_below hb1 0 (Nat.le_refl _))
  cases hr : newRes ts with
  | some x =>
    obtain ⟨er, m⟩ := x
    have he := newRes_err hr
    have hd : (er != 0) = true := by simp [he]
    refine (new_some _ ts er m _ _ w1 hR1 hb1.size HZ.out.two hr).mono ?_; rintro e w2 ⟨rfl, hb2⟩
    have hB2 := hb1.trans (hb2.mono hb1.size)
    clear hR1 hb2 hr
    go_wp2_with fail
    go_ret
    exact ⟨rfl, hB2⟩
  | none =>
    refine (new_none _ ts _ _ w1 hR1 hb1.size HZ.out.two hr).mono ?_; rintro e w2 ⟨⟨g, rfl, hS⟩, hb2⟩
    have hB2 := hb1.trans (hb2.mono hb1.size)
    have HS := Lib.hid hS
    have HR := Lib.hid hr
    have hn16 : n ≤ 16 := by have := (newRes_none hr).1; rw [HN.out]; exact this
    clear hR1 hb2 hr hS
    go_wp2_with fail
    refine (great_calls _ ts 0 w.heap.size w2 (HH.out.kept (Kept.of_below hB2 0 (Nat.le_refl _))) hB2.size (by rw [← HN.out]; exact hm) HZ.out).mono ?_; rintro e w3 ⟨⟨b, rfl, _⟩, hb3⟩
    have hB3 := hB2.trans (hb3.mono hB2.size)
    cases b
    · have HS3 := Lib.hid (HS.out.kept (Kept.of_below hb3 _ (Nat.le_refl _)))
      have H3 := Lib.hid hb3.size
      clear HS hb3 hB2 hb1
      go_wp2_with fail
      go_loopw [7] (fun i wr => ∃ k : Nat, k ≤ n ∧ i = .int .i64 k ∧ Below w3.heap.size w3 wr) (fun i _ => n - (intOf i).toNat)
      case atStart => exact ⟨0, by omega, rfl, Below.refl _ _⟩
      case round =>
        obtain ⟨k, hk, rfl, hb⟩ := hrel
        have hB := hB3.trans (hb.mono hB3.size)
        by_cases hlt : k < n
        · have hkt : k < ts.length := by rw [← HN.out]; exact hlt
          have hKp := HH.out.kept (Kept.of_below hB 0 (Nat.le_refl _))
          obtain ⟨A', c', vs, h1, -, hrc, hvs⟩ := hKp
          simp only [Value.slice.injEq] at h1
          obtain ⟨rfl, -, rfl⟩ := h1
          obtain ⟨ad, hA2, _, hab, c0, c1⟩ := hrc.tm k (by rw [hvs.1]; exact hkt)
          subst hA2
          obtain ⟨hname, hslots⟩ := hvs.2 k hkt
          have hz := HZ.out (ts.getD k default) (by rw [getD_at hkt]; exact List.getElem_mem hkt)
          have hl8 := (newRes_none HR.out).2 (ts.getD k default) (by rw [getD_at hkt]; exact List.getElem_mem hkt)
          have hfind := findD_at HR.out k hkt
          have hisT := isThere_at (ts := ts) k hkt
          have hslt : ∀ y, y < (ts.getD k default).s.length → slotR ts (ts.getD k default).n ((ts.getD k default).s.getD y default).n = y ∧ hasSlot ts (ts.getD k default).n ((ts.getD k default).s.getD y default).n = true ∧ typeI ts (ts.getD k default).n ((ts.getD k default).s.getD y default).n = ((ts.getD k default).s.getD y default).t :=
            fun y hy => ⟨slotR_at HR.out k hkt y hy, hasSlot_at HR.out k hkt y hy, typeI_at HR.out k hkt y hy⟩
          rw [hname] at c0
          generalize hsv : (vs.getD k default).2 = sv at c1 hslots
          generalize hte : ts.getD k default = t at c0 hslots hz hl8 hfind hisT hslt
          obtain ⟨s, fs⟩ := t
          simp only at c0 hslots hz hl8 hfind hisT hslt
          have hSr := HS3.out.kept (Kept.of_below hb _ H3.out)
          have cF := find_calls _ ts s _ _ wr hSr (by have := H3.out; have := hb.size; omega) hz.1 (by have := (newRes_none HR.out).1; omega) (fun t ht => by have := (newRes_none HR.out).2 t ht; omega)
          rw [hfind, hisT] at cF
          simp only at cF
          have HSL := Lib.hid hslots
          have HSZ := Lib.hid hz
          have HST := Lib.hid hslt
          have HC0 := Lib.hid c0
          have HC1 := Lib.hid c1
          have HT := Lib.hid hte
          have HF := Lib.hid hfind
          clear hname hslots hz hfind hisT hslt hrc hvs hsv hte hSr hkt
          go_wp2_with fail
          refine cF.mono ?_; rintro e w4 ⟨⟨v', rfl, ho⟩, hb4⟩
          obtain ⟨A5, c5, hv5, _, _, _⟩ := rdC_own ho
          subst hv5
          go_wp2_with fail
          have hro : RdF 0 w4.heap.size w4 (.slice A5 fs.length c5) fs := by
            obtain ⟨A6, c6, hv6, hc6, _, hr6⟩ := rdC_own ho
            cases hv6
            exact ⟨A5, c5, rfl, hc6, hr6.mono (Nat.zero_le _) (Nat.le_refl _)⟩
          have hX : Below w4.heap.size w4 (w4.alloc (.cells #[.string s, .slice A5 fs.length c5] 31)) := (Below.refl _ _).alloc (Nat.le_refl _) _
          have hB4 := hb.trans ((hb4.trans (hX.mono hb4.size)).mono hb.size)
          have hro2 := hro.kept (Kept.of_below hX 0 (Nat.le_refl _))
          have x0 : (w4.alloc (.cells #[.string s, .slice A5 fs.length c5] 31)).cell? ⟨w4.heap.size, 0, none⟩ = some (.string s) := by simp [go_sem]
          have x1 : (w4.alloc (.cells #[.string s, .slice A5 fs.length c5] 31)).cell? ⟨w4.heap.size, 1, none⟩ = some (.slice A5 fs.length c5) := by simp [go_sem]
          have hz4 : w4.heap.size ≤ (w4.alloc (.cells #[.string s, .slice A5 fs.length c5] 31)).heap.size := hX.size
          generalize hWe : w4.alloc (.cells #[.string s, .slice A5 fs.length c5] 31) = Wb
          rw [hWe] at hB4 hro2 x0 x1 hz4
          clear hWe hX hro ho hb4 cF
          have hBb := hB3.trans (hB4.mono hB3.size)
          have hrs := HSL.out.kept (Kept.of_below (w := wr) (w' := wr) (Below.refl _ _) 0 hB.size)
          have hW6 : Below Wb.heap.size Wb (Wb.drew.alloc (.cells #[.string s, .slice A5 fs.length c5] 31)) := by
            have := (Below.refl Wb.drew.heap.size Wb.drew).alloc (Nat.le_refl _) (.cells #[.string s, .slice A5 fs.length c5] 31)
            exact ⟨this.os, this.tape, this.output, this.size, this.block⟩
          have hB6 := hBb.trans (hW6.mono hBb.size)
          have ha6 : RdT 0 (Wb.drew.alloc (.cells #[.string s, .slice A5 fs.length c5] 31)).heap.size (Wb.drew.alloc (.cells #[.string s, .slice A5 fs.length c5] 31)) (.slice (some ⟨Wb.drew.heap.size, 0, none⟩) 1 1) [⟨s, fs⟩] :=
            rdT_one (heap_alloc_new Wb.drew _) ((hro2.kept (Kept.of_below hW6 0 hz4)).mono (Nat.le_refl _) (Nat.le_trans hz4 hW6.size)) (Nat.zero_le _) (by simp)
          have hslot0 : RdF 0 w.heap.size w sv fs := by
            have h1 := (HH.out.kept (Kept.refl 0 w.heap.size w))
            exact HSL.out.kept (fun i h1 h2 => (hB.block i h2).symm)
          have cc0 : ∀ W, Below w.heap.size w W → W.cell? (ad.add (k * 2)) = some (.string s) ∧ W.cell? ⟨(ad.add (k * 2)).block, (ad.add (k * 2)).off + 1, none⟩ = some sv := fun W hW => by
            have e0 := (hB.cell (p := ad.add (k * 2)) (by rw [add_block]; exact hab)).symm.trans HC0.out
            have e1 := (hB.cell (p := ⟨(ad.add (k * 2)).block, (ad.add (k * 2)).off + 1, none⟩) (by rw [add_block]; exact hab)).symm.trans HC1.out
            exact ⟨(hW.cell (p := ad.add (k * 2)) (by rw [add_block]; exact hab)).trans e0, (hW.cell (p := ⟨(ad.add (k * 2)).block, (ad.add (k * 2)).off + 1, none⟩) (by rw [add_block]; exact hab)).trans e1⟩
          have hb6 : RdT 0 (Wb.drew.alloc (.cells #[.string s, .slice A5 fs.length c5] 31)).heap.size (Wb.drew.alloc (.cells #[.string s, .slice A5 fs.length c5] 31)) (.slice (some (ad.add (k * 2))) 1 (c - k)) [⟨s, fs⟩] :=
            rdT_sub (cc0 _ hB6).1 (cc0 _ hB6).2 (Nat.zero_le _) (Nat.lt_of_lt_of_le hab hB6.size) ((hslot0.kept (Kept.of_below hB6 0 (Nat.le_refl _))).mono (Nat.le_refl _) hB6.size) (by omega)
          have cS := same_calls _ _ [⟨s, fs⟩] _ ha6 hb6 (by unfold maxLen; simp) (fun t ht => by simp at ht; subst ht; exact HSZ.out.2.1)
          have HB6 := Lib.hid hB6
          have CC0 := Lib.hid cc0
          have HW6 := Lib.hid hW6
          have HSO := Lib.hid hslot0
          clear hro2 hrs hB6 ha6 hb6 cc0 hW6 hslot0 hz4 hBb
          have hk1 : k + 1 ≤ c := by omega
          have HCS := Lib.hid cS
          clear cS
          have hx0 : (0 : Int) ≤ (k : Int) := Int.natCast_nonneg _
          have hx16 : (k : Int) ≤ 16 := by omega
          have hxc : (k : Int) + 1 ≤ (c : Int) := by omega
          have hxn : ((k : Int)).toNat = k := by simp
          have hxn1 : ((k : Int) + 1).toNat = k + 1 := by omega
          generalize hx : (k : Int) = x at hx0 hx16 hxc hxn hxn1 ⊢
          have h01 : 0 ≤ x + 1 := by omega
          have hxk : x ≤ (k : Int) + 1 := by omega
          have hck : ¬ c = k := by omega
          have HX := Lib.hid hx
          clear hx
          refine wp_region_any (by kernel_rfl) ?_
          try (change wpAny _ _ _ _ _ _ _ (World.drew _))
          refine wpAny_take (i := 0) (v := .bool true) rfl (by kernel_rfl) (by kernel_rfl) (by kernel_rfl) (fun _ _ _ h => h) (Or.inl ⟨by kernel_rfl, fun W0 => ?_⟩) ?_
          · go_simp
          try simp only [Act.put, List.setIfInBounds_toArray, List.set_cons_zero, List.set_cons_succ]
          refine wpAny_take (i := 1) (v := .bool false) rfl (by kernel_rfl) (by kernel_rfl) (by kernel_rfl) (fun _ _ _ h => h) (Or.inl ⟨by kernel_rfl, fun W0 => ?_⟩) ?_
          · go_simp
          try simp only [Act.put, List.setIfInBounds_toArray, List.set_cons_zero, List.set_cons_succ]
          refine wpAny_take (i := 2) (v := .bool false) rfl (by kernel_rfl) (by kernel_rfl) (by kernel_rfl) (fun _ _ _ h => h) (Or.inl ⟨by kernel_rfl, fun W0 => ?_⟩) ?_
          · go_simp
          try simp only [Act.put, List.setIfInBounds_toArray, List.set_cons_zero, List.set_cons_succ]
          refine wpAny_take (i := 5) (v := .slice (some ad) n c) rfl (by kernel_rfl) (by kernel_rfl) (by kernel_rfl) (fun _ _ _ h => h) (Or.inl ⟨by kernel_rfl, fun W0 => ?_⟩) ?_
          · go_simp
          try simp only [Act.put, List.setIfInBounds_toArray, List.set_cons_zero, List.set_cons_succ]
          refine wpAny_take (i := 6) (v := .int .i64 x) rfl (by kernel_rfl) (by kernel_rfl) (by kernel_rfl) (fun _ _ _ h => h) (Or.inl ⟨by kernel_rfl, fun W0 => ?_⟩) ?_
          · go_simp
          try simp only [Act.put, List.setIfInBounds_toArray, List.set_cons_zero, List.set_cons_succ]
          refine wpAny_take (i := 7) (v := .int .i64 x) rfl (by kernel_rfl) (by kernel_rfl) (by kernel_rfl) (fun _ _ _ h => h) (Or.inl ⟨by kernel_rfl, fun W0 => ?_⟩) ?_
          · go_simp
          try simp only [Act.put, List.setIfInBounds_toArray, List.set_cons_zero, List.set_cons_succ]
          refine wpAny_take (i := 8) (v := .int .i64 (x + 1)) rfl (by kernel_rfl) (by kernel_rfl) (by kernel_rfl) (fun _ _ _ h => h) (Or.inl ⟨by kernel_rfl, fun W0 => ?_⟩) ?_
          · go_simp; rw [Go.IntWalk.i64_in _ (by omega)]
          try simp only [Act.put, List.setIfInBounds_toArray, List.set_cons_zero, List.set_cons_succ]
          refine wpAny_take (i := 9) (v := .slice (some (ad.add (k * 2))) 1 (c - k)) rfl (by kernel_rfl) (by kernel_rfl) (by kernel_rfl) (fun _ _ _ h => h) (Or.inl ⟨by kernel_rfl, fun W0 => ?_⟩) ?_
          · go_simp
          try simp only [Act.put, List.setIfInBounds_toArray, List.set_cons_zero, List.set_cons_succ]
          refine wpAny_ready (rs := [3]) (by kernel_rfl) (by simp) ?_
          refine AllReady.cons rfl (fun K hK => ?_) AllReady.nil
          go_simp
          refine hK _ _ ?_
          clear hK K
          try simp only [Act.put, List.setIfInBounds_toArray, List.set_cons_zero, List.set_cons_succ]
          refine wpAny_ready (rs := [4]) (by kernel_rfl) (by simp) ?_
          refine AllReady.cons rfl (fun K hK => ?_) AllReady.nil
          go_simp
          refine hK _ _ ?_
          clear hK K
          try simp only [Act.put, List.setIfInBounds_toArray, List.set_cons_zero, List.set_cons_succ]
          refine wpAny_ready (rs := [10]) (by kernel_rfl) (by simp) ?_
          refine AllReady.cons rfl (fun K hK => ?_) AllReady.nil
          (go_simp; go_at_call 11; refine HCS.out.mono ?_; rintro e w7 ⟨rfl, hb7⟩)
          try go_simp
          refine hK _ _ ?_
          clear hK K
          try simp only [Act.put, List.setIfInBounds_toArray, List.set_cons_zero, List.set_cons_succ]
          refine wpAny_take (i := 11) (v := .bool false) rfl (by kernel_rfl) (by kernel_rfl) (by kernel_rfl) (fun _ _ _ h => h) (Or.inl ⟨by kernel_rfl, fun W0 => ?_⟩) ?_
          · go_simp
          try simp only [Act.put, List.setIfInBounds_toArray, List.set_cons_zero, List.set_cons_succ]
          refine wpAny_take (i := 12) (v := .bool false) rfl (by kernel_rfl) (by kernel_rfl) (by kernel_rfl) (fun _ _ _ h => h) (Or.inl ⟨by kernel_rfl, fun W0 => ?_⟩) ?_
          · go_simp
          try simp only [Act.put, List.setIfInBounds_toArray, List.set_cons_zero, List.set_cons_succ]
          refine wpAny_done (by kernel_rfl) ?_ _
          have hx := HX.out
          subst hx
          have hB7 := hB4.trans ((HW6.out.trans (hb7.mono HW6.out.size)).mono hB4.size)
          clear hb7 h01 hxk hck hxn hxn1 hxc hx16 hx0
          go_wp2_with fail
          obtain ⟨A2, c2, hsv, hc2, hr2⟩ := HSO.out
          subst hsv
          have HR2 := Lib.hid hr2
          have hsm := HSZ.out.1
          have hts : ts.length ≤ 100 := by have := (newRes_none HR.out).1; omega
          have hln : ∀ t ∈ ts, t.s.length ≤ 1000 := fun t ht => by have := (newRes_none HR.out).2 t ht; omega
          have hlf : (findD ts s).s.length ≤ 1000 := by rw [HF.out]; simp only; omega
          have HQ := Lib.hid (And.intro hsm (And.intro hts (And.intro hln hlf)))
          clear hr2 hsm hts hln hlf
          go_loopw [10] (fun j ww => ∃ y : Nat, y ≤ fs.length ∧ j = .int .i64 y ∧ Below w7.heap.size w7 ww) (fun j _ => fs.length - (intOf j).toNat)
          case atStart => exact ⟨0, by omega, rfl, Below.refl _ _⟩
          case round =>
            obtain ⟨y, hy, rfl, hbw⟩ := hrel
            have hBw3 := hB7.trans (hbw.mono hB7.size)
            have hBw := hB3.trans (hBw3.mono hB3.size)
            obtain ⟨e0, e1⟩ := CC0.out _ hBw
            by_cases hym : y < fs.length
            · obtain ⟨ad2, hA3, _, hab2, f0, f1⟩ := (HR2.out.kept (Kept.of_below hBw 0 (Nat.le_refl _))).fd y hym
              subst hA3
              obtain ⟨s1, s2, s3⟩ := HST.out y hym
              generalize hfn : (fs.getD y default) = fd at f0 f1 s1 s2 s3
              obtain ⟨fn, ft⟩ := fd
              simp only at f0 f1 s1 s2 s3
              obtain ⟨hsm, hts, hln, hlf⟩ := HQ.out
              have hSw := HS3.out.kept (Kept.of_below hBw3 _ H3.out)
              have hle : w2.heap.size ≤ wr.heap.size := Nat.le_trans H3.out hBw3.size
              have H12 := Lib.hid (And.intro s1 s2)
              have HS33 := Lib.hid s3
              have hSg : ∀ d os, SchemaAt w1.heap.size w2.heap.size (grow (redrawn wr d) os) (.pointer (some ⟨g, 0, none⟩)) ts := fun d os => hSw.kept (Kept.of_below (below_regrown wr d os) _ hle)
              have cC : ∀ d os, Calls Try.prog 12 #[.pointer (some ⟨g, 0, none⟩), .string s, .string fn] (grow (redrawn wr d) os) fun e w'' => e = .returned (.tuple #[.int .i64 (y : Int), .bool true]) ∧ ∃ p : Regrown, w'' = grow (redrawn wr p.d) p.os := fun d os => Calls.regrown_of (by
                have := slot_calls (.pointer (some ⟨g, 0, none⟩)) ts s fn _ _ (grow (redrawn wr d) os) (hSg d os) (Nat.le_trans hle (below_regrown wr d os).size) hsm hts hln hlf
                rw [s1, s2] at this; exact this)
              have k0 : ∀ d os, (grow (redrawn wr d) os).cell? (ad.add (k * 2)) = some (.string s) := cell_regrown e0
              have k1 : ∀ d os, (grow (redrawn wr d) os).cell? ⟨(ad.add (k * 2)).block, (ad.add (k * 2)).off + 1, none⟩ = some (.slice (some ad2) fs.length c2) := cell_regrown e1
              have k2 : ∀ d os, (grow (redrawn wr d) os).cell? (ad2.add (y * 2)) = some (.string fn) := cell_regrown f0
              have k3 : ∀ d os, (grow (redrawn wr d) os).cell? ⟨(ad2.add (y * 2)).block, (ad2.add (y * 2)).off + 1, none⟩ = some (.int .i64 ft) := cell_regrown f1
              clear hSg
              have HFE := Lib.hid (And.intro f0 f1)
              have HSW := Lib.hid hSw
              have HLE := Lib.hid hle
              clear hfn s1 s2 s3 hsm hts hln hlf hSw hle f0 f1
              go_wp2_with fail
              refine wp_region_quiet_below (by kernel_rfl) (by kernel_rfl) ?_
              repeat (quiet_step (exact cC _ _))
              refine wpQuiet_nil ?_
              intro _ hw'
              obtain ⟨⟨dq, osq⟩, hw''⟩ := hw'
              subst hw''
              have e0' := k0 dq osq
              have e1' := k1 dq osq
              have f0' := k2 dq osq
              have f1' := k3 dq osq
              have hb8 := below_regrown wr dq osq
              generalize hW8 : grow (redrawn wr dq) osq = w8
              rw [hW8] at e0' e1' f0' f1' hb8
              clear hW8 k0 k1 k2 k3 cC e0 e1
              have hb9 := hbw.trans (hb8.mono hbw.size)
              have hBw4 := hB7.trans (hb9.mono hB7.size)
              have hSw := HS3.out.kept (Kept.of_below hBw4 _ H3.out)
              have hle : w2.heap.size ≤ w8.heap.size := Nat.le_trans H3.out hBw4.size
              obtain ⟨hsm, hts, hln, hlf⟩ := HQ.out
              have s3 := HS33.out
              have hSg : ∀ d os, SchemaAt w1.heap.size w2.heap.size (grow (redrawn w8 d) os) (.pointer (some ⟨g, 0, none⟩)) ts := fun d os => hSw.kept (Kept.of_below (below_regrown w8 d os) _ hle)
              have cC : ∀ d os, Calls Try.prog 13 #[.pointer (some ⟨g, 0, none⟩), .string s, .string fn] (grow (redrawn w8 d) os) fun e w'' => e = .returned (.int .i64 ft) ∧ ∃ p : Regrown, w'' = grow (redrawn w8 p.d) p.os := fun d os => Calls.regrown_of (by
                have := type_calls (.pointer (some ⟨g, 0, none⟩)) ts s fn _ _ (grow (redrawn w8 d) os) (hSg d os) (Nat.le_trans hle (below_regrown w8 d os).size) hsm hts hln hlf
                rw [s3] at this; exact this)
              have k0 : ∀ d os, (grow (redrawn w8 d) os).cell? (ad.add (k * 2)) = some (.string s) := cell_regrown e0'
              have k1 : ∀ d os, (grow (redrawn w8 d) os).cell? ⟨(ad.add (k * 2)).block, (ad.add (k * 2)).off + 1, none⟩ = some (.slice (some ad2) fs.length c2) := cell_regrown e1'
              have k2 : ∀ d os, (grow (redrawn w8 d) os).cell? (ad2.add (y * 2)) = some (.string fn) := cell_regrown f0'
              have k3 : ∀ d os, (grow (redrawn w8 d) os).cell? ⟨(ad2.add (y * 2)).block, (ad2.add (y * 2)).off + 1, none⟩ = some (.int .i64 ft) := cell_regrown f1'
              clear hSg
              clear s3 hsm hts hln hlf hSw hle e0' e1' f0' f1'
              go_wp2_with fail
              refine wp_region_quiet_below (by kernel_rfl) (by kernel_rfl) ?_
              repeat (quiet_step (exact cC _ _))
              refine wpQuiet_nil ?_
              intro _ hw'
              obtain ⟨⟨dr, osr⟩, hw''⟩ := hw'
              subst hw''
              have hbe := hb9.trans ((below_regrown w8 dr osr).mono hb9.size)
              generalize grow (redrawn w8 dr) osr = w10 at hbe ⊢
              clear k0 k1 k2 k3 cC
              go_wp2_with fail
              exact ⟨⟨y + 1, by omega, by go_num, hbe⟩, by simp [intOf]; omega⟩
            · have hyd : decide ((y : Int) < (fs.length : Int)) = false := by simp; omega
              have HY := Lib.hid hym
              clear hym hy
              go_wp2_with fail
              exact ⟨⟨k + 1, by omega, by go_num, hBw3⟩, by simp [intOf]; omega⟩
        · have hkn : k = n := by omega
          subst hkn
          have hSr := HS3.out.kept (Kept.of_below hb _ H3.out)
          have HR16 := Lib.hid (newRes_none HR.out)
          go_wp2_with fail
          refine (list_calls _ ts _ _ wr hSr (by have := H3.out; have := hb.size; omega) (by have := HR16.out.1; omega) (fun t ht => by have := HR16.out.2 t ht; omega)).mono ?_; rintro e w5 ⟨⟨v5, rfl, ho5⟩, hb5⟩
          have hB5 := hB.trans (hb5.mono hB.size)
          have hr5 := ho5.rd.mono (Nat.zero_le _) (Nat.le_refl _)
          obtain ⟨A5, n5, c5, rfl⟩ : ∃ A n c, v5 = .slice A n c := by obtain ⟨A, c, _, h, _⟩ := hr5; exact ⟨A, _, c, h⟩
          have hr0 := (HH.out.kept (Kept.of_below hB5 0 (Nat.le_refl _))).mono (Nat.le_refl _) hB5.size
          have H5 := Lib.hid hr5
          have H0 := Lib.hid hr0
          clear hb5 ho5 hr5 hr0 hSr
          go_wp2_with fail
          refine (same_calls _ _ ts w5 H5.out H0.out (by have := HR16.out.1; unfold maxLen; omega) (fun t ht => by have := HR16.out.2 t ht; unfold maxLen; omega)).mono ?_; rintro e w7 ⟨rfl, hb7⟩
          have hB7 := hB5.trans (hb7.mono hB5.size)
          clear hb7 H5 H0
          go_wp2_with fail
          go_ret
          exact ⟨rfl, hB7⟩
    · clear HS hb3 hB2 hb1
      go_wp2_with fail
      go_ret
      exact ⟨rfl, hB3⟩

end Go.Proofs.Ytkableklofokdaa

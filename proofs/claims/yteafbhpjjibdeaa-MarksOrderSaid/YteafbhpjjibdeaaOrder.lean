/-
The law MarksOrder.
-/
import Derived.Test.YteafbhpjjibdeaaOrderP
namespace Go.Proofs.Yteafbhpjjibdeaa
set_option linter.unusedVariables false
set_option linter.unusedSimpArgs false
open Go.RowKit

set_option maxHeartbeats 8000000 in
set_option maxRecDepth 100000 in
theorem MarksOrder_walk (n : Int) (v : Value) (l : List Int) (turn : Int) (w : World) (hnw : (Lit.int .i64 n).wf = true) (h : (Kd.int .i64).slice.At [] w [v] l) (htw : (Lit.int .i64 turn).wf = true) :
    Calls Try.prog 9 #[.int .i64 n, v, .int .i64 turn] w fun e w' => e = .returned (.bool true) ∧ Below w.heap.size w w' := by
  obtain ⟨ao, cap, rfl, hl, hcap⟩ := Kd.slice_form h
  unfold maxLen at hcap
  have HA := Lib.hid (awake09_calls w)
  have H := Lib.hid h
  clear h hnw htw
  go_enter Try.func9, Try.ntmps9
  go_wp2_with fail
  refine HA.out.mono ?_
  rintro e w1 ⟨rfl, hb1⟩
  have HB1 := Lib.hid hb1
  have H1 := Lib.hid (H.out.below hb1)
  clear hb1 HA
  by_cases hn0 : n < 0
  · go_wp2_with fail
    go_ret
    exact ⟨rfl, HB1.out⟩
  by_cases hn : 2000 < n
  · go_wp2_with fail
    go_ret
    exact ⟨rfl, HB1.out⟩
  by_cases hx : 200 < l.length
  · go_wp2_with fail
    go_ret
    exact ⟨rfl, HB1.out⟩
  by_cases ht0 : turn < 0
  · go_wp2_with fail
    go_ret
    exact ⟨rfl, HB1.out⟩
  by_cases ht : (l.length : Int) < turn
  · go_wp2_with fail
    go_ret
    exact ⟨rfl, HB1.out⟩
  obtain ⟨t, rfl⟩ : ∃ t : Nat, turn = t := ⟨turn.toNat, by omega⟩
  have HN1 := Lib.hid (marks_new_calls n (by omega) w1)
  go_wp2_with fail
  refine HN1.out.mono ?_
  rintro e w2 ⟨p, g, rfl, hb2, hs2, hp2, hg2⟩
  have HN2 := Lib.hid (marks_new_calls n (by omega) w2)
  have hz1 := HB1.out.size
  have hz2 := hb2.size
  have HB2 := Lib.hid (HB1.out.trans (hb2.mono hz1))
  have H2 := Lib.hid (H1.out.below hb2)
  have HS2 := Lib.hid hs2
  have HU2 := Lib.hid (Upd.ofBelow hb2 [])
  clear hb2 hs2 HN1
  go_wp2_with fail
  refine HN2.out.mono ?_
  rintro e w3 ⟨p', g', rfl, hb3, hs3, hp3, hg3⟩
  have hz3 := hb3.size
  have hpl := block_lt HS2.out.hp
  have hgl : g < w2.heap.size := by obtain ⟨_, _, hg, _⟩ := HS2.out.hg; exact block_lt hg
  have hpl' := block_lt hs3.hp
  have hgl' : g' < w3.heap.size := by obtain ⟨_, _, hg, _⟩ := hs3.hg; exact block_lt hg
  have hpg := HS2.out.ne
  have hpg' := hs3.ne
  have hs2' := HS2.out.upd (Upd.ofBelow hb3 []) (by simp) (by simp)
  have HS3 := Lib.hid hs2'
  have HT3 := Lib.hid hs3
  have HB3 := Lib.hid (HB2.out.trans (hb3.mono (by omega)))
  have H3 := Lib.hid (H2.out.below hb3)
  have hti : (t : Int) ≤ (l.length : Int) := by omega
  have hti2 : (t : Int) ≤ (cap : Int) := by omega
  have hti0 : (0 : Int) ≤ (t : Int) := by omega
  have HU3 := Lib.hid (HU2.out.trans (Upd.ofBelow hb3 []))
  clear hb3 hs3 HN2 hs2'
  have ht' : t ≤ l.length := by omega
  obtain ⟨v4, w4, hrun4, hr4, hb4⟩ := copy_ints ((Kd.slice_drop H3.out (k := t) ht').upd (Upd.refl [] w3) (by simp) (M' := []) (by simp)) (by simp; omega)
  have hz4 := hb4.size
  obtain ⟨i0, hi, hy0, hy1, hy2⟩ := info_parts A.infoInt
  have hob4 := hr4.ob_lt
  obtain ⟨v5, w5, hrun5, hr5, hu5, hob5⟩ := hr4.appendAt (P := Try.prog) (t := 22) (ty := 22) (u := .slice ao l.length cap) (l2 := l) Try.underlying22 hi hy0 hy1 hy2 rfl (by decide)
    (H3.out.upd (Upd.ofBelow hb4 []) (by simp) (M' := ob v4 ++ []) (fun k hk => by
      rw [List.append_nil] at hk
      exact .inr (hob4 k hk).1)) (by simp [maxLen]; omega) (by simp; omega) (by omega)
  have hm400 : (l.drop t ++ l).length ≤ 400 := by simp; omega
  have hmem : ∀ x, x ∈ l.drop t ++ l ↔ x ∈ l := fun x => by
    rw [List.mem_append]
    exact ⟨fun h => h.elim List.mem_of_mem_drop id, .inr⟩
  have HMEM := Lib.hid (setUpTo_same n.toNat (playOf n.toNat l) (playOf n.toNat (l.drop t ++ l)) (fun x => by rw [playOf_mem, playOf_mem, hmem]))
  obtain ⟨m, hm⟩ : ∃ m, l.drop t ++ l = m := ⟨_, rfl⟩
  rw [hm] at hm400 hr5 HMEM
  obtain ⟨a5, c5, rfl, hc51, hc52⟩ := row_form hr5
  have hob5' := hr5.ob_lt
  have hu5' : Upd [] w3 w5 := (Upd.ofBelow hb4 []).trans' hu5 (fun k hk => .inr (hob4 k hk).1)
  have hz5 := hu5'.size
  have HS5 := Lib.hid (HS3.out.upd hu5' (by simp) (by simp))
  have HT5 := Lib.hid (HT3.out.upd hu5' (by simp) (by simp))
  have HB5 := Lib.hid (HB3.out.trans (hu5'.below.mono (by omega)))
  have HM5 := Lib.hid ((hr5.int_any (M' := [p, g, p', g'])).read (fun k hk => by
    have := (hob5' k hk).1
    simp only [List.mem_cons, List.not_mem_nil, or_false]
    omega))
  have HL5 := Lib.hid (H1.out.upd (HU3.out.trans hu5') (by simp) (M' := [p, g, p', g']) (by simp; omega))
  have hpp : p ≠ p' ∧ p ≠ g' ∧ g ≠ p' ∧ g ≠ g' := by omega
  have hl4 : (l.drop t).length = l.length - t := List.length_drop
  have HRUN5 := Lib.hid hrun5
  clear hrun5 hr4 hb4 hob4 hr5 hu5 hob5 hob5' hu5' hi hy0 hy1 hy2 hmem hm hl4
  rcases Classical.em (cap = t) with hct | hct
  case' inl =>
    subst hct
    rw [if_pos rfl, show cap - cap = 0 by omega, show l.length - cap = 0 by omega] at hrun4
    have hua := trivial
  case' inr =>
    rw [if_neg hct] at hrun4
    simp only [show ∀ k : Nat, k * (Kd.int .i64).sz = k from fun k => Nat.mul_one k] at hrun4
    obtain ⟨ua, hua⟩ : ∃ ua, Option.map (fun x => Addr.add x t) ao = ua := ⟨_, rfl⟩
    rw [hua] at hrun4
  all_goals
    have HRUN4 := Lib.hid hrun4
    clear hrun4
    go_wp2_with (at_builtin; first | refine append_step rfl _ _ _ rfl rfl rfl HRUN4.out ?_ | refine append_step rfl _ _ _ rfl rfl rfl HRUN5.out ?_)
    clear hua
    go_loopw [10] (fun i wr => ∃ k : Nat, k ≤ l.length ∧ i = .int .i64 k ∧ Hid (IsSet wr p g n.toNat (playOf n.toNat (l.take k))) ∧ Hid (Upd [p, g] w5 wr)) (fun i _ => l.length - (intOf i).toNat)
    case atStart => exact ⟨0, Nat.zero_le _, rfl, HS5, Lib.hid (Upd.refl _ _)⟩
    case round =>
      obtain ⟨k, hk, rfl, hs, hu⟩ := hrel
      by_cases hlt : k < l.length
      · obtain ⟨x, hxk⟩ : ∃ x, l[k]? = some x := ⟨_, List.getElem?_eq_getElem hlt⟩
        obtain ⟨b, o, c, hv, _, _, _, _, c0, _⟩ := ints_at (HL5.out.upd hu.out (by simp) (fun k hk => .inl hk)) hxk
        simp at hv
        obtain ⟨rfl, rfl⟩ := hv
        have hi1 : (k : Int) < (l.length : Int) := by omega
        have hi0 : (0 : Int) ≤ (k : Int) := by omega
        have HADD := Lib.hid (marks_add_calls p g n.toNat (playOf n.toNat (l.take k)) x wr hs.out)
        have HSN := Lib.hid (playOf_snoc n.toNat hxk)
        clear hxk
        go_wp2_with fail
        refine HADD.out.mono ?_
        rintro e w6 ⟨rfl, hu6, hs6⟩
        have HU6 := Lib.hid (hu.out.trans hu6)
        have HS6 : Hid (IsSet w6 p g n.toNat (playOf n.toNat (l.take (k + 1)))) := Lib.hid (by rw [HSN.out]; exact hs6)
        clear hu6 hs6
        go_wp2_with fail
        go_roundw
        case rel => exact ⟨k + 1, by omega, by go_num, HS6, HU6⟩
        case measure => simp [intOf]; omega
      · have hkl : k = l.length := by omega
        subst hkl
        rw [List.take_length] at hs
        have HTA := Lib.hid (HT5.out.upd hu.out (by simp; omega) (by simp; omega))
        have HMA := Lib.hid (HM5.out.upd hu.out (by simp) (fun k hk => .inl hk))
        have HBA := Lib.hid (HB5.out.trans (hu.out.belowB HB5.out.size (by simp; omega)))
        have hzA := hu.out.size
        rename World => wA
        have HSA := Lib.hid hs.out
        clear hs hu
        go_wp2_with fail
        go_loopw [11] (fun i wr => ∃ k : Nat, k ≤ m.length ∧ i = .int .i64 k ∧ Hid (IsSet wr p' g' n.toNat (playOf n.toNat (m.take k))) ∧ Hid (Upd [p', g'] wA wr)) (fun i _ => m.length - (intOf i).toNat)
        case atStart => exact ⟨0, Nat.zero_le _, rfl, HTA, Lib.hid (Upd.refl _ _)⟩
        case round =>
          obtain ⟨k, hk, rfl, hs, hu⟩ := hrel
          by_cases hlt : k < m.length
          · obtain ⟨x, hxk⟩ : ∃ x, m[k]? = some x := ⟨_, List.getElem?_eq_getElem hlt⟩
            obtain ⟨b, o, c, hv, _, _, _, _, c0, _⟩ := ints_at (HMA.out.upd hu.out (by simp) (fun k hk => .inl hk)) hxk
            simp at hv
            obtain ⟨rfl, rfl⟩ := hv
            have hi1 : (k : Int) < (m.length : Int) := by omega
            have hi0 : (0 : Int) ≤ (k : Int) := by omega
            have HADD := Lib.hid (marks_add_calls p' g' n.toNat (playOf n.toNat (m.take k)) x wr hs.out)
            have HSN := Lib.hid (playOf_snoc n.toNat hxk)
            clear hxk
            go_wp2_with fail
            refine HADD.out.mono ?_
            rintro e w6 ⟨rfl, hu6, hs6⟩
            have HU6 := Lib.hid (hu.out.trans hu6)
            have HS6 : Hid (IsSet w6 p' g' n.toNat (playOf n.toNat (m.take (k + 1)))) := Lib.hid (by rw [HSN.out]; exact hs6)
            clear hu6 hs6
            go_wp2_with fail
            go_roundw
            case rel => exact ⟨k + 1, by omega, by go_num, HS6, HU6⟩
            case measure => simp [intOf]; omega
          · have hkl : k = m.length := by omega
            subst hkl
            rw [List.take_length] at hs
            have HSB := Lib.hid (HSA.out.upd hu.out (by simp; omega) (by simp; omega))
            have HBB := Lib.hid (HBA.out.trans (hu.out.belowB HBA.out.size (by simp; omega)))
            have HTB := Lib.hid hs.out
            have hzB := hu.out.size
            have hSn := HSB.out.nd
            have hSb := HSB.out.le
            have hSl : (playOf n.toNat l).length ≤ n.toNat := nodup_len _ _ hSn hSb
            have hal := setUpTo_len n.toNat (playOf n.toNat l) hSn hSb
            have hcov := covers_up n (by omega) (playOf n.toNat l)
            have hawf : ∀ x ∈ setUpTo n.toNat (playOf n.toNat l), (Lit.int .i64 x).wf = true := fun x hx => by
              have := ((setUpTo_mem _ _ _).1 hx).1
              exact i64_wf (by omega) (by omega)
            obtain ⟨S1, hS1⟩ : ∃ S1, playOf n.toNat l = S1 := ⟨_, rfl⟩
            obtain ⟨S2, hS2⟩ : ∃ S2, playOf n.toNat m = S2 := ⟨_, rfl⟩
            have hsame := HMEM.out
            rw [hS1, hS2] at hsame
            rw [hS1] at hal hcov hawf hSl HSB
            rw [hS2] at HTB
            have hall1 := marks_all_calls p g n.toNat S1 [] wr HSB.out (by simp) (by simp) (by simp)
            have HALL2 : Hid (∀ W, Below wr.heap.size wr W → Calls Try.prog 24 #[.pointer (some ⟨p', 0, none⟩)] W fun e w' => ∃ bx, e = .returned (.func (.func 46) #[] #[.pointer (some ⟨bx, 0, none⟩)]) ∧ Below W.heap.size W w' ∧
                ItFrom Try.prog w' [] 46 #[.pointer (some ⟨bx, 0, none⟩)] (setUpTo n.toNat S1) valInt) := Lib.hid (fun W hb => by
              rw [hsame]
              exact marks_all_calls p' g' n.toNat S2 [] W (HTB.out.upd (Upd.ofBelow hb []) (by simp) (by simp)) (by simp) (by simp) (by simp))
            obtain ⟨a, ha⟩ : ∃ a, setUpTo n.toNat S1 = a := ⟨_, rfl⟩
            rw [ha] at hall1 HALL2 hal hcov hawf
            have HALL1 := Lib.hid hall1
            have HAW := Lib.hid hawf
            have HCOV := Lib.hid hcov
            have hale : a.length ≤ 2000 := by omega
            have hb1 : ((a.length : Int) == (S1.length : Int)) = true := by simp [hal]
            clear hs hu hSn hSb hcov hawf hS1 hS2 hsame hall1 ha hal
            go_wp2_with fail
            refine HALL1.out.mono ?_
            rintro e w6 ⟨bx6, rfl, hb6, hit6⟩
            have HC6 := Lib.hid (collect_int_calls 46 _ a w6 (enters_it Try.func46 rfl rfl) [] hit6 HAW.out (by omega))
            have HB6 := Lib.hid (hb6)
            clear hb6 hit6
            go_wp2_with fail
            refine HC6.out.mono ?_
            rintro e w7 ⟨v7, rfl, hb7, hr7⟩
            have HB7 : Hid (Below wr.heap.size wr w7) := Lib.hid (HB6.out.trans (hb7.mono HB6.out.size))
            have HR7 := Lib.hid (hr7.read (M := []) (by simp))
            obtain ⟨a7, c7, rfl, hc71, hc72⟩ := slice_form' HR7.out
            unfold maxLen at hc72
            have HALL3 := Lib.hid (HALL2.out w7 HB7.out)
            clear hb7 hr7
            go_wp2_with fail
            refine HALL3.out.mono ?_
            rintro e w8 ⟨bx8, rfl, hb8, hit8⟩
            have HB8 : Hid (Below wr.heap.size wr w8) := Lib.hid (HB7.out.trans (hb8.mono HB7.out.size))
            have HR8 := Lib.hid (HR7.out.below hb8)
            have HC8 := Lib.hid (collect_int_calls 46 _ a w8 (enters_it Try.func46 rfl rfl) [] hit8 HAW.out (by omega))
            clear hb8 hit8
            go_wp2_with fail
            refine HC8.out.mono ?_
            rintro e w9 ⟨v9, rfl, hb9, hr9⟩
            have HB9 : Hid (Below wr.heap.size wr w9) := Lib.hid (HB8.out.trans (hb9.mono HB8.out.size))
            have HR9 := Lib.hid (HR8.out.below hb9)
            have HQ9 := Lib.hid (hr9.read (M := []) (by simp))
            clear hb9 hr9
            have HSM : Hid (∀ W, Upd [] w9 W → Calls Try.prog 13 #[.slice a7 a.length c7, v9] W fun e w' => e = .returned (.bool true) ∧ Upd [] w9 w') := Lib.hid (fun W hu => by
              have := ref09_same_calls (.slice a7 a.length c7) v9 a a [] W (HR9.out.upd hu (by simp) (by simp)) (HQ9.out.upd hu (by simp) (by simp))
              rw [beq_self_eq_true] at this
              refine this.mono ?_
              rintro e w' ⟨rfl, nn, rfl⟩
              exact ⟨rfl, hu.trans (Upd.drewN [] _ _)⟩)
            go_wp2_with fail
            refine (HSM.out _ (Upd.refl _ _)).mono ?_
            rintro e w10 ⟨rfl, hu10⟩
            have HU10 := Lib.hid hu10
            have HL10 := Lib.hid (marks_len_calls p g n.toNat S1 w10 (HSB.out.upd ((Upd.ofBelow HB9.out []).trans hu10) (by simp) (by simp)))
            clear hu10
            go_wp2_with fail
            refine HL10.out.mono ?_
            rintro e w11 ⟨rfl, rfl⟩
            obtain ⟨W12, hW12⟩ : ∃ W12, w10.alloc (.cells #[.slice a7 a.length c7] 22) = W12 := ⟨_, rfl⟩
            have hu12 : Upd [] w10 W12 := by rw [← hW12]; exact Upd.alloc [] w10 _
            have hr12 : W12.heap[w10.heap.size]? = some (.cells #[.slice a7 a.length c7] 22) := by rw [← hW12]; exact Go.heap_alloc_new w10 _
            have HV := Lib.hid (values_calls _ [a] [] W12 (list1_at hr12 (by simp) ((HR9.out.upd HU10.out (by simp) (by simp) (M' := [])).upd hu12 (by simp) (by simp) (M' := []))) (by simp))
            have HU12 := Lib.hid (HU10.out.trans hu12)
            clear hu12 hr12
            go_wp2_with fail
            refine HV.out.mono ?_
            clear hW12
            rintro e w13 ⟨bx, rfl, hb13, hit⟩
            have HB13 : Hid (Below wr.heap.size wr w13) := Lib.hid ((HB9.out.trans (HU12.out.below.mono HB9.out.size)).trans (hb13.mono (by have := HB9.out.size; have := HU12.out.size; omega)))
            have HCC := covers_calls n (by omega) _ _ [a] w13 (enters_it Try.func45 rfl rfl) [] hit
            rw [HCOV.out] at HCC
            have HC := Lib.hid HCC
            clear hb13 hit HV HCC
            go_wp2_with fail
            refine HC.out.mono ?_
            rintro e w14 ⟨rfl, hb14⟩
            have HB14 := Lib.hid (HBB.out.trans ((HB13.out.mono HBB.out.size).trans (hb14.mono (by have := HB13.out.size; have := HBB.out.size; omega))))
            clear hb14
            go_wp2_with fail
            go_ret
            exact ⟨by simp; rfl, HB14.out⟩

end Go.Proofs.Yteafbhpjjibdeaa

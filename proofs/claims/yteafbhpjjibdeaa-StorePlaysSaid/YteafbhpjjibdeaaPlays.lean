/-
The law StorePlays.
-/
import Derived.Test.YteafbhpjjibdeaaSpoil23
namespace Go.Proofs.Yteafbhpjjibdeaa
set_option linter.unusedVariables false
set_option linter.unusedSimpArgs false
open Go.RowKit

attribute [local go_sem] Oper.semAt_some

theorem u8_rangeP {x : Int} (h : (Lit.int .u8 x).wf = true) : 0 ≤ x ∧ x ≤ 255 := by
  simp [Lit.wf, IntKind.min, IntKind.max, IntKind.signed, IntKind.bits] at h
  omega

set_option maxHeartbeats 8000000 in
set_option maxRecDepth 100000 in
theorem storePlays_main (v : Value) (l : List Act23) (w : World) (h : kAct23.slice.At [] w [v] l) (hf : few23 l = true) :
    Calls Try.prog 6 #[v] w fun e w' => e = .returned (.bool true) ∧ Below w.heap.size w w' := by
  obtain ⟨ao, cap, rfl, hl, hcap⟩ := Kd.slice_form h
  unfold maxLen at hcap
  have HA := Lib.hid (awake23_calls w)
  have H := Lib.hid h
  have HF := Lib.hid hf
  clear h hf
  go_enter Try.func6, Try.ntmps6
  go_wp2_with fail
  refine HA.out.mono ?_
  rintro e w1 ⟨rfl, hb1⟩
  have HB1 := Lib.hid hb1
  have H1 := Lib.hid (H.out.below hb1)
  have HFW := Lib.hid (few23_calls _ l [] w1 H1.out)
  clear hb1 HA
  go_wp2_with fail
  refine HFW.out.mono ?_
  rw [HF.out]
  rintro e w1' ⟨rfl, rfl⟩
  have HN := Lib.hid (new_calls' w1)
  go_wp2_with fail
  refine HN.out.mono ?_
  rintro e w2 ⟨p, m, rfl, hs2, hp2, hm2, hb2⟩
  have hz1 := HB1.out.size
  have hz2 := hb2.size
  have HB2 := Lib.hid (HB1.out.trans (hb2.mono hz1))
  have hpl := block_lt hs2.blk
  have hml : m < w2.heap.size := by obtain ⟨_, _, h1, _⟩ := hs2.map; exact block_lt h1
  have hpm := hs2.ne
  have HS2 := Lib.hid hs2
  have H2 := Lib.hid (H1.out.upd (Upd.ofBelow hb2 []) (by simp) (M' := [p, m]) (by simp; omega))
  have HV2 : Hid (kFile.slice.At [p, m] w2 [.slice none 0 0] (listOf [])) := Lib.hid (by rw [listOf_nil]; exact Kd.slice_nil kFile _ _ none 0 (by simp [maxLen]))
  clear hb2 hs2 HN
  go_wp2_with fail
  go_loopw [5, 4] (fun i vm wr => ∃ (k : Nat) (L : List (ByteArray × ByteArray)), k ≤ l.length ∧ i = .int .i64 k ∧ Hid (IsStore wr p m L) ∧ Hid (FineC L) ∧ Hid (kFile.slice.At [p, m] wr [vm] (listOf L)) ∧ Hid (Upd [p, m] w2 wr)) (fun i _ _ => l.length - (intOf i).toNat)
  case atStart => exact ⟨0, [], Nat.zero_le _, rfl, HS2, Lib.hid FineC.nil, HV2, Lib.hid (Upd.refl _ _)⟩
  case round =>
    obtain ⟨k, L, hk, rfl, hs, hfc, hvm, hu⟩ := hrel
    rename Value => vm0
    by_cases hlt : k < l.length
    · obtain ⟨x, hxk⟩ : ∃ x, l[k]? = some x := ⟨_, List.getElem?_eq_getElem hlt⟩
      have hsm := few23_mem HF.out x (List.mem_of_getElem? hxk)
      obtain ⟨b, o, c', hv, hbs, hbM, _, _, g0, g1, g2, g3, g4, d0, d1, d2, d3, d4⟩ := act23_at (H2.out.upd hu.out (fun k hk => hk) (fun k hk => .inl hk) (M' := [p, m])) hxk
      simp at hv
      obtain ⟨rfl, rfl⟩ := hv
      have hi1 : (k : Int) < (l.length : Int) := by omega
      have hi0 : (0 : Int) ≤ (k : Int) := by omega
      have hby := u8_rangeP g4
      have hzr := hu.out.size
      have hfew := hs.out.few
      obtain ⟨am, cm, hvmf, _, _⟩ := Kd.slice_form hvm.out
      subst hvmf
      obtain ⟨Wb, hWb⟩ : ∃ Wb, wr.alloc (.cells #[.int .i64 x.kind, .string x.name, .string x.text, .int .i64 x.at_, .int .u8 x.by_] 51) = Wb := ⟨_, rfl⟩
      have hub : Upd [] wr Wb := by rw [← hWb]; exact Upd.alloc [] wr _
      have hrb : Wb.heap[wr.heap.size]? = some (.cells #[.int .i64 x.kind, .string x.name, .string x.text, .int .i64 x.at_, .int .u8 x.by_] 51) := by rw [← hWb]; exact Go.heap_alloc_new wr _
      have HSB := Lib.hid (hs.out.upd hub (by simp) (by simp))
      have HVB := Lib.hid (hvm.out.upd hub (by simp) (M' := [p, m]) (by simp))
      have HUB := Lib.hid (hu.out.trans (hub.mono (by simp)))
      have HRB := Lib.hid hrb
      have HWB := Lib.hid hWb
      have hbl := block_lt hrb
      have KB : Hid (∀ W, Upd [p, m] Wb W → W.cell? ⟨wr.heap.size, 1, none⟩ = some (.string x.name) ∧ W.cell? ⟨wr.heap.size, 2, none⟩ = some (.string x.text) ∧ W.cell? ⟨wr.heap.size, 3, none⟩ = some (.int .i64 x.at_) ∧ W.cell? ⟨wr.heap.size, 4, none⟩ = some (.int .u8 x.by_)) := Lib.hid (fun W hu => by
        have := upd_far hu HRB.out (by simp; omega)
        exact ⟨by rw [cell_of_block this]; rfl, by rw [cell_of_block this]; rfl, by rw [cell_of_block this]; rfl, by rw [cell_of_block this]; rfl⟩)
      have hnm : x.name.size ≤ maxLen := by unfold maxLen; omega
      have hMW : ∀ W, Upd [p, m] Wb W → ∀ k, k ∈ [p, m] → k < W.heap.size := fun W hu k hk => by
        have := hu.size
        have := hub.size
        simp at hk
        rcases hk with rfl | rfl <;> omega
      have HMW := Lib.hid hMW
      have HFC := hfc
      clear hs hvm hu hub hrb hWb hxk g0 g1 g2 g3 g4 hMW hfc hbs hbM
      have hcase : (x.kind == 0) = true ∨ ((x.kind == 0) = false ∧ (x.kind == 1) = true) ∨ ((x.kind == 0) = false ∧ (x.kind == 1) = false ∧ (x.kind == 2) = true) ∨ ((x.kind == 0) = false ∧ (x.kind == 1) = false ∧ (x.kind == 2) = false) := by cases (x.kind == 0) <;> cases (x.kind == 1) <;> cases (x.kind == 2) <;> simp
      rcases hcase with h0 | ⟨h0, h1⟩ | ⟨h0, h1, h2⟩ | ⟨h0, h1, h2⟩
      case' inl =>
        have hact := write_calls x.name x.text Wb p m L HSB.out (by omega) HFC.out.len
        have HRW : Hid (∀ W, Upd [p, m] Wb W → Calls Try.prog 29 #[.slice am (listOf L).length cm, .string x.name, .string x.text] W fun e w' => ∃ v', e = .returned (.tuple #[v', .int .i64 (fwrite L x.name x.text).2]) ∧ Below W.heap.size W w' ∧ kFile.slice.At [p, m] w' [v'] (listOf (fwrite L x.name x.text).1)) := Lib.hid (fun W hu =>
          list_write_calls _ L x.name x.text [p, m] W (HVB.out.upd hu (fun k hk => hk) (fun k hk => .inl hk)) (HMW.out W hu) HFC.out hfew hnm (by omega))
        have hfc' : FineC (fwrite L x.name x.text).1 := HFC.out.write _ _
        obtain ⟨L', hL'⟩ : ∃ L', (fwrite L x.name x.text).1 = L' := ⟨_, rfl⟩
        obtain ⟨ec, hec⟩ : ∃ ec, (fwrite L x.name x.text).2 = ec := ⟨_, rfl⟩
        rw [hL', hec] at hact HRW
        rw [hL'] at hfc'
        rw [← HWB.out] at hact
        have HACT := Lib.hid hact
        have HFC' := Lib.hid hfc'
        have hne : (ec != ec) = false := by simp
        clear hact hfc' hL' hec
        go_wp2_with fail
        refine HACT.out.mono ?_
        rw [HWB.out]
        rintro e w3 ⟨rfl, hs3, hu3⟩
        obtain ⟨q1, q2, q3, q4⟩ := KB.out w3 hu3
        have HS3 := Lib.hid hs3
        have HU3 := Lib.hid hu3
        have HRW3 := Lib.hid (HRW.out w3 hu3)
        clear hs3 hu3
        go_wp2_with fail
        refine HRW3.out.mono ?_
        rintro e w4 ⟨v4, rfl, hb4, hr4⟩
        obtain ⟨a4, c4, rfl, _, _⟩ := Kd.slice_form hr4
        have HS4 := Lib.hid (HS3.out.upd (Upd.ofBelow hb4 []) (by simp) (by simp))
        have HR4 := Lib.hid hr4
        have HU4 := Lib.hid ((HUB.out.trans HU3.out).trans' (Upd.ofBelow hb4 []) (by simp))
        clear hb4 hr4 q1 q2 q3 q4
      case' inr.inl =>
        have hact := remove_calls x.name Wb p m L HSB.out
        have HRW : Hid (∀ W, Upd [p, m] Wb W → Calls Try.prog 31 #[.slice am (listOf L).length cm, .string x.name] W fun e w' => ∃ v', e = .returned (.tuple #[v', .int .i64 (fremove L x.name).2]) ∧ Below W.heap.size W w' ∧ kFile.slice.At [p, m] w' [v'] (listOf (fremove L x.name).1)) := Lib.hid (fun W hu =>
          list_remove_calls _ L x.name [p, m] W (HVB.out.upd hu (fun k hk => hk) (fun k hk => .inl hk)) (HMW.out W hu) HFC.out)
        have hfc' : FineC (fremove L x.name).1 := HFC.out.remove _
        obtain ⟨L', hL'⟩ : ∃ L', (fremove L x.name).1 = L' := ⟨_, rfl⟩
        obtain ⟨ec, hec⟩ : ∃ ec, (fremove L x.name).2 = ec := ⟨_, rfl⟩
        rw [hL', hec] at hact HRW
        rw [hL'] at hfc'
        rw [← HWB.out] at hact
        have HACT := Lib.hid hact
        have HFC' := Lib.hid hfc'
        have hne : (ec != ec) = false := by simp
        clear hact hfc' hL' hec
        go_wp2_with fail
        refine HACT.out.mono ?_
        rw [HWB.out]
        rintro e w3 ⟨rfl, hs3, hu3⟩
        obtain ⟨q1, q2, q3, q4⟩ := KB.out w3 hu3
        have HS3 := Lib.hid hs3
        have HU3 := Lib.hid hu3
        have HRW3 := Lib.hid (HRW.out w3 hu3)
        clear hs3 hu3
        go_wp2_with fail
        refine HRW3.out.mono ?_
        rintro e w4 ⟨v4, rfl, hb4, hr4⟩
        obtain ⟨a4, c4, rfl, _, _⟩ := Kd.slice_form hr4
        have HS4 := Lib.hid (HS3.out.upd (Upd.ofBelow hb4 []) (by simp) (by simp))
        have HR4 := Lib.hid hr4
        have HU4 := Lib.hid ((HUB.out.trans HU3.out).trans' (Upd.ofBelow hb4 []) (by simp))
        clear hb4 hr4 q1 q2 q3 q4
      case' inr.inr.inl =>
        have hact := spoil_calls x.name x.at_ x.by_ Wb p m L HSB.out hby.1 hby.2
        have HRW : Hid (∀ W, Upd [p, m] Wb W → Calls Try.prog 33 #[.slice am (listOf L).length cm, .string x.name, .int .i64 x.at_, .int .u8 x.by_] W fun e w' => ∃ v', e = .returned (.tuple #[v', .int .i64 (fspoil L x.name x.at_ x.by_).2]) ∧ Below W.heap.size W w' ∧ kFile.slice.At [p, m] w' [v'] (listOf (fspoil L x.name x.at_ x.by_).1)) := Lib.hid (fun W hu =>
          list_spoil_calls _ L x.name x.at_ x.by_ [p, m] W (HVB.out.upd hu (fun k hk => hk) (fun k hk => .inl hk)) (HMW.out W hu) HFC.out hfew hnm hby.1 hby.2)
        have hfc' : FineC (fspoil L x.name x.at_ x.by_).1 := HFC.out.spoil _ _ _
        obtain ⟨L', hL'⟩ : ∃ L', (fspoil L x.name x.at_ x.by_).1 = L' := ⟨_, rfl⟩
        obtain ⟨ec, hec⟩ : ∃ ec, (fspoil L x.name x.at_ x.by_).2 = ec := ⟨_, rfl⟩
        rw [hL', hec] at hact HRW
        rw [hL'] at hfc'
        rw [← HWB.out] at hact
        have HACT := Lib.hid hact
        have HFC' := Lib.hid hfc'
        have hne : (ec != ec) = false := by simp
        clear hact hfc' hL' hec
        go_wp2_with fail
        refine HACT.out.mono ?_
        rw [HWB.out]
        rintro e w3 ⟨rfl, hs3, hu3⟩
        obtain ⟨q1, q2, q3, q4⟩ := KB.out w3 hu3
        have HS3 := Lib.hid hs3
        have HU3 := Lib.hid hu3
        have HRW3 := Lib.hid (HRW.out w3 hu3)
        clear hs3 hu3
        go_wp2_with fail
        refine HRW3.out.mono ?_
        rintro e w4 ⟨v4, rfl, hb4, hr4⟩
        obtain ⟨a4, c4, rfl, _, _⟩ := Kd.slice_form hr4
        have HS4 := Lib.hid (HS3.out.upd (Upd.ofBelow hb4 []) (by simp) (by simp))
        have HR4 := Lib.hid hr4
        have HU4 := Lib.hid ((HUB.out.trans HU3.out).trans' (Upd.ofBelow hb4 []) (by simp))
        clear hb4 hr4 q1 q2 q3 q4
      case' inr.inr.inr =>
        have hrd := read_calls x.name Wb p m L HSB.out
        have hrf := ref_find_calls _ (listOf L) x.name [p, m] Wb HVB.out
        obtain ⟨hr1, hr2⟩ := rfind_list HFC.out.nd x.name
        have hr3 : (ffind L x.name).2 ≠ 0 → (ffind L x.name).1 = ⟨#[]⟩ := by
          unfold ffind
          cases fname x.name <;> cases sfind L x.name <;> simp
        obtain ⟨t, ec, hff⟩ : ∃ t ec, ffind L x.name = (t, ec) := ⟨_, _, rfl⟩
        obtain ⟨kk, e', hke⟩ : ∃ kk e', rfind (listOf L) x.name = (kk, e') := ⟨_, _, rfl⟩
        rw [hff] at hrd hr1 hr2 hr3
        rw [hke] at hrf hr1 hr2
        simp only at hr1 hr2 hr3
        subst hr1
        rw [← HWB.out] at hrd
        have HRD := Lib.hid hrd
        have HRF := Lib.hid hrf
        have HFC' := HFC
        have HS4 := HSB
        have HR4 := HVB
        have HU4 := HUB
        obtain ⟨q1, q2, q3, q4⟩ := KB.out Wb (Upd.refl _ _)
        by_cases hec : e' = 0
        case' pos =>
          have hk := hr2 hec
          subst hec
          obtain ⟨b2, o2, c2, hv2, _, _, d5, d6, _⟩ := file_at HVB.out hk
          simp at hv2
          obtain ⟨rfl, rfl⟩ := hv2
          have hkl := (List.getElem?_eq_some_iff.1 hk).1
          have hk1 : (kk : Int) < ((listOf L).length : Int) := by omega
          have hk0 : (0 : Int) ≤ (kk : Int) := by omega
          simp only at d5 d6
          clear hrd hrf hr2 hr3 hff hke hk
        case' neg =>
          have ht := hr3 hec
          subst ht
          have hb1 : (e' != 0) = true := by simpa using hec
          have hb2 : (e' == 0) = false := by simpa using hec
          have hbe : (⟨#[]⟩ : ByteArray).toList = [] := by rw [ByteArray.toList_eq]
          clear hrd hrf hr2 hr3 hff hke hec
        all_goals
          go_wp2_with fail
          refine HRD.out.mono ?_
          rw [HWB.out]
          rintro e w3 ⟨rfl, rfl⟩
          go_wp2_with fail
          refine HRF.out.mono ?_
          rintro e w3 ⟨rfl, rfl⟩
        rename World => w4
        rename List (ByteArray × ByteArray) => L'
        rotate_left
        rename World => w4
        rename List (ByteArray × ByteArray) => L'
      all_goals
        have HAL := Lib.hid (alike_calls p m _ L' w4 HS4.out HFC'.out HR4.out.all)
        go_wp2_with fail
        refine HAL.out.mono ?_
        rintro e w5 ⟨rfl, hb5⟩
        have HS5 := Lib.hid (HS4.out.upd (Upd.ofBelow hb5 []) (by simp) (by simp))
        have HR5 := Lib.hid (HR4.out.below hb5)
        have HU5 := Lib.hid (HU4.out.trans' (Upd.ofBelow hb5 []) (by simp))
        clear hb5 HAL
        go_wp2_with fail
        go_roundw
        case rel => exact ⟨k + 1, L', by omega, by go_num, HS5, HFC', HR5, HU5⟩
        case measure => simp [intOf]; omega
    · go_wp2_with fail
      go_ret
      exact ⟨rfl, HB2.out.trans (hu.out.belowB HB2.out.size (by simp; omega))⟩

set_option maxHeartbeats 2000000 in
set_option maxRecDepth 100000 in
theorem StorePlays_walk (v : Value) (l : List Act23) (w : World) (h : kAct23.slice.At [] w [v] l) :
    Calls Try.prog 6 #[v] w fun e w' => e = .returned (.bool true) ∧ Below w.heap.size w w' := by
  cases hf : few23 l with
  | true => exact storePlays_main v l w h hf
  | false =>
    obtain ⟨ao, cap, rfl, hl, hcap⟩ := Kd.slice_form h
    have HA := Lib.hid (awake23_calls w)
    have H := Lib.hid h
    have HF := Lib.hid hf
    clear h hf
    go_enter Try.func6, Try.ntmps6
    go_wp2_with fail
    refine HA.out.mono ?_
    rintro e w1 ⟨rfl, hb1⟩
    have HB1 := Lib.hid hb1
    have HFW := Lib.hid (few23_calls _ l [] w1 (H.out.below hb1))
    clear hb1 HA
    go_wp2_with fail
    refine HFW.out.mono ?_
    rw [HF.out]
    rintro e w1' ⟨rfl, rfl⟩
    go_wp2_with fail
    go_ret
    exact ⟨rfl, HB1.out⟩

end Go.Proofs.Yteafbhpjjibdeaa

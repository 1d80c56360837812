/-
The law StoreCounts.
-/
import Derived.Test.YteafbhpjjibdeaaFilesP
import Derived.Deep.RegionHeld3
import Derived.Sort.QuietTacIn
namespace Go.Proofs.Yteafbhpjjibdeaa
set_option linter.unusedVariables false
set_option linter.unusedSimpArgs false
open Go.RowKit

attribute [local go_sem] Oper.semAt_some

/-- What an act does to files, in this law. -/
def stepC (L : List (ByteArray × ByteArray)) (x : Act23) : List (ByteArray × ByteArray) :=
  if (x.kind == 0) = true then (fwrite L x.name x.text).1 else if (x.kind == 1) = true then (fremove L x.name).1 else (fspoil L x.name x.at_ x.by_).1
theorem stepC_fine {L : List (ByteArray × ByteArray)} (h : FineC L) (x : Act23) : FineC (stepC L x) := by
  unfold stepC
  split
  · exact h.write _ _
  · split
    · exact h.remove _
    · exact h.spoil _ _ _

theorem u8_range' {x : Int} (h : (Lit.int .u8 x).wf = true) : 0 ≤ x ∧ x ≤ 255 := by
  simp [Lit.wf, IntKind.min, IntKind.max, IntKind.signed, IntKind.bits] at h
  omega

/-- The loop's head: a range has left its mark in each round that is past. -/
structure CountsInv (w W3 : World) (ao : Option Addr) (cap : Nat) (l : List Act23) (p m c : Nat) (a : Act) (wr : World) : Prop where
  out : ∃ (k : Nat) (L : List (ByteArray × ByteArray)) (Ds : List (Nat × Array Value)) (u : Nat → Value), k ≤ l.length ∧ IsStore wr p m L ∧ FineC L ∧ Upd [p, m] W3 wr ∧
    (∀ D ∈ Ds, c < D.1 ∧ wr.heap[D.1]? = some (.deferred (some []))) ∧ (Ds.map (·.1)).Nodup ∧
    a = { tmps := #[.slice ao l.length cap, u 1, .pointer (some ⟨w.heap.size, 0, none⟩), .pointer (some ⟨c, 0, none⟩), .int .i64 k, u 5, u 6, u 7, u 8, u 9, u 10, u 11, u 12, u 13, u 14, u 15, u 16, u 17, u 18, u 19, u 20, u 21, u 22, u 23, u 24, u 25, u 26, u 27, u 28, u 29, u 30, u 31, u 32, u 33, u 34, u 35, u 36, u 37, u 38, u 39, u 40, u 41, u 42, u 43, u 44, u 45, u 46, u 47, u 48, u 49, u 50, u 51, u 52, u 53, u 54, u 55, u 56, u 57, u 58, u 59, u 60, u 61, u 62, u 63, u 64, u 65, u 66, u 67, u 68, u 69, u 70, u 71, u 72, u 73, u 74, u 75, u 76, u 77, u 78, u 79, u 80, u 81, u 82, u 83, u 84, u 85, u 86, u 87, u 88, u 89, u 90, u 91, u 92, u 93, u 94, u 95, u 96, u 97, u 98, u 99, u 100], defers := Ds.map fun D => { target := .collected D.1, args := D.2 } }

theorem CountsInv.of {w W3 : World} {ao : Option Addr} {cap : Nat} {l : List Act23} {p m c : Nat} {T : Array Value} {wr : World} (k : Nat) (L : List (ByteArray × ByteArray)) (Ds : List (Nat × Array Value)) (h1 : k ≤ l.length) (h2 : IsStore wr p m L) (h3 : FineC L) (h4 : Upd [p, m] W3 wr)
    (h5 : ∀ D ∈ Ds, c < D.1 ∧ wr.heap[D.1]? = some (.deferred (some []))) (h6 : (Ds.map (·.1)).Nodup) (h7 : T = #[.slice ao l.length cap, T.getD 1 undef, .pointer (some ⟨w.heap.size, 0, none⟩), .pointer (some ⟨c, 0, none⟩), .int .i64 k, T.getD 5 undef, T.getD 6 undef, T.getD 7 undef, T.getD 8 undef, T.getD 9 undef, T.getD 10 undef, T.getD 11 undef, T.getD 12 undef, T.getD 13 undef, T.getD 14 undef, T.getD 15 undef, T.getD 16 undef, T.getD 17 undef, T.getD 18 undef, T.getD 19 undef, T.getD 20 undef, T.getD 21 undef, T.getD 22 undef, T.getD 23 undef, T.getD 24 undef, T.getD 25 undef, T.getD 26 undef, T.getD 27 undef, T.getD 28 undef, T.getD 29 undef, T.getD 30 undef, T.getD 31 undef, T.getD 32 undef, T.getD 33 undef, T.getD 34 undef, T.getD 35 undef, T.getD 36 undef, T.getD 37 undef, T.getD 38 undef, T.getD 39 undef, T.getD 40 undef, T.getD 41 undef, T.getD 42 undef, T.getD 43 undef, T.getD 44 undef, T.getD 45 undef, T.getD 46 undef, T.getD 47 undef, T.getD 48 undef, T.getD 49 undef, T.getD 50 undef, T.getD 51 undef, T.getD 52 undef, T.getD 53 undef, T.getD 54 undef, T.getD 55 undef, T.getD 56 undef, T.getD 57 undef, T.getD 58 undef, T.getD 59 undef, T.getD 60 undef, T.getD 61 undef, T.getD 62 undef, T.getD 63 undef, T.getD 64 undef, T.getD 65 undef, T.getD 66 undef, T.getD 67 undef, T.getD 68 undef, T.getD 69 undef, T.getD 70 undef, T.getD 71 undef, T.getD 72 undef, T.getD 73 undef, T.getD 74 undef, T.getD 75 undef, T.getD 76 undef, T.getD 77 undef, T.getD 78 undef, T.getD 79 undef, T.getD 80 undef, T.getD 81 undef, T.getD 82 undef, T.getD 83 undef, T.getD 84 undef, T.getD 85 undef, T.getD 86 undef, T.getD 87 undef, T.getD 88 undef, T.getD 89 undef, T.getD 90 undef, T.getD 91 undef, T.getD 92 undef, T.getD 93 undef, T.getD 94 undef, T.getD 95 undef, T.getD 96 undef, T.getD 97 undef, T.getD 98 undef, T.getD 99 undef, T.getD 100 undef]) : CountsInv w W3 ao cap l p m c { tmps := T, defers := Ds.map fun D => { target := .collected D.1, args := D.2 } } wr :=
  ⟨k, L, Ds, fun i => T.getD i undef, h1, h2, h3, h4, h5, h6, by rw [← h7]⟩

set_option maxHeartbeats 8000000 in
set_option maxRecDepth 100000 in
theorem storeCounts_main (v : Value) (l : List Act23) (w : World) (h : kAct23.slice.At [] w [v] l) (hf : few23 l = true) :
    Calls Try.prog 8 #[v] w fun e w' => e = .returned (.bool true) ∧ Below w.heap.size w w' := by
  obtain ⟨ao, cap, rfl, hl, hcap⟩ := Kd.slice_form h
  unfold maxLen at hcap
  obtain ⟨W0, hW0⟩ : ∃ W0, w.alloc (.cells #[.bool false] 4) = W0 := ⟨_, rfl⟩
  have hrb0 : RB 4 w W0 := by rw [← hW0]; exact RB.start _ w
  have RB0 := Lib.hid hrb0
  have HA := Lib.hid (awake23_calls W0)
  have H0 := Lib.hid (h.below hrb0.below)
  have HF := Lib.hid hf
  have hz0 := hrb0.lt
  clear h hf hrb0
  refine calls_of_wp_marks Try.func8 rfl ?_
  simp only [Try.ntmps8, List.size_toArray, List.length_cons, List.length_nil, Nat.reduceAdd, Nat.reduceSub, Array.replicate_succ, Array.replicate_zero, List.push_toArray, List.append_toArray, List.nil_append, List.cons_append]
  go_wp2_with fail
  refine HA.out.mono ?_
  rintro e w1 ⟨rfl, hb1⟩
  clear hW0
  have RB1 := Lib.hid (RB0.out.call hb1)
  have H1 := Lib.hid (H0.out.below hb1)
  have HFW := Lib.hid (few23_calls _ l [] w1 H1.out)
  clear hb1 HA
  go_wp2_with fail
  refine HFW.out.mono ?_
  rw [HF.out]
  rintro e w1' ⟨rfl, rfl⟩
  have HN := Lib.hid (new_calls' w1)
  go_wp2_with fail
  refine HN.out.mono ?_
  rintro e w2 ⟨p, m, rfl, hs2, hp2, hm2, hb2⟩
  have hz2 := hb2.size
  have RB2 := Lib.hid (RB1.out.call hb2)
  have hpl := block_lt hs2.blk
  have hml : m < w2.heap.size := by obtain ⟨_, _, h1, _⟩ := hs2.map; exact block_lt h1
  have hpm := hs2.ne
  obtain ⟨W3, hW3⟩ : ∃ W3, w2.alloc (.cells #[.pointer (some ⟨p, 0, none⟩)] 47) = W3 := ⟨_, rfl⟩
  have hu3 : Upd [] w2 W3 := by rw [← hW3]; exact Upd.alloc [] w2 _
  have hr3 : W3.heap[w2.heap.size]? = some (.cells #[.pointer (some ⟨p, 0, none⟩)] 47) := by rw [← hW3]; exact Go.heap_alloc_new w2 _
  have HS3 := Lib.hid (hs2.upd hu3 (by simp) (by simp))
  have H3 := Lib.hid (H1.out.upd ((Upd.ofBelow hb2 []).trans hu3) (by simp) (M' := [p, m]) (by simp; omega))
  have RB3 := Lib.hid (RB2.out.upd hu3 (by simp))
  have HC3 := Lib.hid hr3
  have hz3 := hu3.size
  have hl3 := block_lt hr3
  have hz1 := RB1.out.lt
  have hc3 : W3.cell? ⟨w2.heap.size, 0, none⟩ = some (.pointer (some ⟨p, 0, none⟩)) := by rw [cell_of_block hr3]; rfl
  clear hb2 hs2 hu3 hr3 HN
  go_wp2_with fail
  clear hW3 hc3
  refine wp_loop (CountsInv w W3 ao cap l p m w2.heap.size) (fun a' _ => l.length - (intOf (a'.tmps.getD 4 undef)).toNat) ?_ ?_
  · exact CountsInv.of 0 [] [] (Nat.zero_le _) HS3.out FineC.nil (Upd.refl _ _) (by simp) (by simp) (by kernel_rfl)
  intro a0 wr hinv
  obtain ⟨⟨k, L, Ds, u, hk, hs, hfc, hup, hD, hnd, ha⟩⟩ := hinv
  subst ha
  try dsimp only
  have HS := Lib.hid hs
  have HFC := Lib.hid hfc
  have HU := Lib.hid hup
  have HD := Lib.hid hD
  have HND := Lib.hid hnd
  have hzr := hup.size
  clear hs hfc hup hD hnd
  by_cases hlt : k < l.length
  · obtain ⟨x, hxk⟩ : ∃ x, l[k]? = some x := ⟨_, List.getElem?_eq_getElem hlt⟩
    have hsm := few23_mem HF.out x (List.mem_of_getElem? hxk)
    obtain ⟨b, o, c', hv, hbs, hbM, _, _, g0, g1, g2, g3, g4, d0, d1, d2, d3, d4⟩ := act23_at (H3.out.upd HU.out (fun k hk => hk) (fun k hk => .inl hk) (M' := [p, m])) hxk
    simp at hv
    obtain ⟨rfl, rfl⟩ := hv
    have hi1 : (k : Int) < (l.length : Int) := by omega
    have hi0 : (0 : Int) ≤ (k : Int) := by omega
    have cS : wr.cell? ⟨w2.heap.size, 0, none⟩ = some (.pointer (some ⟨p, 0, none⟩)) := by rw [cell_of_block (upd_far HU.out HC3.out (by simp; omega))]; rfl
    have HKP : Hid (∀ W, Upd [p, m] wr W → W.cell? ⟨w2.heap.size, 0, none⟩ = some (.pointer (some ⟨p, 0, none⟩)) ∧ W.cell? ⟨b, o + k * 5 + 1, none⟩ = some (.string x.name) ∧ W.cell? ⟨b, o + k * 5 + 2, none⟩ = some (.string x.text) ∧ W.cell? ⟨b, o + k * 5 + 3, none⟩ = some (.int .i64 x.at_) ∧ W.cell? ⟨b, o + k * 5 + 4, none⟩ = some (.int .u8 x.by_)) := Lib.hid (fun W hu =>
      ⟨(hu.cell (a := ⟨w2.heap.size, 0, none⟩) (cell_lt cS) (by simp; omega)).trans cS, (hu.cell (a := ⟨b, _, none⟩) hbs hbM).trans d1, (hu.cell (a := ⟨b, _, none⟩) hbs hbM).trans d2, (hu.cell (a := ⟨b, _, none⟩) hbs hbM).trans d3, (hu.cell (a := ⟨b, _, none⟩) hbs hbM).trans d4⟩)
    have hby := u8_range' g4
    obtain ⟨L', hL'⟩ : ∃ L', stepC L x = L' := ⟨_, rfl⟩
    have HFC' : Hid (FineC L') := Lib.hid (by rw [← hL']; exact stepC_fine HFC.out x)
    have hcase : (x.kind == 0) = true ∨ ((x.kind == 0) = false ∧ (x.kind == 1) = true) ∨ ((x.kind == 0) = false ∧ (x.kind == 1) = false) := by cases (x.kind == 0) <;> cases (x.kind == 1) <;> simp
    rcases hcase with h0 | ⟨h0, h1⟩ | ⟨h0, h1⟩
    case' inl =>
      have HACT : Hid (∀ W, Upd [] wr W → Calls Try.prog 28 #[.pointer (some ⟨p, 0, none⟩), .string x.name, .string x.text] W fun e w' => (∃ r, e = .returned (.int .i64 r)) ∧ IsStore w' p m L' ∧ Upd [p, m] wr w') := Lib.hid (fun W hu => by
        refine (write_calls x.name x.text W p m L (HS.out.upd hu (by simp) (by simp)) (by omega) HFC.out.len).mono ?_
        rintro e w' ⟨rfl, q1, q2⟩
        have e1 : stepC L x = (fwrite L x.name x.text).1 := by unfold stepC; rw [if_pos h0]
        exact ⟨⟨_, rfl⟩, by rw [← hL', e1]; exact q1, (hu.mono (by simp)).trans q2⟩)
      clear hL' hxk g0 g1 g2 g3 g4 d3 d4 hsm hby
      go_wp2_with fail
      go_region_held3 (fun w' => w'.cell? ⟨w2.heap.size, 0, none⟩ = some (.pointer (some ⟨p, 0, none⟩)) ∧ w'.cell? ⟨b, o + k * 5 + 1, none⟩ = some (.string x.name) ∧ w'.cell? ⟨b, o + k * 5 + 2, none⟩ = some (.string x.text))
        (first | exact ⟨kA.1, kA.2.1, kA.2.2.1⟩ | exact ⟨(HKP.out _ (Upd.drewN _ wr _)).1, (HKP.out _ (Upd.drewN _ wr _)).2.1, (HKP.out _ (Upd.drewN _ wr _)).2.2.1⟩)
        (first | (go_at_call 28
                  refine (HACT.out _ (Upd.drewN [] wr _)).mono ?_
                  rintro e wA ⟨⟨r, rfl⟩, hsA, huA⟩
                  have HSA := Lib.hid hsA
                  have HUA := Lib.hid huA
                  have kA := HKP.out _ huA
                  clear hsA huA))
    case' inr.inl =>
      have HACT : Hid (∀ W, Upd [] wr W → Calls Try.prog 30 #[.pointer (some ⟨p, 0, none⟩), .string x.name] W fun e w' => (∃ r, e = .returned (.int .i64 r)) ∧ IsStore w' p m L' ∧ Upd [p, m] wr w') := Lib.hid (fun W hu => by
        refine (remove_calls x.name W p m L (HS.out.upd hu (by simp) (by simp))).mono ?_
        rintro e w' ⟨rfl, q1, q2⟩
        have e1 : stepC L x = (fremove L x.name).1 := by unfold stepC; rw [if_neg (by rw [h0]; simp), if_pos h1]
        exact ⟨⟨_, rfl⟩, by rw [← hL', e1]; exact q1, (hu.mono (by simp)).trans q2⟩)
      clear hL' hxk g0 g1 g2 g3 g4 d2 d3 d4 hsm hby
      go_wp2_with fail
      go_region_held3 (fun w' => w'.cell? ⟨w2.heap.size, 0, none⟩ = some (.pointer (some ⟨p, 0, none⟩)) ∧ w'.cell? ⟨b, o + k * 5 + 1, none⟩ = some (.string x.name))
        (first | exact ⟨kA.1, kA.2.1⟩ | exact ⟨(HKP.out _ (Upd.drewN _ wr _)).1, (HKP.out _ (Upd.drewN _ wr _)).2.1⟩)
        (first | (go_at_call 30
                  refine (HACT.out _ (Upd.drewN [] wr _)).mono ?_
                  rintro e wA ⟨⟨r, rfl⟩, hsA, huA⟩
                  have HSA := Lib.hid hsA
                  have HUA := Lib.hid huA
                  have kA := HKP.out _ huA
                  clear hsA huA))
    case' inr.inr =>
      have HACT : Hid (∀ W, Upd [] wr W → Calls Try.prog 32 #[.pointer (some ⟨p, 0, none⟩), .string x.name, .int .i64 x.at_, .int .u8 x.by_] W fun e w' => (∃ r, e = .returned (.int .i64 r)) ∧ IsStore w' p m L' ∧ Upd [p, m] wr w') := Lib.hid (fun W hu => by
        refine (spoil_calls x.name x.at_ x.by_ W p m L (HS.out.upd hu (by simp) (by simp)) hby.1 hby.2).mono ?_
        rintro e w' ⟨rfl, q1, q2⟩
        have e1 : stepC L x = (fspoil L x.name x.at_ x.by_).1 := by unfold stepC; rw [if_neg (by rw [h0]; simp), if_neg (by rw [h1]; simp)]
        exact ⟨⟨_, rfl⟩, by rw [← hL', e1]; exact q1, (hu.mono (by simp)).trans q2⟩)
      clear hL' hxk g0 g1 g2 g3 g4 d2 hsm hby
      go_wp2_with fail
      go_region_held3 (fun w' => w'.cell? ⟨w2.heap.size, 0, none⟩ = some (.pointer (some ⟨p, 0, none⟩)) ∧ w'.cell? ⟨b, o + k * 5 + 1, none⟩ = some (.string x.name) ∧ w'.cell? ⟨b, o + k * 5 + 3, none⟩ = some (.int .i64 x.at_) ∧ w'.cell? ⟨b, o + k * 5 + 4, none⟩ = some (.int .u8 x.by_))
        (first | exact ⟨kA.1, kA.2.1, kA.2.2.2.1, kA.2.2.2.2⟩ | exact ⟨(HKP.out _ (Upd.drewN _ wr _)).1, (HKP.out _ (Upd.drewN _ wr _)).2.1, (HKP.out _ (Upd.drewN _ wr _)).2.2.2.1, (HKP.out _ (Upd.drewN _ wr _)).2.2.2.2⟩)
        (first | (go_at_call 32
                  refine (HACT.out _ (Upd.drewN [] wr _)).mono ?_
                  rintro e wA ⟨⟨r, rfl⟩, hsA, huA⟩
                  have HSA := Lib.hid hsA
                  have HUA := Lib.hid huA
                  have kA := HKP.out _ huA
                  clear hsA huA))
    all_goals
      have hzA := HUA.out.size
      obtain ⟨W5, hW5⟩ : ∃ W5, (wA.alloc (.cells #[.int .i64 0] 3)).alloc (.cells #[.string ⟨#[]⟩] 9) = W5 := ⟨_, rfl⟩
      have hu5 : Upd [] wA W5 := by rw [← hW5]; exact (Upd.alloc [] wA _).trans (Upd.alloc [] _ _)
      have hn5 : W5.heap[wA.heap.size]? = some (.cells #[.int .i64 0] 3) := by rw [← hW5]; exact alloc2_fst wA _ _
      have hl5 : W5.heap[wA.heap.size + 1]? = some (.cells #[.string ⟨#[]⟩] 9) := by rw [← hW5]; exact alloc2_snd wA _ _
      have hz5 : W5.heap.size = wA.heap.size + 2 := by rw [← hW5]; simp
      have hu35 : Upd [p, m] W3 W5 := (HU.out.trans HUA.out).trans (hu5.mono (by simp))
      have cS5 : W5.cell? ⟨w2.heap.size, 0, none⟩ = some (.pointer (some ⟨p, 0, none⟩)) := (hu5.cell (a := ⟨w2.heap.size, 0, none⟩) (cell_lt kA.1) (by simp)).trans kA.1
      have HS5 := Lib.hid (HSA.out.upd hu5 (by simp) (by simp))
      have hfl := files_calls p m L' W5 HS5.out (fun y hy => by have := HFC'.out.ok y hy; unfold fname at this; simp at this; unfold maxLen; omega) (by have := HFC'.out.len; omega) [wA.heap.size, wA.heap.size + 1] (by simp; omega) (by simp; omega) (by simp; omega)
      rw [← hW5] at hfl cS5
      have HFL := Lib.hid hfl
      have HW5 := Lib.hid hW5
      have HU35 := Lib.hid hu35
      have HN5 := Lib.hid hn5
      have HL5 := Lib.hid hl5
      have HD5 : Hid (∀ D ∈ Ds, w2.heap.size < D.1 ∧ D.1 < wA.heap.size ∧ W5.heap[D.1]? = some (.deferred (some []))) := Lib.hid (fun D hD => by
        obtain ⟨q1, q2⟩ := HD.out D hD
        have q3 := block_lt q2
        exact ⟨q1, by omega, upd_far hu5 (upd_far HUA.out q2 (by simp; omega)) (by simp)⟩)
      clear HACT cS hu5 hn5 hl5 hu35 hfl hW5 kA
      go_wp2_with fail
      refine HFL.out.mono ?_
      rw [HW5.out]
      rintro e w6 ⟨bf, rfl, hb6, hit⟩
      have hz6 := hb6.size
      have HU36 := Lib.hid (HU35.out.trans' (Upd.ofBelow hb6 []) (by simp))
      have HS6 := Lib.hid (HS5.out.upd (Upd.ofBelow hb6 []) (by simp) (by simp))
      have HN6 := Lib.hid ((hb6.block _ (by omega)).trans HN5.out)
      have HL6 := Lib.hid ((hb6.block _ (by omega)).trans HL5.out)
      have HD6 : Hid (∀ D ∈ Ds, w2.heap.size < D.1 ∧ D.1 < wA.heap.size ∧ w6.heap[D.1]? = some (.deferred (some []))) := Lib.hid (fun D hD => by
        obtain ⟨q1, q2, q3⟩ := HD5.out D hD
        exact ⟨q1, q2, (hb6.block _ (block_lt q3)).trans q3⟩)
      have HIT := Lib.hid hit
      clear hb6 hit HFL cS5
      go_wp2_with fail
      refine wp_range (xs := filesOf L') (val := valFile) [wA.heap.size, wA.heap.size + 1] rfl (enters_it Try.func51 rfl rfl) (fun W hu hsz => ?_)
        (fun pre M W => M = [wA.heap.size, wA.heap.size + 1] ∧ W.heap[wA.heap.size]? = some (.cells #[.int .i64 (sumOf pre)] 3) ∧ W.heap[wA.heap.size + 1]? = some (.cells #[.string (lastOf pre)] 9) ∧ Upd [wA.heap.size, wA.heap.size + 1] w6 W)
        (fun c pre M W => False) ?_ ?_ ?_ ?_ ?_ ?_ ?_ ?_ ?_
      · exact HIT.out W _ _ (hu.mono (by simp)) (by omega) (fun k hk => .inl hk)
      · rintro pre M W W' S hS ⟨rfl, a3, a4, a5⟩ hu
        exact ⟨rfl, upd_far hu a3 (fun h => (hS _ h).2 (by simp)), upd_far hu a4 (fun h => (hS _ h).2 (by simp)), a5.trans' hu (fun k hk => .inr (hS k hk).1)⟩
      · rintro c pre M W W' S hS h _
        exact h.elim
      · rintro M W W' x args hv hu
        exact hv
      · rintro W M x args hv
        rw [hv]
        rfl
      · exact ⟨rfl, HN6.out, HL6.out, Upd.refl _ _⟩
      · simp
        omega
      · rintro l0 pre y rest M W0' W args hxs ⟨rfl, a3, a4, a5⟩ hv _ hl1 hl2 hl3 hM
        have hv : args = #[.string y.1, .int .i64 y.2] := hv
        subst hv
        obtain ⟨⟨t, ft, hts, _⟩, hle, s1, s2, s3⟩ := files_at HFC'.out hxs
        have hfew := HS6.out.few
        obtain ⟨y1, y2⟩ := y
        simp only at ft hts hle s1 s2 s3
        have hrd := read_calls y1 W p m L' (HS6.out.upd a5 (by simp; omega) (by simp; omega))
        rw [ft] at hrd
        have HRD := Lib.hid hrd
        have hc5 : W.cell? ⟨wA.heap.size, 0, none⟩ = some (.int .i64 (sumOf pre)) := by rw [cell_of_block a3]; rfl
        have hc6 : W.cell? ⟨wA.heap.size + 1, 0, none⟩ = some (.string (lastOf pre)) := by rw [cell_of_block a4]; rfl
        have hf5 : W.frozen? ⟨wA.heap.size, 0, none⟩ = false := frozen_of_block a3
        have hf6 : W.frozen? ⟨wA.heap.size + 1, 0, none⟩ = false := frozen_of_block a4
        have cS7 : W.cell? ⟨w2.heap.size, 0, none⟩ = some (.pointer (some ⟨p, 0, none⟩)) := by rw [cell_of_block (upd_far ((HU36.out.mono (T := [p, m, wA.heap.size, wA.heap.size + 1]) (fun k hk _ => by simp at hk ⊢; omega)).trans (a5.mono (by simp))) HC3.out (by simp; omega))]; rfl
        have hsn := sumOf_snoc pre (y1, y2)
        have hln := lastOf_snoc pre (y1, y2)
        obtain ⟨s, hs0⟩ : ∃ s, sumOf pre = s := ⟨_, rfl⟩
        obtain ⟨la, hla0⟩ : ∃ la, lastOf pre = la := ⟨_, rfl⟩
        rw [hs0] at a3 hc5 s1 s3 hsn
        rw [hla0] at a4 hc6 hle
        have A3 := Lib.hid a3
        have A4 := Lib.hid a4
        have A5 := Lib.hid a5
        have HSN := Lib.hid hsn
        have HLN := Lib.hid hln
        have hne : ((t.size : Int) != y2) = false := by simp [hts]
        have hadd : IntKind.i64.wrap (s + y2) = s + y2 := IntWalk.i64_in _ ⟨by omega, by omega⟩
        clear hxs a3 a4 a5 hl3 hM hsn hln hs0 hla0 hrd ft hts
        gi_wp2
        refine ⟨trivial, ?_⟩
        gi_wp2
        refine ⟨rfl, (calls_round HRD.out).mono ?_⟩
        rintro e w' ⟨rfl, rfl⟩
        gi_wp2
        have q1 := heap_setCell_same W wA.heap.size 0 _ _ (.int .i64 (s + y2)) A3.out
        have q2 := upd_far (Upd.setCell (S := [wA.heap.size]) (w := W) (p := ⟨wA.heap.size, 0, none⟩) (by simp) (.int .i64 (s + y2))) A4.out (by simp)
        have q3 := heap_setCell_same (W.setCell ⟨wA.heap.size, 0, none⟩ (.int .i64 (s + y2))) (wA.heap.size + 1) 0 _ _ (.string y1) q2
        have q4 := upd_far (Upd.setCell (S := [wA.heap.size + 1]) (w := W.setCell ⟨wA.heap.size, 0, none⟩ (.int .i64 (s + y2))) (p := ⟨wA.heap.size + 1, 0, none⟩) (by simp) (.string y1)) q1 (by simp)
        have hU : Upd [wA.heap.size, wA.heap.size + 1] W ((W.setCell ⟨wA.heap.size, 0, none⟩ (.int .i64 (s + y2))).setCell ⟨wA.heap.size + 1, 0, none⟩ (.string y1)) := (Upd.setCell (by simp) _).trans (Upd.setCell (by simp) _)
        have b1 := block_lt A3.out
        have b2 := block_lt A4.out
        exact ⟨hU, _, (fun k hk => by simp at hk; exact ⟨by omega, .inl hk⟩), rfl, by rw [HSN.out]; simpa using q4, by rw [HLN.out]; simpa using q3, A5.out.trans hU⟩
      · rintro M W7 ⟨rfl, a3, a4, a5⟩ hM hK
        simp only [Exit.inBlock, Exit.then]
        go_at_K
        rw [files_sum HFC'.out.nd] at a3
        have HS7 := Lib.hid (HS6.out.upd a5 (by simp; omega) (by simp; omega))
        have HU37 : Hid (Upd [p, m] W3 W7) := Lib.hid (HU36.out.trans' a5 (fun k hk => .inr (by simp at hk; omega)))
        have hck : W7.cell? ⟨wA.heap.size, 0, none⟩ = some (.int .i64 (fsum L')) := by rw [cell_of_block a3]; rfl
        have cS7 : W7.cell? ⟨w2.heap.size, 0, none⟩ = some (.pointer (some ⟨p, 0, none⟩)) := by rw [cell_of_block (upd_far HU37.out HC3.out (by simp; omega))]; rfl
        have HBY : Hid (∀ W, Upd [] W7 W → Calls Try.prog 38 #[.pointer (some ⟨p, 0, none⟩)] W fun e w' => e = .returned (.int .i64 (fsum L')) ∧ Upd [] W7 w') := Lib.hid (fun W hu => by
          refine (bytes_calls W p m L' (HS7.out.upd hu (by simp) (by simp))).mono ?_
          rintro e w' ⟨rfl, rfl⟩
          exact ⟨rfl, hu⟩)
        have HD7 : Hid (∀ D ∈ (w6.heap.size, (#[] : Array Value)) :: Ds, w2.heap.size < D.1 ∧ W7.heap[D.1]? = some (.deferred (some []))) := Lib.hid (fun D hD => by
          rcases List.mem_cons.1 hD with rfl | hD
          · exact ⟨by show w2.heap.size < w6.heap.size; omega, hK⟩
          · obtain ⟨q1, q2, q3⟩ := HD6.out D hD
            exact ⟨q1, upd_far a5 q3 (by simp; omega)⟩)
        have HND7 : Hid ((((w6.heap.size, (#[] : Array Value)) :: Ds).map (·.1)).Nodup) := Lib.hid (by
          rw [List.map_cons, List.nodup_cons]
          refine ⟨fun hm => ?_, HND.out⟩
          obtain ⟨D, hD, e⟩ := List.mem_map.1 hm
          have := (HD6.out D hD).2.1
          omega)
        obtain ⟨FF, hFF⟩ : ∃ FF : Int, (fsum L' : Int) = FF := ⟨_, rfl⟩
        rw [hFF] at hck HBY
        have hne : (FF != FF) = false := by simp
        clear a3 a4 a5 hM hK hFF
        go_wp2_with fail
        go_region_held3 (fun w' => w'.cell? ⟨wA.heap.size, 0, none⟩ = some (.int .i64 FF) ∧ w'.cell? ⟨w2.heap.size, 0, none⟩ = some (.pointer (some ⟨p, 0, none⟩)))
          (first | exact kX | exact ⟨hck, cS7⟩)
          (first | (go_at_call 38
                    refine (HBY.out _ (Upd.drewN [] W7 _)).mono ?_
                    rintro e wX ⟨rfl, huX⟩
                    have HUX := Lib.hid huX
                    have kX := And.intro ((huX.cell (a := ⟨wA.heap.size, 0, none⟩) (cell_lt hck) (by simp)).trans hck) ((huX.cell (a := ⟨w2.heap.size, 0, none⟩) (cell_lt cS7) (by simp)).trans cS7)
                    clear huX))
        go_wp2_with fail
        refine ⟨CountsInv.of (k + 1) L' ((w6.heap.size, #[]) :: Ds) (by omega) (HS7.out.upd HUX.out (by simp) (by simp)) HFC'.out (HU37.out.trans (HUX.out.mono (by simp)))
          (fun D hD => ⟨(HD7.out D hD).1, upd_far HUX.out (HD7.out D hD).2 (by simp)⟩) HND7.out (by kernel_rfl), ?_⟩
        simp [intOf]
        omega
      · rintro c pre M W hpre h
        exact h.elim
  · have hRB := RB3.out.upd HU.out (by simp; omega)
    have hcR := hRB.c
    have hfR := hRB.f
    have HRB := Lib.hid hRB
    clear hRB
    go_wp2_with fail
    exact HRB.out.fin rfl Try.underlying4 rfl Ds (fun D hD => ⟨by have := (HD.out D hD).1; omega, (HD.out D hD).2⟩) HND.out

set_option maxHeartbeats 2000000 in
set_option maxRecDepth 100000 in
theorem StoreCounts_walk (v : Value) (l : List Act23) (w : World) (h : kAct23.slice.At [] w [v] l) :
    Calls Try.prog 8 #[v] w fun e w' => e = .returned (.bool true) ∧ Below w.heap.size w w' := by
  cases hf : few23 l with
  | true => exact storeCounts_main v l w h hf
  | false =>
    obtain ⟨ao, cap, rfl, hl, hcap⟩ := Kd.slice_form h
    obtain ⟨W0, hW0⟩ : ∃ W0, w.alloc (.cells #[.bool false] 4) = W0 := ⟨_, rfl⟩
    have hrb0 : RB 4 w W0 := by rw [← hW0]; exact RB.start _ w
    have RB0 := Lib.hid hrb0
    have HA := Lib.hid (awake23_calls W0)
    have H0 := Lib.hid (h.below hrb0.below)
    have HF := Lib.hid hf
    clear h hf hrb0
    refine calls_of_wp_marks Try.func8 rfl ?_
    simp only [Try.ntmps8, List.size_toArray, List.length_cons, List.length_nil, Nat.reduceAdd, Nat.reduceSub, Array.replicate_succ, Array.replicate_zero, List.push_toArray, List.append_toArray, List.nil_append, List.cons_append]
    go_wp2_with fail
    refine HA.out.mono ?_
    rintro e w1 ⟨rfl, hb1⟩
    clear hW0
    have RB1 := Lib.hid (RB0.out.call hb1)
    have H1 := Lib.hid (H0.out.below hb1)
    have HFW := Lib.hid (few23_calls _ l [] w1 H1.out)
    have hc1 := RB1.out.c
    have hf1 := RB1.out.f
    clear hb1 HA
    go_wp2_with fail
    refine HFW.out.mono ?_
    rw [HF.out]
    rintro e w1' ⟨rfl, rfl⟩
    go_wp2_with fail
    exact RB1.out.fin rfl Try.underlying4 rfl [] (by simp) (by simp)

end Go.Proofs.Yteafbhpjjibdeaa

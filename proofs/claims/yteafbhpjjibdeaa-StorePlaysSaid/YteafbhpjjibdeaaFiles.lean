/-
The store's files, in the order of their names.
-/
import Derived.Test.YteafbhpjjibdeaaSorted
import Derived.Test.YteafbhpjjibdeaaStoreApart
import Derived.Shelf.SlMaps.Clone
namespace Go.Proofs.Yteafbhpjjibdeaa
set_option linter.unusedVariables false
set_option linter.unusedSimpArgs false
open Go.RowKit

attribute [local go_sem] Oper.semAt_some

set_option maxHeartbeats 1000000 in
set_option maxRecDepth 100000 in
theorem maps_clone_calls (m : Nat) (es : Array MapEntry) (clock : Nat) (w : World) (hm : w.heap[m]? = some (.map es clock)) :
    Calls Try.prog 52 #[.map (some m)] w fun e w' => e = .returned (.map (some w.heap.size)) ∧ w' = w.alloc (.map es clock) := by
  have hq := fun w => run_eql_map_nil_sl (P := Try.prog) w 83 _ _ (some m) Try.underlying83
  go_enter Try.func52, Try.ntmps52
  go_wp2
  rw [run_callFunc_extern Try.func62 (by kernel_rfl) (by kernel_rfl) (by kernel_rfl) (e := Extern.MapsClone.clone) (by kernel_rfl), run_maps_clone_sl w 83 hm]
  simp only [Result.andThen]
  rw [Oper.upon_value]
  go_wp2
  rw [run_typeAssert_map_sl _ 83 _ _ _ _ Try.underlying83]
  simp only [Result.andThen]
  rw [Oper.upon_value]
  go_wp2
  go_ret
  exact ⟨rfl, rfl⟩

theorem strs_cell' {M : List Nat} {w : World} {ao : Option Addr} {n cap : Nat} {ss : List ByteArray} (h : Kd.str.slice.At M w [.slice ao n cap] ss) {i : Nat} {x : ByteArray} (hx : ss[i]? = some x) :
    ∃ b o, ao = some ⟨b, o, none⟩ ∧ w.cell? ⟨b, o + i, none⟩ = some (.string x) := by
  obtain ⟨ao', cap', e, h1, h2, h3⟩ := h.out
  simp at e
  obtain ⟨rfl, rfl, rfl⟩ := e
  obtain ⟨b, o, rfl, _, _, cs, hr, hc⟩ := h3 i x hx
  have hr1 := hr.1
  subst hr1
  exact ⟨b, o, rfl, by simpa [Kd.str] using hc 0 _ rfl⟩

theorem run_lookup_smap1 {P : Program} {T K E : TypeId} {w : World} {m : Nat} {es : Array MapEntry} {clock : Nat} {L : List (ByteArray × ByteArray)} (n : ByteArray)
    (hT : P.underlying T = some (.map K E)) (hK : P.underlying K = some .string) (hz : ∀ W : World, (zeroValue E).run P W = .ok (.string ⟨#[]⟩) W)
    (hm : w.heap[m]? = some (.map es clock)) (hr : MapRep es clock L) :
    (Instr.lookup T (.map (some m)) (.string n) false).run P w = .ok (.string ((sfind L n).getD ⟨#[]⟩)) w := by
  have hf := run_find hK hr (n := n)
  have hs := sidx_sfind n L 0
  rw [← hs]
  have hg := MapKept.run_getObj_map (P := P) hm
  cases hx : sidx L n 0 with
  | none => simp [Instr.lookup, run_underlying hT, hg, run_key hK, hf, hx, hz, Result.andThen]
  | some y => simp [Instr.lookup, run_underlying hT, hg, run_key hK, hf, hx, Result.andThen]

def namesOf (L : List (ByteArray × ByteArray)) : List ByteArray := sortedNames (L.map (·.1))
def sizeAt (L : List (ByteArray × ByteArray)) (n : ByteArray) : ByteArray × Int := (n, (((sfind L n).getD ⟨#[]⟩).size : Int))
/-- Each file's name and size, in the order of the names. -/
def filesOf (L : List (ByteArray × ByteArray)) : List (ByteArray × Int) := (namesOf L).map (sizeAt L)
def valFile (W : World) (M : List Nat) (x : ByteArray × Int) (args : Array Value) : Prop := args = #[.string x.1, .int .i64 x.2]

set_option maxHeartbeats 4000000 in
set_option maxRecDepth 100000 in
theorem files_it (bx p m : Nat) (L : List (ByteArray × ByteArray)) (t : TypeId) (w : World) (hb : w.heap[bx]? = some (.cells #[.pointer (some ⟨p, 0, none⟩)] t)) (hs : IsStore w p m L) (hk : ∀ x ∈ L.map (·.1), x.size ≤ maxLen) (hlen : L.length ≤ 1099511627776) (N : List Nat) (h1 : bx ∉ N) (h2 : p ∉ N) (h3 : m ∉ N) :
    ItFrom Try.prog w N 51 #[.pointer (some ⟨bx, 0, none⟩)] (filesOf L) valFile := by
  unfold filesOf namesOf
  obtain ⟨xs, hxs⟩ : ∃ xs, sortedNames (L.map (·.1)) = xs := ⟨_, rfl⟩
  rw [hxs]
  have HXS := Lib.hid hxs
  clear hxs
  intro W0 lp M0 hW hlp hM0 J Jx hJ hY hlpl hMl h0
  obtain ⟨es, clock, hm0, hr⟩ := hs.map
  have hbx := block_lt hb
  have B0 : W0.heap[bx]? = some (.cells #[.pointer (some ⟨p, 0, none⟩)] t) := (hW.block bx hbx h1).trans hb
  have P0 : W0.heap[p]? = some (.cells #[.map (some m), .int .i64 (fsum L)] 85 (0, 0)) := upd_far hW hs.blk h2
  have MM0 : W0.heap[m]? = some (.map es clock) := upd_far hW hm0 h3
  have hs0 := hW.size
  have c0 : W0.cell? ⟨bx, 0, none⟩ = some (.pointer (some ⟨p, 0, none⟩)) := by rw [cell_of_block B0]; rfl
  have c1 : W0.cell? ⟨p, 0, none⟩ = some (.map (some m)) := by rw [cell_of_block P0]; rfl
  have HCL := Lib.hid (maps_clone_calls m es clock W0 MM0)
  obtain ⟨W1, hW1⟩ : ∃ W1, W0.alloc (.map es clock) = W1 := ⟨_, rfl⟩
  have hu1 : Upd [] W0 W1 := by rw [← hW1]; exact Upd.alloc [] W0 _
  have hi1 : W1.heap[W0.heap.size]? = some (.map es clock) := by rw [← hW1]; exact Go.heap_alloc_new W0 _
  have HK1 := Lib.hid (maps_keys_calls W0.heap.size es clock L W1 hi1 hr [] (by simp) (by simp))
  have hz1 := hu1.size
  have hl1 := block_lt hi1
  have HI1 := Lib.hid hi1
  have HU1 := Lib.hid hu1
  have HW1 := Lib.hid hW1
  have HR := Lib.hid hr
  have HJ := Lib.hid hJ
  have HY := Lib.hid hY
  have HM := Lib.hid hMl
  have H0 := Lib.hid h0
  have HKK := Lib.hid hk
  clear B0 P0 MM0 hJ hY hb hMl hM0 h0 hW hs hm0 hr hu1 hi1 hW1 h1 h2 h3 hk
  refine callsIn_of_wp Try.func51 rfl trivial ?_
  simp only [Try.ntmps51, List.size_toArray, List.length_cons, List.length_nil, Nat.reduceAdd, Nat.reduceSub, Array.replicate_succ, Array.replicate_zero, List.push_toArray, List.append_toArray, List.nil_append, List.cons_append]
  gi_wp2
  refine ⟨trivial, rfl, (calls_in HCL.out).mono ?_⟩
  rintro e w' ⟨rfl, hw'⟩
  rw [HW1.out] at hw'
  subst hw'
  clear c0 c1
  gi_wp2
  refine ⟨trivial, rfl, (calls_in HK1.out).mono ?_⟩
  rintro e w2 ⟨bk, rfl, hb2, hit⟩
  have hz2 := hb2.size
  have hkl : (L.map (·.1)).length ≤ 1099511627776 := by simpa using hlen
  have HS2 := Lib.hid (sorted_str_calls 64 _ (L.map (·.1)) w2 (enters_it Try.func64 rfl rfl) [] hit HKK.out hkl (lp :: M0) (fun k hk => by
    rcases List.mem_cons.1 hk with rfl | hk
    · omega
    · have := HM.out k hk; omega))
  have HU2 := Lib.hid (HU1.out.trans (Upd.ofBelow hb2 []))
  have HI2 := Lib.hid ((hb2.block _ hl1).trans HI1.out)
  clear hb2 hit HK1
  gi_wp2
  refine ⟨trivial, rfl, (calls_in HS2.out).mono ?_⟩
  rintro e w3 ⟨v3, rfl, hb3, hr3⟩
  have hz3 := hb3.size
  have hu3 : Upd [] W0 w3 := HU2.out.trans (Upd.ofBelow hb3 [])
  have HI3 := Lib.hid ((hb3.block _ (block_lt HI2.out)).trans HI2.out)
  have HJ3 := Lib.hid (HJ.out [] M0 W0 w3 [] (by simp) H0.out hu3)
  rw [HXS.out] at hr3
  obtain ⟨ao, cap, rfl, hl, hcap⟩ := Kd.slice_form hr3
  unfold maxLen at hcap
  have HR3 := Lib.hid hr3
  have HM3 : Hid (∀ k, k ∈ M0 → k < w3.heap.size) := Lib.hid (fun k hk => by have := HM.out k hk; omega)
  have HN3 : Hid (∀ k, k ∈ M0 → k ≠ W0.heap.size) := Lib.hid (fun k hk => by have := HM.out k hk; omega)
  clear hb3 hr3 hu3 HS2
  gi_wp2
  gi_loopw [15] (fun i wr => ∃ (k : Nat) (M : List Nat), k ≤ xs.length ∧ i = .int .i64 k ∧ Hid (J ((xs.map (sizeAt L)).take k) M wr) ∧ Hid (Kd.str.slice.At (lp :: M) wr [.slice ao xs.length cap] xs) ∧ Hid (wr.heap[W0.heap.size]? = some (.map es clock)) ∧ Hid (∀ k, k ∈ M → k < wr.heap.size) ∧ Hid (∀ k, k ∈ M → k ≠ W0.heap.size) ∧ w3.heap.size ≤ wr.heap.size) (fun i _ => xs.length - (intOf i).toNat)
  case atStart => exact ⟨0, M0, Nat.zero_le _, rfl, HJ3.out, HR3.out, HI3.out, HM3.out, HN3.out, Nat.le_refl _⟩
  case round =>
    obtain ⟨k, M, hk, rfl, hj, hd, hmm, hm, hmn, hsz⟩ := hrel
    by_cases hlt : k < xs.length
    · obtain ⟨x, hx⟩ : ∃ x, xs[k]? = some x := ⟨_, List.getElem?_eq_getElem hlt⟩
      obtain ⟨b, o, hao, d0⟩ := strs_cell' hd.out hx
      subst hao
      have hxm : (xs.map (sizeAt L))[k]? = some (sizeAt L x) := by rw [List.getElem?_map, hx]; rfl
      have hlm : k < (xs.map (sizeAt L)).length := by simpa using hlt
      have hrest : xs.map (sizeAt L) = (xs.map (sizeAt L)).take k ++ sizeAt L x :: (xs.map (sizeAt L)).drop (k + 1) := by
        rw [← (List.getElem?_eq_some_iff.1 hxm).2, ← List.drop_eq_getElem_cons hlm, List.take_append_drop]
      have HRST := Lib.hid hrest
      have HTK := Lib.hid (take_snoc' hxm)
      have hlk := run_lookup_smap1 (P := Try.prog) (T := 83) x Try.underlying83 Try.underlying9 zstr hmm.out HR.out
      obtain ⟨s, hse⟩ : ∃ s, (sfind L x).getD ⟨#[]⟩ = s := ⟨_, rfl⟩
      have hsa : sizeAt L x = (x, (s.size : Int)) := by unfold sizeAt; rw [hse]
      rw [hse] at hlk
      obtain ⟨fn, tmps, assign, body, hy, hRR⟩ := HY.out _ _ _ M wr #[.string x, .int .i64 s.size] HRST.out hj.out (by rw [hsa]; rfl) hm.out 0
      have hi1 : (k : Int) < (xs.length : Int) := by omega
      have hi0 : (0 : Int) ≤ (k : Int) := by omega
      clear hx hrest hxm hlm hse hsa
      gi_wp2
      refine ⟨rfl, hRR.mono ?_⟩
      rintro e w4 ⟨M', hU3, hM', hcase⟩
      have hz4 := hU3.size
      have hbl := block_lt hmm.out
      have HD4 := Lib.hid (hd.out.upd hU3 (fun k hk => hk) (M' := lp :: M') (fun k hk => by
        rcases List.mem_cons.1 hk with rfl | hk
        · exact .inl (by simp)
        · rcases (hM' k hk).2 with h | h
          · exact .inl (by simp [h])
          · exact .inr h))
      have HI4 := Lib.hid (upd_far hU3 hmm.out (fun h => by
        rcases List.mem_cons.1 h with h | h
        · omega
        · exact hmn.out _ h rfl))
      have HM4 := Lib.hid (fun k hk => (hM' k hk).1)
      have HN4 : Hid (∀ k, k ∈ M' → k ≠ W0.heap.size) := Lib.hid (fun k hk => by
        rcases (hM' k hk).2 with h | h
        · exact hmn.out k h
        · omega)
      rcases hcase with ⟨rfl, hj3⟩ | ⟨rfl, hj3⟩
      · have HJ4 := Lib.hid hj3
        clear hU3 hM' hj3 hRR hy d0 hlk
        gi_wp2
        go_roundw
        case rel => exact ⟨k + 1, M', by omega, by go_num, by rw [HTK.out]; exact HJ4.out, HD4.out, HI4.out, HM4.out, HN4.out, by omega⟩
        case measure => simp [intOf]; omega
      · have HJ4 := Lib.hid hj3
        clear hU3 hM' hj3 hRR hy d0 hlk
        gi_wp2
        refine bodyPost_ret (results_none rfl _ _ _) rfl ?_
        exact ⟨⟨_, rfl⟩, M', .inr ⟨_, ⟨(xs.map (sizeAt L)).drop (k + 1), by rw [List.append_assoc]; exact HRST.out.symm⟩, HJ4.out⟩⟩
    · gi_wp2
      go_end0
      have hkl : k = xs.length := by omega
      subst hkl
      rw [List.take_of_length_le (by simp)] at hj
      exact ⟨⟨_, rfl⟩, M, .inl hj.out⟩

theorem files_calls (p m : Nat) (L : List (ByteArray × ByteArray)) (w : World) (hs : IsStore w p m L) (hk : ∀ x ∈ L.map (·.1), x.size ≤ maxLen) (hlen : L.length ≤ 1099511627776) (N : List Nat) (hN : ∀ k, k ∈ N → k < w.heap.size) (h2 : p ∉ N) (h3 : m ∉ N) :
    Calls Try.prog 37 #[.pointer (some ⟨p, 0, none⟩)] w fun e w' => ∃ bx, e = .returned (.func (.func 51) #[] #[.pointer (some ⟨bx, 0, none⟩)]) ∧ Below w.heap.size w w' ∧
      ItFrom Try.prog w' N 51 #[.pointer (some ⟨bx, 0, none⟩)] (filesOf L) valFile := by
  have hit : ∀ W t, Upd [] w W → W.heap[w.heap.size]? = some (.cells #[.pointer (some ⟨p, 0, none⟩)] t) → ItFrom Try.prog W N 51 #[.pointer (some ⟨w.heap.size, 0, none⟩)] (filesOf L) valFile := fun W t hu hb =>
    files_it w.heap.size p m L t W hb (hs.upd hu (by simp) (by simp)) hk hlen N (fun h => by have := hN _ h; omega) h2 h3
  have HIT := Lib.hid hit
  have HB := Lib.hid (fun o => (Below.refl _ w).alloc (Nat.le_refl _) o)
  clear hit hs hk hN h2 h3
  go_enter Try.func37, Try.ntmps37
  go_wp2_with fail
  go_ret
  exact ⟨_, rfl, HB.out _, HIT.out _ _ (Upd.alloc [] w _) (Go.heap_alloc_new w _)⟩

end Go.Proofs.Yteafbhpjjibdeaa

/-
The document's files: a row of names and texts: Find, Bytes, without.
-/
import Derived.Test.YteafbhpjjibdeaaFilesP
import Derived.Sort.QuietTacIn
namespace Go.Proofs.Yteafbhpjjibdeaa
set_option linter.unusedVariables false
set_option linter.unusedSimpArgs false
open Go.RowKit

def kFile : Kd (ByteArray × ByteArray) where
  sz := 2
  rep _ _ cs x := cs = [.string x.1, .string x.2] ∧ x.1.size ≤ maxLen ∧ x.2.size ≤ maxLen
  len h := by rw [h.1]; rfl
  one h := by rw [h.1]; simp [Value.oneCell']
  mono h _ _ := h

theorem file_at {M : List Nat} {w : World} {v : Value} {l : List (ByteArray × ByteArray)} (h : kFile.slice.At M w [v] l) {i : Nat} {x : ByteArray × ByteArray} (hx : l[i]? = some x) :
    ∃ b o cap, v = .slice (some ⟨b, o, none⟩) l.length cap ∧ b < w.heap.size ∧ b ∉ M ∧ w.cell? ⟨b, o + i * 2, none⟩ = some (.string x.1) ∧ w.cell? ⟨b, o + i * 2 + 1, none⟩ = some (.string x.2) ∧ x.1.size ≤ maxLen ∧ x.2.size ≤ maxLen := by
  obtain ⟨b, o, cap, h1, h2, h3, h4, h5, cs', hr, hc⟩ := Kd.slice_get h hx
  have e := hr.out
  obtain ⟨rfl, e1, e2⟩ := e
  exact ⟨b, o, cap, h1, h2, h3, hc 0 _ rfl, hc 1 _ rfl, e1, e2⟩
theorem A.infoFile : (Try.prog.info? 65).map (fun i => (i.zero, i.size, i.bytes)) = some (some (.agg #[.string ⟨#[]⟩, .string ⟨#[]⟩]), 2, 32) := by kernel_rfl
theorem one_file {N : List Nat} {w : World} {b : Nat} {x : ByteArray × ByteArray} {t : TypeId} {fr : Nat × Nat} (h : w.heap[b]? = some (.cells #[.string x.1, .string x.2] t fr)) (hn : b ∉ N) (h1 : x.1.size ≤ maxLen) (h2 : x.2.size ≤ maxLen) : kFile.slice.At N w [.slice (some ⟨b, 0, none⟩) 1 1] [x] :=
  ⟨⟨some ⟨b, 0, none⟩, 1, rfl, Nat.le_refl _, by simp [maxLen], fun i y hy => by
    cases i with
    | zero =>
      simp at hy; subst hy
      refine ⟨b, 0, rfl, ⟨block_lt h, hn⟩, block_lt h, [.string x.1, .string x.2], ⟨rfl, h1, h2⟩, fun j v hv => ?_⟩
      match j, hv with
      | 0, hv => simp at hv; subst hv; rw [cell_of_block h]; rfl
      | 1, hv => simp at hv; subst hv; rw [cell_of_block h]; rfl
    | succ i => simp at hy⟩⟩
theorem Row.file_upd {M M' S : List Nat} {e : TypeId} {B : Nat} {w w' : World} {v : Value} {l : List (ByteArray × ByteArray)} (h : Row kFile M e B w v l) (hu : Upd S w w') (ho : ∀ k, k ∈ ob v → k ∉ S) : Row kFile M' e B w' v l :=
  Row.updAny (fun h => h) h hu ho

/-- What the document's Find answers. -/
def rfind (R : List (ByteArray × ByteArray)) (n : ByteArray) : Nat × Int :=
  if fname n then (match sidx R n 0 with | some y => (y.1, 0) | none => (0, 10)) else (0, 13)

theorem sidx_drop {R : List (ByteArray × ByteArray)} {n : ByteArray} {k : Nat} {x : ByteArray × ByteArray} (hx : R[k]? = some x) : sidx (R.drop k) n k = if (n == x.1) = true then some (k, x.2) else sidx (R.drop (k + 1)) n (k + 1) := by
  have hk := (List.getElem?_eq_some_iff.1 hx).1
  rw [List.drop_eq_getElem_cons hk, (List.getElem?_eq_some_iff.1 hx).2]
  simp only [sidx]

set_option maxHeartbeats 2000000 in
theorem ref_find_calls (v : Value) (R : List (ByteArray × ByteArray)) (n : ByteArray) (M : List Nat) (w : World) (h : kFile.slice.At M w [v] R) :
    Calls Try.prog 35 #[v, .string n] w fun e w' => e = .returned (.tuple #[.int .i64 (rfind R n).1, .int .i64 (rfind R n).2]) ∧ w = w' := by
  obtain ⟨ao, cap, rfl, hl, hcap⟩ := Kd.slice_form h
  unfold maxLen at hcap
  have H := Lib.hid h
  clear h
  by_cases h0 : n.toList = []
  · have hz : n.size = 0 := by
      rw [ByteArray.toList_eq] at h0
      have : n.data.size = 0 := by rw [← Array.length_toList, h0]; rfl
      exact this
    have e : rfind R n = (0, 13) := by simp [rfind, fname, hz]
    rw [e]
    clear e hz
    go_enter Try.func35, Try.ntmps35
    go_wp2_with fail
    go_ret2
    exact ⟨rfl, rfl⟩
  have hb : n.toList.isEmpty = false := by cases hq : n.toList with | nil => exact absurd hq h0 | cons a r => rfl
  have hnz : 1 ≤ n.size := by
    have : n.data.toList ≠ [] := by rwa [ByteArray.toList_eq] at h0
    have h2 : 0 < n.data.toList.length := List.length_pos_iff.2 this
    rw [Array.length_toList] at h2
    exact h2
  by_cases h32 : (32 : Int) < n.size
  · have e : rfind R n = (0, 13) := by simp [rfind, fname]; omega
    rw [e]
    clear e
    go_enter Try.func35, Try.ntmps35
    go_wp2_with fail
    go_ret2
    exact ⟨rfl, rfl⟩
  have hf : fname n = true := by simp [fname]; omega
  obtain ⟨r, hr⟩ : ∃ r, rfind R n = r := ⟨_, rfl⟩
  rw [hr]
  have hr' : (match sidx R n 0 with | some y => ((y.1, 0) : Nat × Int) | none => (0, 10)) = r := by rw [← hr]; simp [rfind, hf]
  have HR := Lib.hid hr'
  clear hr hr' hf
  go_enter Try.func35, Try.ntmps35
  go_wp2_with fail
  go_loopw [6] (fun i wr => ∃ k : Nat, k ≤ R.length ∧ i = .int .i64 k ∧ Hid (sidx R n 0 = sidx (R.drop k) n k) ∧ wr = w) (fun i _ => R.length - (intOf i).toNat)
  case atStart => exact ⟨0, Nat.zero_le _, rfl, Lib.hid (by simp), rfl⟩
  case round =>
    obtain ⟨k, hk, rfl, hq, rfl⟩ := hrel
    by_cases hlt : k < R.length
    · obtain ⟨x, hx⟩ : ∃ x, R[k]? = some x := ⟨_, List.getElem?_eq_getElem hlt⟩
      obtain ⟨b, o, c, hv, _, _, d0, d1, _⟩ := file_at H.out hx
      simp at hv
      obtain ⟨rfl, rfl⟩ := hv
      have hsd := sidx_drop (n := n) hx
      rw [← hq.out] at hsd
      have hi1 : (k : Int) < (R.length : Int) := by omega
      have hi0 : (0 : Int) ≤ (k : Int) := by omega
      by_cases he : n = x.1
      · have hb2 : (x.1.toList == n.toList) = true := by rw [he]; simp
        rw [if_pos (by rw [he]; exact beqB_self _)] at hsd
        have hrr := HR.out
        rw [hsd] at hrr
        simp only at hrr
        clear hsd hx hq he
        go_wp2_with fail
        go_ret2
        exact ⟨by rw [← hrr]; rfl, rfl⟩
      · have hb2 : (x.1.toList == n.toList) = false := (Lib.bytes_beq_false_iff _ _).2 (fun e => he e.symm)
        rw [if_neg (by rw [beqB_ne he]; simp)] at hsd
        have HSD := Lib.hid hsd
        clear hsd hx hq he
        go_wp2_with fail
        go_roundw
        case rel => exact ⟨k + 1, by omega, by go_num, HSD, by first | rfl | trivial⟩
        case measure => simp [intOf]; omega
    · have hq' := hq.out
      rw [List.drop_eq_nil_of_le (by omega)] at hq'
      have hrr := HR.out
      rw [hq'] at hrr
      simp only [sidx] at hrr
      clear hq hq'
      go_wp2_with fail
      go_ret2
      exact ⟨by rw [← hrr]; rfl, rfl⟩

theorem fsum_snoc {l : List (ByteArray × ByteArray)} {k : Nat} {x : ByteArray × ByteArray} (hx : l[k]? = some x) : fsum (l.take (k + 1)) = fsum (l.take k) + x.2.size := by
  rw [take_snoc' hx]; simp [fsum]
theorem fsum_take_le (l : List (ByteArray × ByteArray)) (k : Nat) : fsum (l.take k) ≤ fsum l := by
  have : fsum l = fsum (l.take k) + fsum (l.drop k) := by
    conv => lhs; rw [← List.take_append_drop k l]
    unfold fsum
    rw [List.map_append, List.sum_append]
  omega

set_option maxHeartbeats 2000000 in
theorem ref_bytes_calls (v : Value) (R : List (ByteArray × ByteArray)) (M : List Nat) (w : World) (h : kFile.slice.At M w [v] R) (hs : fsum R ≤ 1099511627776) :
    Calls Try.prog 49 #[v] w fun e w' => e = .returned (.int .i64 (fsum R)) ∧ w = w' := by
  obtain ⟨ao, cap, rfl, hl, hcap⟩ := Kd.slice_form h
  unfold maxLen at hcap
  have H := Lib.hid h
  clear h
  go_enter Try.func49, Try.ntmps49
  go_wp2_with fail
  go_loopw [4, 3] (fun i s wr => ∃ k : Nat, k ≤ R.length ∧ i = .int .i64 k ∧ s = .int .i64 (fsum (R.take k)) ∧ wr = w) (fun i _ _ => R.length - (intOf i).toNat)
  case atStart => exact ⟨0, Nat.zero_le _, rfl, rfl, rfl⟩
  case round =>
    obtain ⟨k, hk, rfl, rfl, rfl⟩ := hrel
    by_cases hlt : k < R.length
    · obtain ⟨x, hx⟩ : ∃ x, R[k]? = some x := ⟨_, List.getElem?_eq_getElem hlt⟩
      obtain ⟨b, o, c, hv, _, _, d0, d1, _⟩ := file_at H.out hx
      simp at hv
      obtain ⟨rfl, rfl⟩ := hv
      have hsn := fsum_snoc hx
      have hle := fsum_take_le R (k + 1)
      obtain ⟨s, hs0⟩ : ∃ s, fsum (R.take k) = s := ⟨_, rfl⟩
      rw [hs0] at hsn ⊢
      have HSN := Lib.hid hsn
      have hi1 : (k : Int) < (R.length : Int) := by omega
      have hi0 : (0 : Int) ≤ (k : Int) := by omega
      have hb : (s : Int) + (x.2.size : Int) ≤ 1099511627776 := by omega
      clear hx hsn hle hs0
      go_wp2_with fail
      go_roundw
      case rel => exact ⟨k + 1, by omega, by go_num, by rw [HSN.out]; simp, by first | rfl | trivial⟩
      case measure => simp [intOf]; omega
    · have e : R.take k = R := List.take_of_length_le (by omega)
      rw [e]
      go_wp2_with fail
      go_ret
      exact ⟨rfl, rfl⟩

/-- The files of other names. -/
def sans (R : List (ByteArray × ByteArray)) (n : ByteArray) : List (ByteArray × ByteArray) := R.filter (fun x => !(n == x.1))
theorem sans_snoc {R : List (ByteArray × ByteArray)} {n : ByteArray} {k : Nat} {x : ByteArray × ByteArray} (hx : R[k]? = some x) : sans (R.take (k + 1)) n = if (n == x.1) = true then sans (R.take k) n else sans (R.take k) n ++ [x] := by
  rw [take_snoc' hx]
  unfold sans
  rw [List.filter_append]
  cases h : (n == x.1) <;> simp [h]

set_option maxHeartbeats 2000000 in
set_option maxRecDepth 100000 in
theorem ref_without_calls (v : Value) (R : List (ByteArray × ByteArray)) (n : ByteArray) (M : List Nat) (w : World) (h : kFile.slice.At M w [v] R) (hlen : R.length ≤ 1000) :
    Calls Try.prog 50 #[v, .string n] w fun e w' => ∃ v', e = .returned v' ∧ Below w.heap.size w w' ∧ Row kFile [] 65 w.heap.size w' v' (sans R n) := by
  obtain ⟨ao, cap, rfl, hl, hcap⟩ := Kd.slice_form h
  unfold maxLen at hcap
  have H := Lib.hid h
  clear h
  go_enter Try.func50, Try.ntmps50
  go_wp2_with fail
  go_loopw [6, 5] (fun i s wr => ∃ k : Nat, k ≤ R.length ∧ i = .int .i64 k ∧ Hid (Row kFile [] 65 w.heap.size wr s (sans (R.take k) n)) ∧ Hid (Below w.heap.size w wr)) (fun i _ _ => R.length - (intOf i).toNat)
  case atStart => exact ⟨0, Nat.zero_le _, rfl, Lib.hid (Row.nil _ _ _ _ _), Lib.hid (Below.refl _ _)⟩
  case round =>
    obtain ⟨k, hk, rfl, hrow, hw⟩ := hrel
    by_cases hlt : k < R.length
    · obtain ⟨x, hx⟩ : ∃ x, R[k]? = some x := ⟨_, List.getElem?_eq_getElem hlt⟩
      obtain ⟨b, o, c, hv, hbl, _, d0, d1, x1, x2⟩ := file_at (H.out.below hw.out) hx
      simp at hv
      obtain ⟨rfl, rfl⟩ := hv
      have hsn := sans_snoc (n := n) hx
      have htl : (sans (R.take k) n).length ≤ 1000 := by
        have := List.length_filter_le (fun x : ByteArray × ByteArray => !(n == x.1)) (R.take k)
        unfold sans
        rw [List.length_take] at this
        omega
      obtain ⟨T, hT⟩ : ∃ T, sans (R.take k) n = T := ⟨_, rfl⟩
      rw [hT] at hrow hsn htl
      have hi1 : (k : Int) < (R.length : Int) := by omega
      have hi0 : (0 : Int) ≤ (k : Int) := by omega
      obtain ⟨at_, ct, rfl, _, _⟩ := row_form hrow.out
      by_cases he : n = x.1
      · have hb2 : (x.1.toList == n.toList) = true := by rw [he]; simp
        rw [if_pos (by rw [he]; exact beqB_self _)] at hsn
        have HSN := Lib.hid hsn
        clear hsn hx hT he
        go_wp2_with fail
        go_roundw
        case rel => exact ⟨k + 1, by omega, by go_num, by rw [HSN.out]; exact hrow, hw⟩
        case measure => simp [intOf]; omega
      · have hb2 : (x.1.toList == n.toList) = false := (Lib.bytes_beq_false_iff _ _).2 (fun e => he e.symm)
        rw [if_neg (by rw [beqB_ne he]; simp)] at hsn
        have HSN := Lib.hid hsn
        obtain ⟨i0, hi, hy0, hy1, hy2⟩ := info_parts A.infoFile
        have hob := hrow.out.ob_lt
        have hzw := hw.out.size
        obtain ⟨W7, hW7⟩ : ∃ W7, wr.alloc (.cells #[.string x.1, .string x.2] 65) = W7 := ⟨_, rfl⟩
        have hu7 : Upd [] wr W7 := by rw [← hW7]; exact Upd.alloc [] wr _
        have hone : W7.heap[wr.heap.size]? = some (.cells #[.string x.1, .string x.2] 65) := by rw [← hW7]; exact Go.heap_alloc_new wr _
        obtain ⟨v8, W8, hrun, hr8, hu8, hob8⟩ := (hrow.out.upd hu7 (by simp) (by simp) (M' := []) (by simp)).appendAt (P := Try.prog) (t := 49) (ty := 49) (u := .slice (some ⟨wr.heap.size, 0, none⟩) 1 1) (l2 := [x]) Try.underlying49 hi hy0 hy1 hy2 rfl (by decide)
          (one_file hone (fun hm => by
            rw [List.append_nil] at hm
            have := (hob _ hm).2
            omega) x1 x2)
          (by simp [maxLen]; omega) (by simp; omega) (by have := hu7.size; omega)
        have HROW := Lib.hid hr8
        have HB8 := Lib.hid (hw.out.trans ((hu7.below.mono hzw).trans (hu8.belowB (by have := hu7.size; omega) (fun k hk => (hob k (by simpa [ob, Value.ownBlock] using hk)).1))))
        have HRUN := Lib.hid hrun
        clear hsn hx hT he hi hy0 hy1 hy2 hob hu7 hone hrun hr8 hu8 hob8 hrow
        go_wp2_with (at_builtin; refine append_step rfl _ _ _ rfl rfl rfl HRUN.out ?_)
        clear hW7
        go_roundw
        case rel => exact ⟨k + 1, by omega, by go_num, by rw [HSN.out]; exact HROW, HB8⟩
        case measure => simp [intOf]; omega
    · have e : R.take k = R := List.take_of_length_le (by omega)
      rw [e] at hrow
      go_wp2_with fail
      go_ret
      exact ⟨_, rfl, hw.out, hrow.out⟩

end Go.Proofs.Yteafbhpjjibdeaa

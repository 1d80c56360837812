/-
The store's methods: what each call does to the store that a pointer names, said of its files in their order.
-/
import Derived.Test.YteafbhpjjibdeaaRows
import Derived.Test.YteafbhpjjibdeaaMem
namespace Go.Proofs.Yteafbhpjjibdeaa
set_option linter.unusedVariables false
set_option linter.unusedSimpArgs false
open Go.RowKit

/-- How many bytes files have. -/
def fsum (L : List (ByteArray × ByteArray)) : Nat := (L.map (fun x => x.2.size)).sum

/-- The pointer p is a store with the files L, whose map is block m. -/
structure IsStore (w : World) (p m : Nat) (L : List (ByteArray × ByteArray)) : Prop where
  blk : w.heap[p]? = some (.cells #[.map (some m), .int .i64 (fsum L)] 85 (0, 0))
  map : ∃ es clock, w.heap[m]? = some (.map es clock) ∧ MapRep es clock L
  ne : p ≠ m
  few : fsum L ≤ 16777216

def fname (n : ByteArray) : Bool := decide (1 ≤ n.size ∧ n.size ≤ 32)
/-- What find answers. -/
def ffind (L : List (ByteArray × ByteArray)) (n : ByteArray) : ByteArray × Int :=
  if fname n then (match sfind L n with | some t => (t, 0) | none => (⟨#[]⟩, 10)) else (⟨#[]⟩, 13)

theorem zstr (W : World) : (zeroValue 9).run Try.prog W = .ok (.string ⟨#[]⟩) W := by kernel_rfl

set_option maxHeartbeats 400000 in
theorem find_calls (n : ByteArray) (w : World) (p m : Nat) (L : List (ByteArray × ByteArray)) (hs : IsStore w p m L) :
    Calls Try.prog 47 #[.pointer (some ⟨p, 0, none⟩), .string n] w fun e w' => e = .returned (.tuple #[.string (ffind L n).1, .int .i64 (ffind L n).2]) ∧ w = w' := by
  obtain ⟨hb, ⟨es, clock, hm, hr⟩, hne, _⟩ := hs
  have hc : w.cell? ⟨p, 0, none⟩ = some (.map (some m)) := by rw [cell_of_block hb]; rfl
  have hl := run_lookup_smap (P := Try.prog) (T := 83) n Try.underlying83 Try.underlying9 zstr hm hr
  clear hb hm hr
  by_cases h1 : (n.size : Int) < 1
  · have e : ffind L n = (⟨#[]⟩, 13) := by simp [ffind, fname]; omega
    rw [e]
    go_enter Try.func47, Try.ntmps47
    go_wp2
    go_ret2
    exact ⟨rfl, rfl⟩
  · by_cases h2 : (32 : Int) < n.size
    · have e : ffind L n = (⟨#[]⟩, 13) := by simp [ffind, fname]; omega
      rw [e]
      go_enter Try.func47, Try.ntmps47
      go_wp2
      go_ret2
      exact ⟨rfl, rfl⟩
    · have hf : fname n = true := by simp [fname]; omega
      cases hx : sfind L n with
      | none =>
        have e : ffind L n = (⟨#[]⟩, 10) := by simp [ffind, hf, hx]
        rw [e]
        rw [hx] at hl
        simp only [Option.getD_none, Option.isSome_none] at hl
        clear hx e hf
        go_enter Try.func47, Try.ntmps47
        go_wp2
        go_ret2
        exact ⟨rfl, rfl⟩
      | some t =>
        have e : ffind L n = (t, 0) := by simp [ffind, hf, hx]
        rw [e]
        rw [hx] at hl
        simp only [Option.getD_some, Option.isSome_some] at hl
        clear hx e hf
        go_enter Try.func47, Try.ntmps47
        go_wp2
        go_ret2
        exact ⟨rfl, rfl⟩

theorem fsum_sput (n t : ByteArray) : ∀ L : List (ByteArray × ByteArray), fsum (sput L n t) + ((sfind L n).getD ⟨#[]⟩).size = fsum L + t.size
  | [] => by simp [sput, fsum, sfind]; rfl
  | x :: L => by
    have ih := fsum_sput n t L
    by_cases hn : (n == x.1) = true
    · simp [sput, fsum, sfind, hn]; omega
    · simp only [Bool.not_eq_true] at hn
      simp only [sfind, fsum] at ih
      simp [sput, fsum, sfind, hn]; omega
theorem fsum_sdel (n : ByteArray) : ∀ L : List (ByteArray × ByteArray), fsum (sdel L n) + ((sfind L n).getD ⟨#[]⟩).size = fsum L
  | [] => by simp [sdel, fsum, sfind]; rfl
  | x :: L => by
    have ih := fsum_sdel n L
    by_cases hn : (n == x.1) = true
    · simp [sdel, fsum, sfind, hn]; omega
    · simp only [Bool.not_eq_true] at hn
      simp only [sfind, fsum] at ih
      simp [sdel, fsum, sfind, hn]; omega
theorem sfind_le (n : ByteArray) (L : List (ByteArray × ByteArray)) : ((sfind L n).getD ⟨#[]⟩).size ≤ fsum L := by
  have := fsum_sdel n L; omega

def fwrite (L : List (ByteArray × ByteArray)) (n t : ByteArray) : List (ByteArray × ByteArray) × Int :=
  if fname n then
    if 16777216 < fsum L - ((sfind L n).getD ⟨#[]⟩).size + t.size ∨ ((sfind L n).isSome = false ∧ 16 ≤ L.length) then (L, 12) else (sput L n t, 0)
  else (L, 13)

/-- A store whose map and count have been written anew. -/
theorem IsStore.written {w w1 : World} {p m : Nat} {L L' : List (ByteArray × ByteArray)} (hs : IsStore w p m L) {es : Array MapEntry} {clock : Nat} (hr : MapRep es clock L')
    (hp : w1.heap[p]? = w.heap[p]?) (hm : w1.heap[m]? = some (.map es clock)) (hf : fsum L' ≤ 16777216) : IsStore (w1.setCell ⟨p, 1, none⟩ (.int .i64 (fsum L'))) p m L' := by
  refine ⟨?_, ⟨es, clock, ?_, hr⟩, hs.ne, hf⟩
  · rw [heap_setCell_same _ p 1 _ _ _ (hp.trans hs.blk)]; simp
  · rw [Below.heap_setCell _ _ _ _ (fun e => hs.ne e.symm)]; exact hm

theorem find_no (n : ByteArray) (w : World) (p m : Nat) (L : List (ByteArray × ByteArray)) (hs : IsStore w p m L) (h : fname n = false) :
    Calls Try.prog 47 #[.pointer (some ⟨p, 0, none⟩), .string n] w fun e w' => e = .returned (.tuple #[.string ⟨#[]⟩, .int .i64 13]) ∧ w = w' := by
  have := find_calls n w p m L hs
  simpa [ffind, h] using this
theorem find_none (n : ByteArray) (w : World) (p m : Nat) (L : List (ByteArray × ByteArray)) (hs : IsStore w p m L) (h : fname n = true) (hx : sfind L n = none) :
    Calls Try.prog 47 #[.pointer (some ⟨p, 0, none⟩), .string n] w fun e w' => e = .returned (.tuple #[.string ⟨#[]⟩, .int .i64 10]) ∧ w = w' := by
  have := find_calls n w p m L hs
  simpa [ffind, h, hx] using this
theorem find_some (n : ByteArray) (w : World) (p m : Nat) (L : List (ByteArray × ByteArray)) (hs : IsStore w p m L) (h : fname n = true) {t : ByteArray} (hx : sfind L n = some t) :
    Calls Try.prog 47 #[.pointer (some ⟨p, 0, none⟩), .string n] w fun e w' => e = .returned (.tuple #[.string t, .int .i64 0]) ∧ w = w' := by
  have := find_calls n w p m L hs
  simpa [ffind, h, hx] using this

theorem upd_two {w : World} {p m : Nat} (o1 o2 : Obj) (v : Value) : Upd [p, m] w (((w.putObj m o1).putObj m o2).setCell ⟨p, 1, none⟩ v) :=
  ((Upd.putObj (by simp) o1).trans (Upd.putObj (by simp) o2)).trans (Upd.setCell (by simp) v)

set_option maxHeartbeats 400000 in
theorem write_no (n t : ByteArray) (w : World) (p m : Nat) (L : List (ByteArray × ByteArray)) (hs : IsStore w p m L) (h1 : fname n = false) :
    Calls Try.prog 28 #[.pointer (some ⟨p, 0, none⟩), .string n, .string t] w fun e w' => e = .returned (.int .i64 13) ∧ w = w' := by
  have HF := Lib.hid (find_no n w p m L hs h1)
  clear hs h1
  go_enter Try.func28, Try.ntmps28
  go_wp2_with fail
  refine HF.out.mono ?_
  rintro e w' ⟨rfl, rfl⟩
  go_wp2
  go_ret
  exact ⟨rfl, rfl⟩

set_option maxRecDepth 100000 in
/-- A write at an allowed name; old: what find answers. -/
theorem write_core (n t old : ByteArray) (e : Int) (w : World) (p m : Nat) (L : List (ByteArray × ByteArray)) (hs : IsStore w p m L) (ht : t.size ≤ 140737488351232)
    (hfind : Calls Try.prog 47 #[.pointer (some ⟨p, 0, none⟩), .string n] w fun e' w' => e' = .returned (.tuple #[.string old, .int .i64 e]) ∧ w = w')
    (hold : old = (sfind L n).getD ⟨#[]⟩) (he13 : (e == 13) = false) (he10 : (e == 10) = !(sfind L n).isSome) (hn : fname n = true) (hbig : L.length ≤ 16) :
    Calls Try.prog 28 #[.pointer (some ⟨p, 0, none⟩), .string n, .string t] w fun e w' =>
      e = .returned (.int .i64 (fwrite L n t).2) ∧ IsStore w' p m (fwrite L n t).1 ∧ Upd [p, m] w w' := by
  have hno : 16777216 < (fsum L : Int) - old.size + t.size ∨ (sfind L n = none ∧ 16 ≤ (L.length : Int)) → fwrite L n t = (L, 12) := by
    intro h
    have h2 := sfind_le n L
    unfold fwrite
    rw [if_pos hn, if_pos]
    rcases h with h | ⟨h, h'⟩
    · left; rw [← hold] at h2 ⊢; omega
    · right; exact ⟨by simp [h], by omega⟩
  have hyes : ¬ (16777216 < (fsum L : Int) - old.size + t.size) → ((sfind L n = none) → (L.length : Int) < 16) → fwrite L n t = (sput L n t, 0) := by
    intro h h'
    have h2 := sfind_le n L
    unfold fwrite
    rw [if_pos hn, if_neg]
    rintro (h3 | ⟨h3, h4⟩)
    · rw [← hold] at h2 h3; omega
    · have := h' (by simpa using h3); omega
  have HNO := Lib.hid hno
  have HYES := Lib.hid hyes
  clear hno hyes hn
  have hc0 : w.cell? ⟨p, 0, none⟩ = some (.map (some m)) := by rw [cell_of_block hs.blk]; rfl
  have hc1 : w.cell? ⟨p, 1, none⟩ = some (.int .i64 (fsum L)) := by rw [cell_of_block hs.blk]; rfl
  have hfw := hs.few
  obtain ⟨es, clock, hm, hr⟩ := hs.map
  have hle := sfind_le n L
  rw [← hold] at hle
  have hsum := fsum_sput n t L
  rw [← hold] at hsum
  have hlen := run_len_smap (P := Try.prog) (T := 83) 3 (ts := #[83]) rfl Try.underlying83 hm hr
  obtain ⟨z, b, es1, clock1, es2, he, hst, hr2⟩ := run_mapEntry_smap (P := Try.prog) (T := 83) n t Try.underlying83 Try.underlying9 zstr hm hr
  have hml := block_lt hm
  have hst := hst _ (World.putObj_heap_same hml)
  have hW2 : ((w.putObj m (.map es1 clock1)).putObj m (.map es2 clock1)).heap[m]? = some (.map es2 clock1) := World.putObj_heap_same (by simpa using hml)
  have hWp : ((w.putObj m (.map es1 clock1)).putObj m (.map es2 clock1)).heap[p]? = w.heap[p]? := (World.putObj_heap_other hs.ne).trans (World.putObj_heap_other hs.ne)
  have hU := fun v => upd_two (w := w) (p := p) (m := m) (.map es1 clock1) (.map es2 clock1) v
  generalize (w.putObj m (.map es1 clock1)).putObj m (.map es2 clock1) = W2 at hst hW2 hWp hU
  have hp1 : (w.putObj m (.map es1 clock1)).heap[p]? = w.heap[p]? := World.putObj_heap_other hs.ne
  generalize w.putObj m (.map es1 clock1) = W1 at he hst hp1
  have hd1 : W2.cell? ⟨p, 1, none⟩ = some (.int .i64 (fsum L)) := (World.cell?_of_block (w := w) (a := ⟨p, 1, none⟩) hWp).trans hc1
  have hz1 : W2.frozen? ⟨p, 1, none⟩ = false := (World.frozen?_of_block (w := w) (a := ⟨p, 1, none⟩) hWp).trans (frozen_of_block hs.blk)
  have hfin := fun hf => hs.written (w1 := W2) hr2 hWp hW2 hf
  have HS := Lib.hid hs
  have HFIN := Lib.hid hfin
  have HU := Lib.hid hU
  have HFD := Lib.hid hfind
  have HSUM := Lib.hid hsum
  clear hs hr2 hfind hold hfin hU hr hW2 hWp hp1 hm hsum
  have hsz : (fsum L : Int) - old.size + t.size = ((fsum L - old.size + t.size : Nat) : Int) := by omega
  have HSZ := Lib.hid hsz
  clear hsz
  go_enter Try.func28, Try.ntmps28
  go_wp2_with fail
  refine HFD.out.mono ?_
  rintro e' w' ⟨rfl, rfl⟩
  go_wp2_with fail
  · go_ret
    rw [HNO.out (.inr ⟨by assumption, by omega⟩)]
    exact ⟨rfl, HS.out, Upd.refl _ _⟩
  · go_ret
    rw [HYES.out (by omega) (fun _ => by omega), HSZ.out]
    rw [show fsum L - old.size + t.size = fsum (sput L n t) from by have := HSUM.out; omega]
    exact ⟨rfl, HFIN.out (by have := HSUM.out; omega), HU.out _⟩
  · go_ret
    rw [HYES.out (by omega) (fun h => absurd h (by assumption)), HSZ.out]
    rw [show fsum L - old.size + t.size = fsum (sput L n t) from by have := HSUM.out; omega]
    exact ⟨rfl, HFIN.out (by have := HSUM.out; omega), HU.out _⟩
  · go_ret
    rw [HNO.out (.inl (by omega))]
    exact ⟨rfl, HS.out, Upd.refl _ _⟩

theorem sfind_cons (n : ByteArray) (x : ByteArray × ByteArray) (L : List (ByteArray × ByteArray)) : sfind (x :: L) n = if (n == x.1) = true then some x.2 else sfind L n := by
  unfold sfind
  rw [List.find?_cons]
  cases h : (n == x.1) <;> simp
theorem sput_length (n t : ByteArray) : ∀ L : List (ByteArray × ByteArray), (sput L n t).length = if (sfind L n).isSome then L.length else L.length + 1
  | [] => by simp [sput, sfind]
  | x :: L => by
    have ih := sput_length n t L
    rw [sfind_cons]
    by_cases hn : (n == x.1) = true
    · simp [sput, hn]
    · simp only [Bool.not_eq_true] at hn
      rw [hn]
      simp only [sput, hn, Bool.false_eq_true, if_false, List.length_cons, ih]
      cases (sfind L n).isSome <;> rfl
theorem fwrite_length (n t : ByteArray) (L : List (ByteArray × ByteArray)) (h : L.length ≤ 16) : (fwrite L n t).1.length ≤ 16 := by
  unfold fwrite
  split
  · split
    · exact h
    · rename_i h2
      have := sput_length n t L
      show (sput L n t).length ≤ 16
      rw [this]
      split
      · exact h
      · rename_i h3
        simp only [not_or, not_and] at h2
        have := h2.2 (by simpa using h3)
        omega
  · exact h

theorem write_calls (n t : ByteArray) (w : World) (p m : Nat) (L : List (ByteArray × ByteArray)) (hs : IsStore w p m L) (ht : t.size ≤ 140737488351232) (hbig : L.length ≤ 16) :
    Calls Try.prog 28 #[.pointer (some ⟨p, 0, none⟩), .string n, .string t] w fun e w' =>
      e = .returned (.int .i64 (fwrite L n t).2) ∧ IsStore w' p m (fwrite L n t).1 ∧ Upd [p, m] w w' := by
  by_cases h : fname n = true
  · cases hx : sfind L n with
    | none => exact write_core n t _ _ w p m L hs ht (find_none n w p m L hs h hx) (by simp [hx]) (by decide) (by simp [hx]) h hbig
    | some o => exact write_core n t _ _ w p m L hs ht (find_some n w p m L hs h hx) (by simp [hx]) (by decide) (by simp [hx]) h hbig
  · simp only [Bool.not_eq_true] at h
    refine (write_no n t w p m L hs h).mono ?_
    rintro e w' ⟨rfl, rfl⟩
    have : fwrite L n t = (L, 13) := by simp [fwrite, h]
    rw [this]
    exact ⟨rfl, hs, Upd.refl _ _⟩

theorem read_calls (n : ByteArray) (w : World) (p m : Nat) (L : List (ByteArray × ByteArray)) (hs : IsStore w p m L) :
    Calls Try.prog 34 #[.pointer (some ⟨p, 0, none⟩), .string n] w fun e w' => e = .returned (.tuple #[.string (ffind L n).1, .int .i64 (ffind L n).2]) ∧ w = w' := by
  have HF := Lib.hid (find_calls n w p m L hs)
  clear hs
  generalize ffind L n = r at HF
  go_enter Try.func34, Try.ntmps34
  go_wp2_with fail
  refine HF.out.mono ?_
  rintro e w' ⟨rfl, rfl⟩
  go_wp2
  go_ret2
  exact ⟨rfl, rfl⟩

theorem bytes_calls (w : World) (p m : Nat) (L : List (ByteArray × ByteArray)) (hs : IsStore w p m L) :
    Calls Try.prog 38 #[.pointer (some ⟨p, 0, none⟩)] w fun e w' => e = .returned (.int .i64 (fsum L)) ∧ w = w' := by
  have hc1 : w.cell? ⟨p, 1, none⟩ = some (.int .i64 (fsum L)) := by rw [cell_of_block hs.blk]; rfl
  clear hs
  go_enter Try.func38, Try.ntmps38
  go_wp2
  go_ret
  exact ⟨rfl, rfl⟩

theorem MapRep.nil : MapRep #[] 0 [] := ⟨rfl, by simp, by simp, by simp⟩

theorem new_calls (w : World) : Calls Try.prog 27 #[] w fun e w' => e = .returned (.pointer (some ⟨w.heap.size + 1, 0, none⟩)) ∧ IsStore w' (w.heap.size + 1) w.heap.size [] ∧ Below w.heap.size w w' := by
  have hmm := @run_makeMap Try.prog
  go_enter Try.func27, Try.ntmps27
  go_wp2
  go_ret
  refine ⟨rfl, ⟨?_, ⟨#[], 0, ?_, MapRep.nil⟩, by omega, by simp [fsum]⟩, ((Below.refl _ _).alloc (Nat.le_refl _) _).alloc (by simp) _⟩
  · have := Go.heap_alloc_new (w.alloc (Obj.map #[] 0)) (Obj.cells #[Value.map (some w.heap.size), Value.int IntKind.i64 0] 85)
    simpa [fsum] using this
  · rw [Below.heap_alloc _ _ _ (by simp)]
    exact Go.heap_alloc_new w _

def fremove (L : List (ByteArray × ByteArray)) (n : ByteArray) : List (ByteArray × ByteArray) × Int := if (ffind L n).2 = 0 then (sdel L n, 0) else (L, (ffind L n).2)

set_option maxHeartbeats 400000 in
theorem remove_calls (n : ByteArray) (w : World) (p m : Nat) (L : List (ByteArray × ByteArray)) (hs : IsStore w p m L) :
    Calls Try.prog 30 #[.pointer (some ⟨p, 0, none⟩), .string n] w fun e w' => e = .returned (.int .i64 (fremove L n).2) ∧ IsStore w' p m (fremove L n).1 ∧ Upd [p, m] w w' := by
  have hfind := find_calls n w p m L hs
  by_cases h0 : (ffind L n).2 = 0
  · have hx : ∃ t, sfind L n = some t ∧ (ffind L n).1 = t := by
      unfold ffind at h0 ⊢
      cases hf : fname n <;> cases hg : sfind L n <;> simp_all
    obtain ⟨t, hx, ht⟩ := hx
    have hr0 : fremove L n = (sdel L n, 0) := by simp [fremove, h0]
    rw [hr0]
    rw [ht, h0] at hfind
    have hc0 : w.cell? ⟨p, 0, none⟩ = some (.map (some m)) := by rw [cell_of_block hs.blk]; rfl
    have hc1 : w.cell? ⟨p, 1, none⟩ = some (.int .i64 (fsum L)) := by rw [cell_of_block hs.blk]; rfl
    have hfw := hs.few
    obtain ⟨es, clock, hm, hr⟩ := hs.map
    have hle := sfind_le n L
    have hsum := fsum_sdel n L
    rw [hx] at hle hsum
    simp only [Option.getD_some] at hle hsum
    obtain ⟨es2, hdel, hr2⟩ := run_delete_smap (P := Try.prog) (T := 83) n 0 (ts := #[83, 9]) rfl Try.underlying83 Try.underlying9 hm hr
    have hml := block_lt hm
    have hW2 : (w.putObj m (.map es2 clock)).heap[m]? = some (.map es2 clock) := World.putObj_heap_same hml
    have hWp : (w.putObj m (.map es2 clock)).heap[p]? = w.heap[p]? := World.putObj_heap_other hs.ne
    have hU : ∀ v, Upd [p, m] w ((w.putObj m (.map es2 clock)).setCell ⟨p, 1, none⟩ v) := fun v => (Upd.putObj (by simp) _).trans (Upd.setCell (by simp) v)
    generalize w.putObj m (.map es2 clock) = W2 at hdel hW2 hWp hU
    have hd1 : W2.cell? ⟨p, 1, none⟩ = some (.int .i64 (fsum L)) := (World.cell?_of_block (w := w) (a := ⟨p, 1, none⟩) hWp).trans hc1
    have hz1 : W2.frozen? ⟨p, 1, none⟩ = false := (World.frozen?_of_block (w := w) (a := ⟨p, 1, none⟩) hWp).trans (frozen_of_block hs.blk)
    have hfin := hs.written (w1 := W2) hr2 hWp hW2 (by omega)
    have hsz : (fsum L : Int) - t.size = ((fsum (sdel L n) : Nat) : Int) := by omega
    have HSZ := Lib.hid hsz
    have HFIN := Lib.hid hfin
    have HU := Lib.hid hU
    have HFD := Lib.hid hfind
    clear hs hr2 hfind hfin hU hr hW2 hWp hm hsum hsz hx ht h0 hr0
    go_enter Try.func30, Try.ntmps30
    go_wp2_with fail
    refine HFD.out.mono ?_
    rintro e' w' ⟨rfl, rfl⟩
    go_wp2
    go_ret
    rw [HSZ.out]
    exact ⟨rfl, HFIN.out, HU.out _⟩
  · have hr0 : fremove L n = (L, (ffind L n).2) := by simp [fremove, h0]
    rw [hr0]
    have hb : ((ffind L n).2 != 0) = true := by simpa using h0
    have HS := Lib.hid hs
    have HFD := Lib.hid hfind
    clear hs hfind hr0 h0
    generalize ffind L n = r at *
    go_enter Try.func30, Try.ntmps30
    go_wp2_with fail
    refine HFD.out.mono ?_
    rintro e' w' ⟨rfl, rfl⟩
    go_wp2
    go_ret
    exact ⟨rfl, HS.out, Upd.refl _ _⟩


/-- A text with a byte turned over by another one. -/
def bnums (t : ByteArray) : List Int := t.data.toList.map (fun b => (b.toNat : Int))
def bspoil (xs : List Int) (i : Nat) (v : Int) : ByteArray := strOfNums (xs.set i v)
theorem bnums_get (t : ByteArray) (j : Nat) (h : j < t.data.size) : (bnums t).getD j 0 = (t.data[j].toNat : Int) := by
  simp only [bnums, List.getD, List.getElem?_map, Array.getElem?_toList, Array.getElem?_eq_getElem h]
  rfl
theorem bspoil_size (t : ByteArray) (i : Nat) (v : Int) : (bspoil (bnums t) i v).size = t.size := by
  unfold bspoil
  rw [strOfNums_size]
  simp [bnums]

set_option maxHeartbeats 400000 in
set_option maxRecDepth 100000 in
theorem spoil_core (n t : ByteArray) (i by_ : Int) (w : World) (p m : Nat) (L : List (ByteArray × ByteArray)) (hs : IsStore w p m L) (hx : ffind L n = (t, 0)) (hi : 0 ≤ i) (hi2 : i < t.size) (hb0 : 0 ≤ by_) (hb1 : by_ ≤ 255)
    (ht : fsum (sput L n (bspoil (bnums t) i.toNat (bits .xor .u8 ((bnums t).getD i.toNat 0) by_))) = fsum L) :
    Calls Try.prog 32 #[.pointer (some ⟨p, 0, none⟩), .string n, .int .i64 i, .int .u8 by_] w fun e w' =>
      e = .returned (.int .i64 0) ∧ IsStore w' p m (sput L n (bspoil (bnums t) i.toNat (bits .xor .u8 ((bnums t).getD i.toNat 0) by_))) ∧ Upd [p, m] w w' := by
  have hfind := find_calls n w p m L hs
  rw [hx] at hfind
  have hc0 : w.cell? ⟨p, 0, none⟩ = some (.map (some m)) := by rw [cell_of_block hs.blk]; rfl
  have hpl := block_lt hs.blk
  obtain ⟨es, clock, hm, hr⟩ := hs.map
  have hml := block_lt hm
  have htd : t.data.size = t.size := rfl
  obtain ⟨cap, w1, hcv, hz1, hb1', hcap, hcell0, hfr⟩ := bytes_of_string (P := Try.prog) w 9 67 5 t Try.underlying9 Try.underlying67 Try.underlying5
  have hcell : ∀ j, j < t.size → w1.cell? ⟨w.heap.size, j, none⟩ = some (.int .u8 ((bnums t).getD j 0)) := fun j hj => by rw [bnums_get t j hj]; exact hcell0 j hj
  have hci : w1.cell? ⟨w.heap.size, i.toNat, none⟩ = some (.int .u8 ((bnums t).getD i.toNat 0)) := hcell _ (by omega)
  have hfi : w1.frozen? ⟨w.heap.size, i.toNat, none⟩ = false := hfr _ (by omega)
  have hlen : (bnums t).length = t.size := by simp [bnums]
  generalize bnums t = xs at *
  generalize hv : bits .xor .u8 (xs.getD i.toNat 0) by_ = v at *
  generalize hx0 : xs.getD i.toNat 0 = x0 at hci
  rw [hx0] at hv
  have HS := Lib.hid hs
  have HFD := Lib.hid hfind
  have HCELL := Lib.hid hcell
  have HZ1 := Lib.hid hz1
  have HT := Lib.hid ht
  have HM := Lib.hid hm
  have HR := Lib.hid hr
  have HLEN := Lib.hid hlen
  have HX0 := Lib.hid hx0
  clear hs hfind hx hcell hcell0 hfr hz1 ht htd hm hr hlen hx0
  go_enter Try.func32, Try.ntmps32
  go_wp2_with fail
  refine HFD.out.mono ?_
  rintro e' w' ⟨rfl, rfl⟩
  go_wp2_with fail
  have HV := Lib.hid hv
  clear hv
  have hcell2 : ∀ j, j < t.size → (w1.setCell ⟨w.heap.size, i.toNat, none⟩ (.int .u8 v)).cell? ⟨w.heap.size, 0 + j, none⟩ = some (.int .u8 ((xs.set i.toNat v).getD j 0)) := by
    intro j hj
    rw [Nat.zero_add]
    have := HLEN.out
    by_cases e : j = i.toNat
    · subst e
      rw [World.cell?_setCell_same' _ _ _ (by rw [hci]; rfl)]
      simp [List.getD, show i.toNat < xs.length by omega]
    · rw [World.cell?_setCell_other w1 (a := ⟨w.heap.size, i.toNat, none⟩) (b := ⟨w.heap.size, j, none⟩) _ (by intro h; injection h with _ h2 _; omega)]
      rw [HCELL.out j hj]
      simp only [List.getD, List.getElem?_set, if_neg (show ¬ i.toNat = j by omega)]
  have hup : Upd [p, m] w (w1.setCell ⟨w.heap.size, i.toNat, none⟩ (.int .u8 v)) := (Upd.ofBelow hb1' _).trans' (Upd.setCell (S := [w.heap.size]) (by simp) _) (by simp)
  have hbm : (w1.setCell ⟨w.heap.size, i.toNat, none⟩ (.int .u8 v)).heap[m]? = some (.map es clock) := by
    rw [Below.heap_setCell _ _ _ _ (show m ≠ w.heap.size by omega), hb1'.block _ hml]; exact HM.out
  have hbp : (w1.setCell ⟨w.heap.size, i.toNat, none⟩ (.int .u8 v)).heap[p]? = w.heap[p]? := by
    rw [Below.heap_setCell _ _ _ _ (show p ≠ w.heap.size by omega), hb1'.block _ hpl]
  generalize w1.setCell ⟨w.heap.size, i.toNat, none⟩ (.int .u8 v) = W3 at hcell2 hup hbm hbp ⊢
  clear hci hfi hcv
  have hc3 : W3.cell? ⟨p, 0, none⟩ = some (.map (some m)) := (World.cell?_of_block (w := w) (a := ⟨p, 0, none⟩) hbp).trans hc0
  have hcv := run_convert_bytes_arg (P := Try.prog) W3.drew 67 5 Try.underlying67 Try.underlying5 w.heap.size 0 t.size cap (xs.set i.toNat v) (by simpa using HLEN.out) hcell2 9 Try.underlying9
  obtain ⟨es2, clock2, hmu, hr2⟩ := run_mapUpdate_smap (P := Try.prog) (w := W3.drew) (T := 83) n (strOfNums (xs.set i.toNat v)) Try.underlying83 Try.underlying9 hbm HR.out
  have HR2 := Lib.hid hr2
  have HUP := Lib.hid hup
  have HBM := Lib.hid hbm
  have HBP := Lib.hid hbp
  clear hr2 hup hcell2 hbm hbp hc0
  go_region
  all_goals
    clear hcv hmu
    go_wp2
    go_ret
    refine ⟨rfl, ⟨?_, ⟨es2, clock2, World.putObj_heap_same (block_lt HBM.out), HR2.out⟩, HS.out.ne, ?_⟩, HUP.out.trans ((Upd.drew _ _).trans (Upd.putObj (by simp) _))⟩
    · rw [World.putObj_heap_other HS.out.ne, HT.out]
      exact HBP.out.trans HS.out.blk
    · rw [HT.out]
      exact HS.out.few

theorem ffind_le (L : List (ByteArray × ByteArray)) (n : ByteArray) : (ffind L n).1.size ≤ fsum L := by
  have := sfind_le n L
  unfold ffind
  cases fname n
  · exact Nat.zero_le _
  · cases hx : sfind L n with
    | none => exact Nat.zero_le _
    | some t => rw [hx] at this; simpa using this
theorem ffind_zero {L : List (ByteArray × ByteArray)} {n : ByteArray} (h : (ffind L n).2 = 0) : sfind L n = some (ffind L n).1 := by
  unfold ffind at h ⊢
  cases hf : fname n <;> cases hg : sfind L n <;> simp_all

def bturn (t : ByteArray) (i by_ : Int) : ByteArray := bspoil (bnums t) i.toNat (bits .xor .u8 ((bnums t).getD i.toNat 0) by_)
theorem bturn_size (t : ByteArray) (i by_ : Int) : (bturn t i by_).size = t.size := bspoil_size _ _ _
def fspoil (L : List (ByteArray × ByteArray)) (n : ByteArray) (i by_ : Int) : List (ByteArray × ByteArray) × Int :=
  if (ffind L n).2 = 0 then
    (if 0 ≤ i ∧ i < ((ffind L n).1.size : Int) then (sput L n (bturn (ffind L n).1 i by_), 0) else (L, 1))
  else (L, (ffind L n).2)

set_option maxHeartbeats 400000 in
theorem spoil_range (n t : ByteArray) (i by_ : Int) (w : World) (p m : Nat) (L : List (ByteArray × ByteArray)) (hs : IsStore w p m L) (hx : ffind L n = (t, 0)) (hi : i < 0 ∨ (t.size : Int) ≤ i) :
    Calls Try.prog 32 #[.pointer (some ⟨p, 0, none⟩), .string n, .int .i64 i, .int .u8 by_] w fun e w' => e = .returned (.int .i64 1) ∧ w = w' := by
  have hfind := find_calls n w p m L hs
  rw [hx] at hfind
  have HFD := Lib.hid hfind
  clear hs hfind hx
  go_enter Try.func32, Try.ntmps32
  go_wp2_with fail
  refine HFD.out.mono ?_
  rintro e' w' ⟨rfl, rfl⟩
  go_wp2_with fail
  all_goals
    go_ret
    exact ⟨rfl, rfl⟩
set_option maxHeartbeats 400000 in
theorem spoil_no (n : ByteArray) (i by_ : Int) (w : World) (p m : Nat) (L : List (ByteArray × ByteArray)) (hs : IsStore w p m L) (hx : ((ffind L n).2 != 0) = true) :
    Calls Try.prog 32 #[.pointer (some ⟨p, 0, none⟩), .string n, .int .i64 i, .int .u8 by_] w fun e w' => e = .returned (.int .i64 (ffind L n).2) ∧ w = w' := by
  have hfind := find_calls n w p m L hs
  have HFD := Lib.hid hfind
  clear hs hfind
  generalize ffind L n = r at *
  go_enter Try.func32, Try.ntmps32
  go_wp2_with fail
  refine HFD.out.mono ?_
  rintro e' w' ⟨rfl, rfl⟩
  go_wp2_with fail
  go_ret
  exact ⟨rfl, rfl⟩

theorem spoil_calls (n : ByteArray) (i by_ : Int) (w : World) (p m : Nat) (L : List (ByteArray × ByteArray)) (hs : IsStore w p m L) (hb0 : 0 ≤ by_) (hb1 : by_ ≤ 255) :
    Calls Try.prog 32 #[.pointer (some ⟨p, 0, none⟩), .string n, .int .i64 i, .int .u8 by_] w fun e w' =>
      e = .returned (.int .i64 (fspoil L n i by_).2) ∧ IsStore w' p m (fspoil L n i by_).1 ∧ Upd [p, m] w w' := by
  by_cases h0 : (ffind L n).2 = 0
  · have hx : ffind L n = ((ffind L n).1, 0) := by rw [← h0]
    by_cases hi : 0 ≤ i ∧ i < ((ffind L n).1.size : Int)
    · have e : fspoil L n i by_ = (sput L n (bturn (ffind L n).1 i by_), 0) := by simp [fspoil, h0, hi]
      rw [e]
      refine spoil_core n _ i by_ w p m L hs hx hi.1 hi.2 hb0 hb1 ?_
      have h1 := fsum_sput n (bturn (ffind L n).1 i by_) L
      rw [ffind_zero h0, bturn_size] at h1
      simp only [Option.getD_some] at h1
      show fsum (sput L n (bturn (ffind L n).1 i by_)) = fsum L
      omega
    · have e : fspoil L n i by_ = (L, 1) := by simp only [fspoil, h0, if_true]; rw [if_neg hi]
      rw [e]
      refine (spoil_range n _ i by_ w p m L hs hx (by omega)).mono ?_
      rintro e w' ⟨rfl, rfl⟩
      exact ⟨rfl, hs, Upd.refl _ _⟩
  · have e : fspoil L n i by_ = (L, (ffind L n).2) := by simp [fspoil, h0]
    rw [e]
    refine (spoil_no n i by_ w p m L hs (by simpa using h0)).mono ?_
    rintro e w' ⟨rfl, rfl⟩
    exact ⟨rfl, hs, Upd.refl _ _⟩

theorem sfind_sput_same (n t : ByteArray) : ∀ L, sfind (sput L n t) n = some t
  | [] => by simp [sput, sfind, beqB_self]
  | x :: L => by
    by_cases hn : (n == x.1) = true
    · simp [sput, hn, sfind, beqB_self]
    · simp only [Bool.not_eq_true] at hn
      simp only [sput, hn, Bool.false_eq_true, if_false, sfind_cons]
      exact sfind_sput_same n t L
theorem sfind_sput_other (n k t : ByteArray) (h : (k == n) = false) : ∀ L, sfind (sput L n t) k = sfind L k
  | [] => by simp [sput, sfind, h]
  | x :: L => by
    by_cases hn : (n == x.1) = true
    · have e : n = x.1 := beqB.1 hn
      simp only [sput, hn, if_true, sfind_cons]
      rw [← e, h]
      rfl
    · simp only [Bool.not_eq_true] at hn
      simp only [sput, hn, Bool.false_eq_true, if_false, sfind_cons, sfind_sput_other n k t h L]
theorem ffind_sput_same (n t : ByteArray) (L : List (ByteArray × ByteArray)) (h : fname n = true) : ffind (sput L n t) n = (t, 0) := by
  simp [ffind, h, sfind_sput_same]
theorem ffind_sput_other (n k t : ByteArray) (h : (k == n) = false) (L : List (ByteArray × ByteArray)) : ffind (sput L n t) k = ffind L k := by
  simp [ffind, sfind_sput_other n k t h]

theorem xor_lt (a b : Nat) (ha : a < 256) (hb : b < 256) : a ^^^ b < 256 := Nat.xor_lt_two_pow (n := 8) ha hb

theorem bnums_bspoil (t : ByteArray) (i : Nat) (v : Nat) (hv : v < 256) (hi : i < t.size) : bnums (bspoil (bnums t) i v) = (bnums t).set i v := by
  apply List.ext_getElem?
  intro j
  have htd : t.data.size = t.size := rfl
  simp only [bnums, bspoil, strOfNums, List.getElem?_map, List.getElem?_set, List.map_set]
  by_cases e : i = j
  · subst e
    simp [htd, hi]
    omega
  · simp only [e, if_false]
    cases t.data.toList[j]? with
    | none => rfl
    | some x => simp
theorem map_inj {α β : Type} (f : α → β) (hf : ∀ x y, f x = f y → x = y) : ∀ a b : List α, a.map f = b.map f → a = b
  | [], [], _ => rfl
  | [], _ :: _, h => by simp at h
  | _ :: _, [], h => by simp at h
  | x :: a, y :: b, h => by
    simp only [List.map_cons, List.cons.injEq] at h
    rw [hf x y h.1, map_inj f hf a b h.2]
theorem bnums_inj {a b : ByteArray} (h : bnums a = bnums b) : a = b := by
  have h2 : a.data.toList = b.data.toList := by
    refine map_inj (fun b : UInt8 => (b.toNat : Int)) ?_ _ _ h
    intro x y e
    have e : (x.toNat : Int) = (y.toNat : Int) := e
    exact UInt8.toNat_inj.1 (by omega)
  cases a; cases b
  simpa using h2
theorem bnums_lt (t : ByteArray) (j : Nat) : ∃ a : Nat, (bnums t).getD j 0 = (a : Int) ∧ a < 256 := by
  by_cases h : j < t.data.size
  · exact ⟨_, bnums_get t j h, by have := t.data[j].toNat_lt; omega⟩
  · exact ⟨0, by simp only [bnums, List.getD, List.getElem?_map, Array.getElem?_toList, Array.getElem?_eq_none (show t.data.size ≤ j by omega)]; rfl, by omega⟩

theorem bnums_bturn (t : ByteArray) (i by_ : Int) (hi : 0 ≤ i) (hi2 : i < t.size) (h0 : 0 ≤ by_) (h1 : by_ ≤ 255) :
    ∃ a : Nat, a < 256 ∧ (bnums t).getD i.toNat 0 = (a : Int) ∧ bnums (bturn t i by_) = (bnums t).set i.toNat ((a ^^^ by_.toNat : Nat) : Int) := by
  obtain ⟨a, ha, hlt⟩ := bnums_lt t i.toNat
  obtain ⟨b, rfl⟩ := Int.eq_ofNat_of_zero_le h0
  refine ⟨a, hlt, ha, ?_⟩
  unfold bturn
  rw [ha, u8_xor_nat a b hlt (by omega)]
  exact bnums_bspoil t _ _ (xor_lt a b hlt (by omega)) (by omega)
theorem bnums_length (t : ByteArray) : (bnums t).length = t.size := by simp [bnums]

theorem bturn_twice (t : ByteArray) (i by_ : Int) (hi : 0 ≤ i) (hi2 : i < t.size) (h0 : 0 ≤ by_) (h1 : by_ ≤ 255) : bturn (bturn t i by_) i by_ = t := by
  apply bnums_inj
  obtain ⟨a, ha, hg, he⟩ := bnums_bturn t i by_ hi hi2 h0 h1
  obtain ⟨b, hb, hg2, he2⟩ := bnums_bturn (bturn t i by_) i by_ hi (by rw [bturn_size]; exact hi2) h0 h1
  have hl := bnums_length t
  rw [he] at hg2
  simp [List.getD, show i.toNat < (bnums t).length by omega] at hg2
  have hb' : b = a ^^^ by_.toNat := by omega
  rw [he2, he, hb', Nat.xor_assoc, Nat.xor_self, Nat.xor_zero]
  rw [List.set_set]
  apply List.ext_getElem?
  intro j
  rw [List.getElem?_set]
  by_cases e : i.toNat = j
  · subst e
    simp only [List.getD] at hg
    rw [List.getElem?_eq_getElem (show i.toNat < (bnums t).length by omega)] at hg ⊢
    simp at hg
    simp [hg, show i.toNat < (bnums t).length by omega]
  · simp [e]
theorem bturn_same (t : ByteArray) (i by_ : Int) (hi : 0 ≤ i) (hi2 : i < t.size) (h0 : 0 ≤ by_) (h1 : by_ ≤ 255) : bturn t i by_ = t ↔ by_ = 0 := by
  obtain ⟨a, ha, hg, he⟩ := bnums_bturn t i by_ hi hi2 h0 h1
  have hl := bnums_length t
  constructor
  · intro h
    rw [h] at he
    have hh := congrArg (fun l : List Int => l.getD i.toNat 0) he
    simp only [hg] at hh
    simp [List.getD, show i.toNat < (bnums t).length by omega] at hh
    have hx : a ^^^ by_.toNat = a := by omega
    have : by_.toNat = 0 := by
      have h3 : a ^^^ (a ^^^ by_.toNat) = a ^^^ a := by rw [hx]
      rw [← Nat.xor_assoc, Nat.xor_self, Nat.zero_xor] at h3
      exact h3
    omega
  · rintro rfl
    apply bnums_inj
    rw [he]
    simp
    apply List.ext_getElem?
    intro j
    rw [List.getElem?_set]
    by_cases e : i.toNat = j
    · subst e
      simp only [List.getD] at hg
      rw [List.getElem?_eq_getElem (show i.toNat < (bnums t).length by omega)] at hg ⊢
      simp at hg
      simp [hg, show i.toNat < (bnums t).length by omega]
    · simp [e]

end Go.Proofs.Yteafbhpjjibdeaa

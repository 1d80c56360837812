/-
maps.Keys of a map from strings to strings: each key once, in whatever order.
-/
import Derived.Test.YteafbhpjjibdeaaRangeG
import Derived.Test.YteafbhpjjibdeaaStore
import Derived.Maps.RangeRun
namespace Go.Proofs.Yteafbhpjjibdeaa
set_option linter.unusedVariables false
set_option linter.unusedSimpArgs false
open Go.RowKit

attribute [local go_sem] Oper.semAt_some

/-- Behind pre x may come: another one of K. -/
def NxK (K : List ByteArray) (pre : List ByteArray) (x : ByteArray) : Prop := (pre ++ [x]).Nodup ∧ ∀ y ∈ pre ++ [x], y ∈ K
/-- All of K. -/
def DnK (K : List ByteArray) (pre : List ByteArray) : Prop := pre.Perm K
def valStr (W : World) (M : List Nat) (x : ByteArray) (args : Array Value) : Prop := args = #[.string x]

/-- Which entries have been told: just those whose keys stand in pre. -/
structure Told (es : Array MapEntry) (K : List ByteArray) (seen : Array Nat) (pre : List ByteArray) : Prop where
  nd : pre.Nodup
  sub : ∀ y ∈ pre, y ∈ K
  iff : ∀ e ∈ es.toList, ∃ x, e.key = .string x ∧ (seen.contains e.born = true ↔ x ∈ pre)

theorem mapRep_mem {es : Array MapEntry} {clock : Nat} {L : List (ByteArray × ByteArray)} (h : MapRep es clock L) {e : MapEntry} (he : e ∈ es.toList) : ∃ x, e.key = .string x ∧ x ∈ L.map (·.1) := by
  have h1 : (e.key, e.val) ∈ L.map (fun x => (Value.string x.1, Value.string x.2)) := by
    rw [← h.kv]
    exact List.mem_map_of_mem (f := fun e : MapEntry => (e.key, e.val)) he
  obtain ⟨x, hx, e1⟩ := List.mem_map.1 h1
  simp at e1
  exact ⟨x.1, e1.1.symm, List.mem_map_of_mem hx⟩
theorem mapRep_of {es : Array MapEntry} {clock : Nat} {L : List (ByteArray × ByteArray)} (h : MapRep es clock L) {x : ByteArray} (hx : x ∈ L.map (·.1)) : ∃ e ∈ es.toList, e.key = .string x := by
  obtain ⟨p, hp, rfl⟩ := List.mem_map.1 hx
  have h1 : (Value.string p.1, Value.string p.2) ∈ es.toList.map (fun e => (e.key, e.val)) := by
    rw [h.kv]
    exact List.mem_map_of_mem (f := fun x : ByteArray × ByteArray => (Value.string x.1, Value.string x.2)) hp
  obtain ⟨e, he, e1⟩ := List.mem_map.1 h1
  simp at e1
  exact ⟨e, he, e1.1⟩
theorem mapRep_keys {es : Array MapEntry} {clock : Nat} {L : List (ByteArray × ByteArray)} (h : MapRep es clock L) : (es.toList.map (·.key)).Nodup := by
  have e : es.toList.map (·.key) = L.map (fun x => Value.string x.1) := by
    have := congrArg (List.map Prod.fst) h.kv
    simpa [List.map_map, Function.comp_def] using this
  rw [e]
  have := h.nd
  rw [List.Nodup, List.pairwise_map] at this ⊢
  exact this.imp (fun hne e => hne (by simpa using e))

theorem told_start {es : Array MapEntry} {clock : Nat} {L : List (ByteArray × ByteArray)} (h : MapRep es clock L) : Told es (L.map (·.1)) #[] [] :=
  ⟨by simp, by simp, fun e he => by obtain ⟨x, hx, _⟩ := mapRep_mem h he; exact ⟨x, hx, by simp⟩⟩
theorem nodup_inj {α β : Type} {f : α → β} {l : List α} (h : (l.map f).Nodup) {a b : α} (ha : a ∈ l) (hb : b ∈ l) (e : f a = f b) : a = b := by
  obtain ⟨i, hi, rfl⟩ := List.getElem_of_mem ha
  obtain ⟨j, hj, rfl⟩ := List.getElem_of_mem hb
  have h' := List.pairwise_map.1 h
  rcases Nat.lt_trichotomy i j with h1 | h1 | h1
  · exact absurd e (List.pairwise_iff_getElem.1 h' i j hi hj h1)
  · subst h1; rfl
  · exact absurd e.symm (List.pairwise_iff_getElem.1 h' j i hj hi h1)
theorem told_step {es : Array MapEntry} {clock : Nat} {L : List (ByteArray × ByteArray)} (h : MapRep es clock L) {seen : Array Nat} {pre : List ByteArray} (ht : Told es (L.map (·.1)) seen pre) {e : MapEntry} (he : e ∈ (leftOf es seen).toList) :
    ∃ x, e.key = .string x ∧ NxK (L.map (·.1)) pre x ∧ Told es (L.map (·.1)) (seen.push e.born) (pre ++ [x]) := by
  unfold leftOf at he
  rw [Array.toList_filter, List.mem_filter] at he
  obtain ⟨he1, he2⟩ := he
  obtain ⟨x, hx, hiff⟩ := ht.iff e he1
  obtain ⟨x', hx', hm⟩ := mapRep_mem h he1
  have exx : x' = x := by rw [hx] at hx'; simpa using hx'.symm
  subst exx
  have hxn : x' ∉ pre := fun hc => by
    have := hiff.2 hc
    simp only [this] at he2
    simp at he2
  have hnd : (pre ++ [x']).Nodup := by
    rw [List.nodup_append]
    exact ⟨ht.nd, by simp, fun a h1 b h2 => by simp at h2; subst h2; rintro rfl; exact hxn h1⟩
  have hsub : ∀ y ∈ pre ++ [x'], y ∈ L.map (·.1) := fun y hy => by
    rcases List.mem_append.1 hy with h1 | h1
    · exact ht.sub y h1
    · simp at h1; subst h1; exact hm
  refine ⟨x', hx, ⟨hnd, hsub⟩, hnd, hsub, fun e2 h2 => ?_⟩
  obtain ⟨y, hy, hi⟩ := ht.iff e2 h2
  refine ⟨y, hy, ?_⟩
  have hpush : (seen.push e.born).contains e2.born = true ↔ (seen.contains e2.born = true ∨ e2.born = e.born) := by
    simp only [Array.contains_eq_mem, Array.mem_push, decide_eq_true_eq]
  rw [hpush, hi, List.mem_append, List.mem_singleton]
  constructor
  · rintro (h1 | h1)
    · exact .inl h1
    · have := nodup_inj h.bnd h2 he1 h1
      subst this
      rw [hx] at hy
      exact .inr (by simpa using hy.symm)
  · rintro (h1 | h1)
    · exact .inl h1
    · subst h1
      have := nodup_inj (mapRep_keys h) h2 he1 (by rw [hy, hx])
      exact .inr (by rw [this])
theorem told_done {es : Array MapEntry} {clock : Nat} {L : List (ByteArray × ByteArray)} (h : MapRep es clock L) {seen : Array Nat} {pre : List ByteArray} (ht : Told es (L.map (·.1)) seen pre) (hl : (leftOf es seen).size = 0) : DnK (L.map (·.1)) pre := by
  refine (List.perm_ext_iff_of_nodup ht.nd h.nd).2 (fun x => ⟨ht.sub x, fun hx => ?_⟩)
  obtain ⟨e, he, hk⟩ := mapRep_of h hx
  obtain ⟨y, hy, hi⟩ := ht.iff e he
  have exy : x = y := by rw [hk] at hy; simpa using hy
  subst exy
  refine hi.1 ?_
  have e0 : leftOf es seen = #[] := Array.eq_empty_of_size_eq_zero hl
  unfold leftOf at e0
  rw [Array.filter_eq_empty_iff] at e0
  have := e0 (a := e) (by simpa using he)
  simpa using this

theorem run_range_smap {P : Program} {T K E : TypeId} {w : World} {m : Nat} {es : Array MapEntry} {clock : Nat} (hT : P.underlying T = some (.map K E)) (hm : w.heap[m]? = some (.map es clock)) :
    (Instr.range T (.map (some m))).run P w = .ok (.pointer (some ⟨w.heap.size, 0, none⟩)) (w.alloc (.mapIter (some m) clock #[] clock)) := by
  simp [Instr.range, run_underlying hT, Sem.run_bind, getObj, Sem.run, hm, Result.andThen, newObj]

theorem left_less {es : Array MapEntry} {seen : Array Nat} {e : MapEntry} (he : e ∈ (leftOf es seen).toList) : (leftOf es (seen.push e.born)).size < (leftOf es seen).size := by
  have e1 : (leftOf es (seen.push e.born)).toList = (leftOf es seen).toList.filter (fun x => !(x.born == e.born)) := by
    unfold leftOf
    rw [Array.toList_filter, Array.toList_filter, List.filter_filter]
    congr 1
    funext x
    simp only [Array.contains_eq_mem, Array.mem_push]
    by_cases h1 : x.born = e.born <;> by_cases h2 : x.born ∈ seen <;> simp [h1, h2]
  rw [← Array.length_toList, ← Array.length_toList, e1]
  refine Nat.lt_of_le_of_ne (List.length_filter_le _ _) (fun h => ?_)
  rw [List.length_filter_eq_length_iff] at h
  have := h e he
  simp at this

def leftIn (r : Nat) (es : Array MapEntry) (w : World) : Nat :=
  match w.heap[r]? with
  | some (.mapIter _ _ seen _) => (leftOf es seen).size
  | _ => 0

set_option maxHeartbeats 2000000 in
set_option maxRecDepth 100000 in
theorem keys_it (bx m : Nat) (t : TypeId) (es : Array MapEntry) (clock : Nat) (L : List (ByteArray × ByteArray)) (w : World) (hb : w.heap[bx]? = some (.cells #[.map (some m)] t)) (hm : w.heap[m]? = some (.map es clock)) (hr : MapRep es clock L) (N : List Nat) (h1 : bx ∉ N) (h2 : m ∉ N) :
    ItFromG Try.prog w N 64 #[.pointer (some ⟨bx, 0, none⟩)] (NxK (L.map (·.1))) (DnK (L.map (·.1))) valStr := by
  intro W0 lp M0 hW hlp hM0 J Jx hJ hY hlpl hMl h0
  have hbx := block_lt hb
  have hml := block_lt hm
  have B0 : W0.heap[bx]? = some (.cells #[.map (some m)] t) := (hW.block bx hbx h1).trans hb
  have MM0 : W0.heap[m]? = some (.map es clock) := (hW.block m hml h2).trans hm
  have hs0 := hW.size
  have c0 : W0.cell? ⟨bx, 0, none⟩ = some (.map (some m)) := by rw [cell_of_block B0]; rfl
  have hrg := run_range_smap (P := Try.prog) (T := 83) Try.underlying83 MM0
  obtain ⟨W1, hW1⟩ : ∃ W1, W0.alloc (.mapIter (some m) clock #[] clock) = W1 := ⟨_, rfl⟩
  have hu1 : Upd [] W0 W1 := by rw [← hW1]; exact Upd.alloc [] W0 _
  have hi1 : W1.heap[W0.heap.size]? = some (.mapIter (some m) clock #[] clock) := by rw [← hW1]; exact Go.heap_alloc_new W0 _
  rw [hW1] at hrg
  have HN0 : Hid (∀ k, k ∈ M0 → k ≠ bx ∧ k ≠ m ∧ k ≠ W0.heap.size) := Lib.hid (fun k hk => by
    have hkl := hMl k hk
    rcases hM0 k hk with h | h
    · exact ⟨fun e => h1 (e ▸ h), fun e => h2 (e ▸ h), by omega⟩
    · exact ⟨by omega, by omega, by omega⟩)
  have hlpn : Hid (lp ≠ bx ∧ lp ≠ m ∧ lp ≠ W0.heap.size) := Lib.hid ⟨by omega, by omega, by omega⟩
  have hz1 := hu1.size
  have hi1l := block_lt hi1
  have MM1 := Lib.hid (upd_far hu1 MM0 (by simp))
  have HI1 := Lib.hid hi1
  have HJ1 : Hid (J [] M0 W1) := Lib.hid (hJ [] M0 W0 W1 [] (by simp) h0 hu1)
  have HJ := Lib.hid hJ
  have HY := Lib.hid hY
  have HM : Hid (∀ k, k ∈ M0 → k < W1.heap.size) := Lib.hid (fun k hk => by have := hMl k hk; omega)
  have HR := Lib.hid hr
  have HT0 := Lib.hid (told_start hr)
  have hblt : ∀ x ∈ es.toList, x.born < clock := fun x hx => hr.blt _ (List.mem_map_of_mem hx)
  have HBL := Lib.hid hblt
  clear B0 MM0 hJ hY hb hm hMl hM0 h0 hW h1 h2 hu1 hi1 hW1 hr hblt
  refine callsIn_of_wp Try.func64 rfl trivial ?_
  simp only [Try.ntmps64, List.size_toArray, List.length_cons, List.length_nil, Nat.reduceAdd, Nat.reduceSub, Array.replicate_succ, Array.replicate_zero, List.push_toArray, List.append_toArray, List.nil_append, List.cons_append]
  gi_wp2
  gi_loopw [] (fun wr => ∃ (pre : List ByteArray) (M : List Nat) (seen : Array Nat), Hid (J pre M wr) ∧ Hid (wr.heap[m]? = some (.map es clock)) ∧ Hid (wr.heap[W0.heap.size]? = some (.mapIter (some m) clock seen clock)) ∧ Hid (Told es (L.map (·.1)) seen pre) ∧ Hid (∀ k, k ∈ M → k < wr.heap.size) ∧ Hid (∀ k, k ∈ M → k ≠ bx ∧ k ≠ m ∧ k ≠ W0.heap.size) ∧ W1.heap.size ≤ wr.heap.size) (fun wr => leftIn W0.heap.size es wr)
  case atStart => exact ⟨[], M0, #[], HJ1.out, MM1.out, HI1.out, HT0.out, HM.out, HN0.out, Nat.le_refl _⟩
  case round =>
    clear c0 hrg
    obtain ⟨pre, M, seen, hj, hmm, hii, htt, hmk, hmn, hsz⟩ := hrel
    have hnx := run_next_at (P := Try.prog) wr 0 W0.heap.size m clock clock seen es clock hii.out hmm.out HBL.out (Nat.le_refl _)
    rcases hnx with ⟨hz, hnx⟩ | ⟨e, he, w1, hw1, hnx⟩
    · have HDN := Lib.hid (told_done HR.out htt.out hz)
      gi_wp2
      refine bodyPost_end (results_none rfl _ _ _) rfl ?_
      exact ⟨⟨_, rfl⟩, M, .inl ⟨pre, HDN.out, hj.out⟩⟩
    · obtain ⟨x, hkx, hnx1, htt2⟩ := told_step HR.out htt.out he
      have hel : e ∈ es.toList := by unfold leftOf at he; rw [Array.toList_filter, List.mem_filter] at he; exact he.1
      have hlt := block_lt hii.out
      obtain ⟨W2, hW2⟩ : ∃ W2, ChangeMaps.setBlock w1 W0.heap.size (.mapIter (some m) clock (seen.push e.born) clock) = W2 := ⟨_, rfl⟩
      have hw1u : Upd [] wr w1 := by rcases hw1 with rfl | rfl; exact Upd.refl _ _; exact Upd.drewN [] wr 1
      have hput : W2 = w1.putObj W0.heap.size (.mapIter (some m) clock (seen.push e.born) clock) := by rw [← hW2]; rfl
      have hu2 : Upd [W0.heap.size] wr W2 := by
        rw [hput]
        exact (hw1u.mono (by simp)).trans (Upd.putOne _)
      have hi2 : W2.heap[W0.heap.size]? = some (.mapIter (some m) clock (seen.push e.born) clock) := by
        rw [hput]
        exact World.putObj_heap_same (by have := hw1u.size; omega)
      have hm2 : W2.heap[m]? = some (.map es clock) := upd_far hu2 hmm.out (by simp; omega)
      have hen := run_entry_at (P := Try.prog) W2 W0.heap.size m clock seen es clock e hi2 hm2 hel (HR.out.bnd)
      rw [hW2, hkx] at hnx
      rw [hkx] at hen
      have hz2 := hu2.size
      have HJ2 : Hid (J pre M W2) := Lib.hid (HJ.out pre M wr W2 [W0.heap.size] (fun k hk => by simp at hk; subst hk; exact ⟨Nat.le_refl _, fun h => (hmn.out _ h).2.2 rfl⟩) hj.out hu2)
      have HM2 : Hid (∀ k, k ∈ M → k < W2.heap.size) := Lib.hid (fun k hk => by have := hmk.out k hk; omega)
      obtain ⟨fn, tmps, assign, body, hy, hRR⟩ := HY.out _ _ M W2 #[.string x] hnx1 HJ2.out rfl HM2.out 0
      have HI2 := Lib.hid hi2
      have HM2' := Lib.hid hm2
      have HT2 := Lib.hid htt2
      have HLF : Hid ((leftOf es (seen.push e.born)).size < (leftOf es seen).size) := Lib.hid (left_less he)
      have hlw : leftIn W0.heap.size es wr = (leftOf es seen).size := by unfold leftIn; rw [hii.out]
      have HLW := Lib.hid hlw
      clear hu2 hi2 hm2 htt2 hel he hW2 hput hw1u hw1 hnx1 hlw
      gi_wp2
      refine ⟨rfl, hRR.mono ?_⟩
      rintro e' w3 ⟨M', hU3, hM', hcase⟩
      have hz3 := hU3.size
      have hdis : ∀ k, k ∈ lp :: M → k ≠ bx ∧ k ≠ m ∧ k ≠ W0.heap.size := by
        intro k hk
        rcases List.mem_cons.1 hk with rfl | hk
        · exact hlpn.out
        · exact hmn.out k hk
      have HMM3 : Hid (w3.heap[m]? = some (.map es clock)) := Lib.hid (upd_far hU3 HM2'.out (fun h => (hdis _ h).2.1 rfl))
      have hi3 : w3.heap[W0.heap.size]? = some (.mapIter (some m) clock (seen.push e.born) clock) := upd_far hU3 HI2.out (fun h => (hdis _ h).2.2 rfl)
      have HI3 := Lib.hid hi3
      have HM3 := Lib.hid (fun k hk => (hM' k hk).1)
      have HN3 : Hid (∀ k, k ∈ M' → k ≠ bx ∧ k ≠ m ∧ k ≠ W0.heap.size) := Lib.hid (fun k hk => by
        rcases (hM' k hk).2 with h | h
        · exact hmn.out k h
        · exact ⟨by omega, by omega, by omega⟩)
      have HL3 : Hid (leftIn W0.heap.size es w3 = (leftOf es (seen.push e.born)).size) := Lib.hid (by unfold leftIn; rw [hi3])
      rcases hcase with ⟨rfl, hj3⟩ | ⟨rfl, hj3⟩
      · have HJ3 := Lib.hid hj3
        clear hU3 hM' hj3 hRR hy hdis hi3 hnx hen
        gi_wp2
        go_roundw
        case rel => exact ⟨pre ++ [x], M', seen.push e.born, HJ3.out, HMM3.out, HI3.out, HT2.out, HM3.out, HN3.out, by omega⟩
        case measure => rw [HL3.out, HLW.out]; exact HLF.out
      · have HJ3 := Lib.hid hj3
        clear hU3 hM' hj3 hRR hy hdis hi3 hnx hen
        gi_wp2
        refine bodyPost_ret (results_none rfl _ _ _) rfl ?_
        exact ⟨⟨_, rfl⟩, M', .inr ⟨_, HJ3.out⟩⟩

end Go.Proofs.Yteafbhpjjibdeaa

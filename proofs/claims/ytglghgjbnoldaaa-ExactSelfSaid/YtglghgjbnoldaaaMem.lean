/-
Plain lemmas on worlds: which blocks a call may turn; string maps. No program stands in this text.
-/
import Derived.WalkKit
import Derived.WalkSpells
import Derived.WalkLawsBesides
import Derived.Lib.Hide
import Derived.RangeFuncRecord
import Derived.StillTailTactics
import Derived.Laws.BytesArg
namespace Go.Proofs.Ytglghgjbnoldaaa
open Go.RowKit

/-- Of the blocks that stood in w none but those of S has turned in w'; the streams are as they were. -/
structure Upd (S : List Nat) (w w' : World) : Prop where
  os : w'.os = w.os
  tape : w'.tape = w.tape
  output : w'.output = w.output
  size : w.heap.size ≤ w'.heap.size
  block : ∀ k, k < w.heap.size → k ∉ S → w'.heap[k]? = w.heap[k]?

theorem Upd.refl (S : List Nat) (w : World) : Upd S w w := ⟨rfl, rfl, rfl, Nat.le_refl _, fun _ _ _ => rfl⟩
theorem Upd.mono {S T : List Nat} {w w' : World} (h : Upd S w w') (hs : ∀ k, k ∈ S → k < w.heap.size → k ∈ T) : Upd T w w' :=
  ⟨h.os, h.tape, h.output, h.size, fun k hk hn => h.block k hk (fun hm => hn (hs k hm hk))⟩
theorem Upd.trans {S : List Nat} {a b c : World} (h : Upd S a b) (k : Upd S b c) : Upd S a c :=
  ⟨k.os.trans h.os, k.tape.trans h.tape, k.output.trans h.output, Nat.le_trans h.size k.size, fun i hi hn => (k.block i (Nat.lt_of_lt_of_le hi h.size) hn).trans (h.block i hi hn)⟩
/-- Behind a step that turned S, one that turns what is of S or new. -/
theorem Upd.trans' {S T : List Nat} {a b c : World} (h : Upd S a b) (k : Upd T b c) (hT : ∀ k, k ∈ T → k ∈ S ∨ a.heap.size ≤ k) : Upd S a c :=
  ⟨k.os.trans h.os, k.tape.trans h.tape, k.output.trans h.output, Nat.le_trans h.size k.size, fun i hi hn => (k.block i (Nat.lt_of_lt_of_le hi h.size) (fun hm => by
    rcases hT i hm with hh | hh
    · exact hn hh
    · omega)).trans (h.block i hi hn)⟩
theorem Upd.ofBelow {w w' : World} (h : Below w.heap.size w w') (S : List Nat) : Upd S w w' :=
  ⟨h.os, h.tape, h.output, h.size, fun k hk _ => h.block k hk⟩
theorem Upd.below {w w' : World} (h : Upd [] w w') : Below w.heap.size w w' := ⟨h.os, h.tape, h.output, h.size, fun k hk => h.block k hk (by simp)⟩
theorem Upd.belowB {S : List Nat} {B : Nat} {w w' : World} (h : Upd S w w') (hB : B ≤ w.heap.size) (hS : ∀ k, k ∈ S → B ≤ k) : Below B w w' :=
  ⟨h.os, h.tape, h.output, h.size, fun k hk => h.block k (by omega) (fun hm => by have := hS k hm; omega)⟩
theorem Upd.cell {S : List Nat} {w w' : World} (h : Upd S w w') {a : Addr} (ha : a.block < w.heap.size) (hn : a.block ∉ S) : w'.cell? a = w.cell? a :=
  World.cell?_of_block (w := w) (h.block _ ha hn)
theorem Upd.frozen {S : List Nat} {w w' : World} (h : Upd S w w') {a : Addr} (ha : a.block < w.heap.size) (hn : a.block ∉ S) : w'.frozen? a = w.frozen? a :=
  World.frozen?_of_block (w := w) (h.block _ ha hn)
theorem Upd.setCell {w : World} {S : List Nat} {p : Addr} (hp : p.block ∈ S) (v : Value) : Upd S w (w.setCell p v) :=
  ⟨rfl, rfl, rfl, by simp [World.setCell], fun k _ hn => Below.heap_setCell _ _ _ _ (fun e => hn (e ▸ hp))⟩
theorem Upd.alloc (S : List Nat) (w : World) (o : Obj) : Upd S w (w.alloc o) :=
  ⟨rfl, rfl, rfl, by simp, fun k hk _ => Below.heap_alloc _ _ _ hk⟩
theorem Upd.drew (S : List Nat) (w : World) : Upd S w w.drew := ⟨rfl, rfl, rfl, Nat.le_refl _, fun _ _ _ => rfl⟩
theorem Upd.drewN (S : List Nat) (w : World) (n : Nat) : Upd S w (w.drewN n) := ⟨rfl, rfl, rfl, Nat.le_refl _, fun _ _ _ => rfl⟩
theorem Upd.putObj {w : World} {S : List Nat} {m : Nat} (hm : m ∈ S) (o : Obj) : Upd S w (w.putObj m o) :=
  ⟨rfl, rfl, rfl, by simp, fun k _ hn => World.putObj_heap_other (fun e => hn (e ▸ hm))⟩

theorem bdN (B : Nat) (w : World) (n : Nat) : Below B w (w.drewN n) := ⟨rfl, rfl, rfl, Nat.le_refl _, fun _ _ => rfl⟩
theorem cell_lt {w : World} {a : Addr} {v : Value} (h : w.cell? a = some v) : a.block < w.heap.size := by
  unfold World.cell? at h
  cases hb : w.heap[a.block]? with
  | none => simp [hb] at h
  | some o => exact (Array.getElem?_eq_some_iff.1 hb).1
theorem block_lt {w : World} {k : Nat} {o : Obj} (h : w.heap[k]? = some o) : k < w.heap.size := (Array.getElem?_eq_some_iff.1 h).1
theorem cell_of_block {w : World} {b i : Nat} {cs : Array Value} {t : TypeId} {f : Nat × Nat} (h : w.heap[b]? = some (.cells cs t f)) : w.cell? ⟨b, i, none⟩ = cs[i]? := by
  simp [World.cell?, h]
theorem frozen_of_block {w : World} {b i : Nat} {cs : Array Value} {t : TypeId} (h : w.heap[b]? = some (.cells cs t (0, 0))) : w.frozen? ⟨b, i, none⟩ = false := by
  simp [World.frozen?, h]

theorem beqB {a b : ByteArray} : (a == b) = true ↔ a = b := by
  constructor
  · intro h
    have h : (a.data == b.data) = true := h
    cases a; cases b
    simpa using h
  · rintro rfl
    show (a.data == a.data) = true
    simp
theorem beqB_self (a : ByteArray) : (a == a) = true := beqB.2 rfl
theorem beqB_false {a b : ByteArray} : (a == b) = false ↔ a ≠ b := by
  rw [← Bool.not_eq_true, beqB]

/-- '[]byte(s)': a new row of the text's bytes, with some room behind. -/
theorem bytes_of_string {P : Program} (w : World) (src dst e : TypeId) (s : ByteArray) (hs : P.underlying src = some .string) (hd : P.underlying dst = some (.slice e)) (he : P.underlying e = some (.int .u8)) :
    ∃ cap w1, (convert src dst (.string s)).run P w = .ok (.slice (some ⟨w.heap.size, 0, none⟩) s.size cap) w1 ∧ w1.heap.size = w.heap.size + 1 ∧ Below w.heap.size w w1 ∧ s.size ≤ cap ∧
      (∀ j (h : j < s.data.size), w1.cell? ⟨w.heap.size, j, none⟩ = some (.int .u8 (s.data[j].toNat : Int))) ∧ (∀ j, j < s.data.size → w1.frozen? ⟨w.heap.size, j, none⟩ = false) := by
  refine ⟨_, _, run_bytes_of_string w src dst e s hs hd he, by simp, ?_, ?_, ?_, ?_⟩
  · exact ((Below.refl _ w).drew).alloc (Nat.le_refl _) _
  · simp only [grownCap, Question.cut]; omega
  · intro j h
    have := Go.heap_alloc_new w.drew (.cells (bytesRow s (grownCap w s.size 0 e)) e ((bytesRow s (grownCap w s.size 0 e)).size, (bytesRow s (grownCap w s.size 0 e)).size + 1))
    rw [cell_of_block (show (w.drew.alloc _).heap[w.heap.size]? = some _ from this), bytesRow_at s _ j h]
  · intro j h
    have := Go.heap_alloc_new w.drew (.cells (bytesRow s (grownCap w s.size 0 e)) e ((bytesRow s (grownCap w s.size 0 e)).size, (bytesRow s (grownCap w s.size 0 e)).size + 1))
    have hh : (w.drew.alloc (.cells (bytesRow s (grownCap w s.size 0 e)) e ((bytesRow s (grownCap w s.size 0 e)).size, (bytesRow s (grownCap w s.size 0 e)).size + 1))).heap[w.heap.size]? = some _ := this
    have hz : s.data.size ≤ (bytesRow s (grownCap w s.size 0 e)).size := by simp [bytesRow]
    simp only [World.frozen?, hh]
    simp; omega

/-- How the walk spells '==' of two strings. -/
theorem strB (a b : ByteArray) : (a.toList == b.toList) = (a == b) := by
  rw [Bool.eq_iff_iff, beqB, beq_iff_eq, ByteArray.toList_eq, ByteArray.toList_eq]
  constructor
  · intro h; cases a; cases b; simpa using h
  · rintro rfl; rfl

/-! ### Maps from strings to strings -/

/-- What a map's entries are: keys and values in their order; the stamps part them. -/
structure MapRep (es : Array MapEntry) (clock : Nat) (L : List (ByteArray × ByteArray)) : Prop where
  kv : es.toList.map (fun e => (e.key, e.val)) = L.map (fun x => (Value.string x.1, Value.string x.2))
  nd : (L.map (·.1)).Nodup
  bnd : (es.toList.map (·.born)).Nodup
  blt : ∀ b ∈ es.toList.map (·.born), b < clock

def sfind (L : List (ByteArray × ByteArray)) (n : ByteArray) : Option ByteArray := (L.find? (fun x => n == x.1)).map (·.2)
def sput (L : List (ByteArray × ByteArray)) (n t : ByteArray) : List (ByteArray × ByteArray) :=
  match L with
  | [] => [(n, t)]
  | x :: r => if n == x.1 then (n, t) :: r else x :: sput r n t
def sdel (L : List (ByteArray × ByteArray)) (n : ByteArray) : List (ByteArray × ByteArray) :=
  match L with
  | [] => []
  | x :: r => if n == x.1 then r else x :: sdel r n

/-- Where a key stands, counted from i. -/
def sidx (L : List (ByteArray × ByteArray)) (n : ByteArray) (i : Nat) : Option (Nat × ByteArray) :=
  match L with
  | [] => none
  | x :: r => if n == x.1 then some (i, x.2) else sidx r n (i + 1)

theorem findNow_sidx (n : ByteArray) : ∀ (l : List MapEntry) (L : List (ByteArray × ByteArray)) (i : Nat), l.map (fun e => (e.key, e.val)) = L.map (fun x => (Value.string x.1, Value.string x.2)) →
    Instr.findNow .string (.string n) l i = some ((sidx L n i).map fun x => (x.1, .string x.2))
  | [], [], i, _ => by simp [Instr.findNow, sidx]
  | [], _ :: _, _, h => by simp at h
  | _ :: _, [], _, h => by simp at h
  | e :: l, x :: L, i, h => by
    simp only [List.map_cons, List.cons.injEq, Prod.mk.injEq] at h
    obtain ⟨⟨hk, hv⟩, hr⟩ := h
    have ih := findNow_sidx n l L (i + 1) hr
    simp only [Instr.findNow, hk, hv, Instr.sameNow, sidx]
    by_cases hn : (n == x.1) = true
    · simp [hn]
    · simp only [Bool.not_eq_true] at hn
      simp [hn, ih]

theorem sidx_sfind (n : ByteArray) : ∀ (L : List (ByteArray × ByteArray)) (i : Nat), (sidx L n i).map (·.2) = sfind L n
  | [], i => by simp [sidx, sfind]
  | x :: L, i => by
    have ih := sidx_sfind n L (i + 1)
    by_cases hn : (n == x.1) = true
    · simp [sidx, sfind, hn]
    · simp only [Bool.not_eq_true] at hn
      simp only [sfind] at ih
      simp [sidx, sfind, hn, ih]

theorem run_key {P : Program} {K : TypeId} (hK : P.underlying K = some .string) (n : ByteArray) (b : Bool) (W : World) : (Instr.checkKey b 10000 K (.string n)).run P W = .ok () W :=
  MapKept.run_checkKey hK (d := .string) (k := .string n) trivial b 9999
theorem run_find {P : Program} {K : TypeId} (hK : P.underlying K = some .string) {n : ByteArray} {es : Array MapEntry} {clock : Nat} {L : List (ByteArray × ByteArray)} (hr : MapRep es clock L) (W : World) :
    (Instr.findKey K (.string n) es.toList).run P W = .ok ((sidx L n 0).map fun x => (x.1, .string x.2)) W :=
  MapKept.run_findKey hK (findNow_sidx n es.toList L 0 hr.kv)

theorem run_lookup_smap {P : Program} {T K E : TypeId} {w : World} {m : Nat} {es : Array MapEntry} {clock : Nat} {L : List (ByteArray × ByteArray)} (n : ByteArray)
    (hT : P.underlying T = some (.map K E)) (hK : P.underlying K = some .string) (hz : ∀ W : World, (zeroValue E).run P W = .ok (.string ⟨#[]⟩) W)
    (hm : w.heap[m]? = some (.map es clock)) (hr : MapRep es clock L) :
    (Instr.lookup T (.map (some m)) (.string n) true).run P w = .ok (.tuple #[.string ((sfind L n).getD ⟨#[]⟩), .bool (sfind L n).isSome]) w := by
  have hf := run_find hK hr (n := n)
  have hs := sidx_sfind n L 0
  rw [← hs]
  have hg := MapKept.run_getObj_map (P := P) hm
  cases hx : sidx L n 0 with
  | none => simp [Instr.lookup, run_underlying hT, hg, run_key hK, hf, hx, hz, Result.andThen]
  | some y => simp [Instr.lookup, run_underlying hT, hg, run_key hK, hf, hx, Result.andThen]

theorem sidx_lt (n : ByteArray) : ∀ (L : List (ByteArray × ByteArray)) (i : Nat) {j t}, sidx L n i = some (j, t) → i ≤ j ∧ j < i + L.length ∧ ∀ k, i + k = j → (L[k]?).map (·.1) = some n ∧ (L[k]?).map (·.2) = some t ∧ sput L n = fun t' => L.set k (n, t')
  | [], i, j, t, h => by simp [sidx] at h
  | x :: L, i, j, t, h => by
    by_cases hn : (n == x.1) = true
    · simp only [sidx, hn, if_true, Option.some.injEq, Prod.mk.injEq] at h
      obtain ⟨rfl, rfl⟩ := h
      refine ⟨Nat.le_refl _, by simp, fun k hk => ?_⟩
      obtain rfl : k = 0 := by omega
      have : n = x.1 := beqB.1 hn
      exact ⟨by simp [this], by simp, by funext t'; simp [sput, hn]⟩
    · simp only [Bool.not_eq_true] at hn
      simp only [sidx, hn, Bool.false_eq_true, if_false] at h
      obtain ⟨h1, h2, h3⟩ := sidx_lt n L (i + 1) h
      refine ⟨by omega, by simp; omega, fun k hk => ?_⟩
      obtain ⟨k, rfl⟩ : ∃ k', k = k' + 1 := ⟨k - 1, by omega⟩
      obtain ⟨a, b, c⟩ := h3 k (by omega)
      exact ⟨by simpa using a, by simpa using b, by funext t'; simp [sput, hn, c]⟩
theorem sidx_none (n : ByteArray) : ∀ (L : List (ByteArray × ByteArray)) (i : Nat), sidx L n i = none → (∀ t, sput L n t = L ++ [(n, t)]) ∧ n ∉ L.map (·.1) ∧ sdel L n = L
  | [], i, _ => by simp [sput, sdel]
  | x :: L, i, h => by
    by_cases hn : (n == x.1) = true
    · simp [sidx, hn] at h
    · simp only [Bool.not_eq_true] at hn
      simp only [sidx, hn, Bool.false_eq_true, if_false] at h
      obtain ⟨h1, h2, h3⟩ := sidx_none n L (i + 1) h
      refine ⟨fun t => by simp [sput, hn, h1], ?_, by simp [sdel, hn, h3]⟩
      simp only [List.map_cons, List.mem_cons, not_or]
      exact ⟨beqB_false.1 hn, h2⟩

theorem sput_keys (n t : ByteArray) : ∀ L : List (ByteArray × ByteArray), (L.map (·.1)).Nodup → ((sput L n t).map (·.1)).Nodup ∧ ∀ k ∈ (sput L n t).map (·.1), k = n ∨ k ∈ L.map (·.1)
  | [], _ => by simp [sput]
  | x :: L, h => by
    simp only [List.map_cons, List.nodup_cons] at h
    by_cases hn : (n == x.1) = true
    · have e : n = x.1 := beqB.1 hn
      simp only [sput, hn, if_true, List.map_cons, List.nodup_cons]
      refine ⟨⟨by rw [e]; exact h.1, h.2⟩, fun k hk => ?_⟩
      simp only [List.mem_cons] at hk ⊢
      rcases hk with rfl | hk
      · exact .inl rfl
      · exact .inr (.inr hk)
    · simp only [Bool.not_eq_true] at hn
      obtain ⟨h1, h2⟩ := sput_keys n t L h.2
      simp only [sput, hn, Bool.false_eq_true, if_false, List.map_cons, List.nodup_cons]
      refine ⟨⟨fun hm => ?_, h1⟩, fun k hk => ?_⟩
      · rcases h2 _ hm with e | e
        · exact beqB_false.1 hn e.symm
        · exact h.1 e
      · simp only [List.mem_cons] at hk ⊢
        rcases hk with rfl | hk
        · exact .inr (.inl rfl)
        · rcases h2 _ hk with e | e
          · exact .inl e
          · exact .inr (.inr e)
theorem sdel_sub (n : ByteArray) : ∀ L : List (ByteArray × ByteArray), (sdel L n).Sublist L
  | [] => by simp [sdel]
  | x :: L => by
    by_cases hn : (n == x.1) = true
    · simp [sdel, hn]
    · simp only [Bool.not_eq_true] at hn
      simp only [sdel, hn, Bool.false_eq_true, if_false]
      exact (sdel_sub n L).cons_cons x

/-- The stamp of an entry parts it from all others. -/
theorem find_born {es : Array MapEntry} (hb : (es.toList.map (·.born)).Nodup) {i : Nat} {e : MapEntry} (h : es[i]? = some e) : es.findIdx? (fun x => (x.born : Int) == (e.born : Int)) = some i := by
  have hi : i < es.size := (Array.getElem?_eq_some_iff.1 h).1
  have he : es[i] = e := (Array.getElem?_eq_some_iff.1 h).2
  rw [Array.findIdx?_eq_some_iff_getElem]
  refine ⟨hi, by simp [he], fun j hj => ?_⟩
  intro e1
  have e1 : es[j].born = e.born := by have := beq_iff_eq.1 e1; omega
  have hp := List.pairwise_iff_getElem.1 hb j i (by simp; omega) (by simpa using hi) hj
  simp [he, e1] at hp

theorem MapRep.set {es : Array MapEntry} {clock : Nat} {L : List (ByteArray × ByteArray)} (hr : MapRep es clock L) {n t : ByteArray} {i : Nat} {t0 : ByteArray} (hx : sidx L n 0 = some (i, t0)) {f : MapEntry → MapEntry}
    (hf : ∀ e, es[i]? = some e → (f e).key = .string n ∧ (f e).val = .string t ∧ (f e).born = e.born) : MapRep (es.modify i f) clock (sput L n t) := by
  obtain ⟨_, hlt, h3⟩ := sidx_lt n L 0 hx
  obtain ⟨a, b, c⟩ := h3 i (by omega)
  have hb : ((es.modify i f).toList.map (·.born)) = es.toList.map (·.born) := by
    apply List.ext_getElem?
    intro j
    simp only [List.getElem?_map, Array.getElem?_toList, Array.getElem?_modify]
    by_cases e : i = j
    · subst e
      cases he : es[i]? with
      | none => simp
      | some x => simp [(hf x he).2.2]
    · simp [e]
  refine ⟨?_, (sput_keys n t L hr.nd).1, hb ▸ hr.bnd, hb ▸ hr.blt⟩
  rw [c]
  apply List.ext_getElem?
  intro j
  have hj := congrArg (fun l : List (Value × Value) => l[j]?) hr.kv
  simp only [List.getElem?_map, Array.getElem?_toList] at hj
  simp only [List.getElem?_map, Array.getElem?_toList, Array.getElem?_modify, List.getElem?_set]
  by_cases e : i = j
  · subst e
    have hi : i < L.length := by omega
    cases he : es[i]? with
    | none => rw [he] at hj; simp [hi] at hj
    | some x => simp [hf x he, hi]
  · simp [e, hj]

theorem MapRep.push {es : Array MapEntry} {clock : Nat} {L : List (ByteArray × ByteArray)} (hr : MapRep es clock L) {n t : ByteArray} (hx : sidx L n 0 = none) :
    MapRep (es.push { key := .string n, val := .string t, born := clock }) (clock + 1) (sput L n t) := by
  obtain ⟨h1, h2, _⟩ := sidx_none n L 0 hx
  refine ⟨by simp [h1, hr.kv], (sput_keys n t L hr.nd).1, ?_, ?_⟩
  · simp only [Array.toList_push, List.map_append, List.map_cons, List.map_nil]
    rw [List.nodup_append]
    refine ⟨hr.bnd, by simp, ?_⟩
    intro a ha b hb
    simp only [List.mem_singleton] at hb
    have := hr.blt a ha
    omega
  · simp only [Array.toList_push, List.map_append, List.map_cons, List.map_nil, List.mem_append, List.mem_singleton]
    rintro b (hb | rfl)
    · have := hr.blt b hb; omega
    · omega

theorem run_mapUpdate_smap {P : Program} {T K E : TypeId} {w : World} {m : Nat} {es : Array MapEntry} {clock : Nat} {L : List (ByteArray × ByteArray)} (n t : ByteArray)
    (hT : P.underlying T = some (.map K E)) (hK : P.underlying K = some .string) (hm : w.heap[m]? = some (.map es clock)) (hr : MapRep es clock L) :
    ∃ es' clock', (Instr.mapUpdate T (.map (some m)) (.string n) (.string t)).run P w = .ok () (w.putObj m (.map es' clock')) ∧ MapRep es' clock' (sput L n t) := by
  have hf := run_find hK hr (n := n) (P := P)
  have hg := MapKept.run_getObj_map (P := P) hm
  cases hx : sidx L n 0 with
  | none =>
    refine ⟨_, _, ?_, hr.push hx⟩
    simp [Instr.mapUpdate, run_underlying hT, hg, run_key hK, hf, hx, Result.andThen, MapKept.run_setObj_map _ hm, World.putObj]
  | some y =>
    obtain ⟨i, t0⟩ := y
    obtain ⟨_, hlt, h3⟩ := sidx_lt n L 0 hx
    obtain ⟨a, b, c⟩ := h3 i (by omega)
    have hj := congrArg (fun l : List (Value × Value) => l[i]?) hr.kv
    simp only [List.getElem?_map, Array.getElem?_toList] at hj
    have hkey : (es[i]?).map (·.key) = some (.string n) := by
      cases he : es[i]? with
      | none => rw [he] at hj; rw [List.getElem?_eq_getElem (show i < L.length by omega)] at hj; simp at hj
      | some x =>
        rw [he] at hj
        cases hl : L[i]? with
        | none => rw [hl] at a; simp at a
        | some l => rw [hl] at hj a; simp at hj a; simp [hj.1, a]
    refine ⟨_, _, ?_, hr.set hx (f := fun e => { e with key := .string n, val := .string t }) (fun e _ => ⟨rfl, rfl, rfl⟩)⟩
    simp [Instr.mapUpdate, run_underlying hT, hg, run_key hK, hf, hx, hkey, Result.andThen, MapKept.run_keyThatStays (P := P) (d := .string) (k := .string n) trivial, MapKept.run_setObj_map _ hm, World.putObj]

/-- 'm[n] = t' in two steps, as a statement of several assignments has it. -/
theorem run_mapEntry_smap {P : Program} {T K E : TypeId} {w : World} {m : Nat} {es : Array MapEntry} {clock : Nat} {L : List (ByteArray × ByteArray)} (n t : ByteArray)
    (hT : P.underlying T = some (.map K E)) (hK : P.underlying K = some .string) (hz : ∀ W : World, (zeroValue E).run P W = .ok (.string ⟨#[]⟩) W) (hm : w.heap[m]? = some (.map es clock)) (hr : MapRep es clock L) :
    ∃ z b es1 clock1 es2, (Instr.mapEntry T (.map (some m)) (.string n)).run P w = .ok (.tuple #[z, .int .i64 b]) (w.putObj m (.map es1 clock1)) ∧
      (∀ W : World, W.heap[m]? = some (.map es1 clock1) → (Instr.entryStore T (.map (some m)) (.int .i64 b) (.string t)).run P W = .ok () (W.putObj m (.map es2 clock1))) ∧ MapRep es2 clock1 (sput L n t) := by
  have hf := run_find hK hr (n := n) (P := P)
  have hg := MapKept.run_getObj_map (P := P) hm
  cases hx : sidx L n 0 with
  | none =>
    have hp := hr.push (t := ⟨#[]⟩) hx
    have h1 : (es.push { key := .string n, val := .string ⟨#[]⟩, born := clock })[es.size]? = some { key := .string n, val := .string ⟨#[]⟩, born := clock } := by simp
    have hb := find_born hp.bnd h1
    obtain ⟨q1, _, _⟩ := sidx_none n L 0 hx
    refine ⟨.string ⟨#[]⟩, clock, es.push { key := .string n, val := .string ⟨#[]⟩, born := clock }, clock + 1, (es.push { key := .string n, val := .string ⟨#[]⟩, born := clock }).modify es.size (fun e => { e with val := .string t }), ?_, ?_, ?_⟩
    · simp [Instr.mapEntry, run_underlying hT, hg, run_key hK, hf, hx, hz, Result.andThen, MapKept.run_setObj_map _ hm, World.putObj, goInt]
    · intro W hW
      have hgW := MapKept.run_getObj_map (P := P) hW
      simp only [] at hb
      simp [Instr.entryStore, hgW, asInt, asIntOf, hb, Result.andThen, MapKept.run_setObj_map _ hW, World.putObj]
    · have e : (es.push { key := .string n, val := .string ⟨#[]⟩, born := clock }).modify es.size (fun e => { e with val := .string t }) = es.push { key := .string n, val := .string t, born := clock } := by
        apply Array.ext
        · simp
        · intro j h1 h2
          simp only [Array.getElem_modify, Array.getElem_push]
          by_cases q : j < es.size
          · simp [q]; omega
          · have : es.size = j := by simp at h1; omega
            simp [this]
      rw [e]
      exact hr.push hx
  | some y =>
    obtain ⟨i, t0⟩ := y
    obtain ⟨_, hlt, h3⟩ := sidx_lt n L 0 hx
    obtain ⟨a, b, c⟩ := h3 i (by omega)
    have hj := congrArg (fun l : List (Value × Value) => l[i]?) hr.kv
    simp only [List.getElem?_map, Array.getElem?_toList] at hj
    cases he : es[i]? with
    | none => rw [he] at hj; rw [List.getElem?_eq_getElem (show i < L.length by omega)] at hj; simp at hj
    | some x =>
      have hkey : x.key = .string n := by
        rw [he] at hj
        cases hl : L[i]? with
        | none => rw [hl] at a; simp at a
        | some l => rw [hl] at hj a; simp at hj a; simp [hj.1, a]
      have hval : x.val = .string t0 := by
        rw [he] at hj
        cases hl : L[i]? with
        | none => rw [hl] at a; simp at a
        | some l => rw [hl] at hj b; simp at hj b; simp [hj.2, b]
      have hs1 := hr.set hx (t := t0) (f := fun e => { e with key := .string n }) (fun e hh => by
        rw [he] at hh; cases hh; exact ⟨rfl, hval, rfl⟩)
      have h1 : (es.modify i (fun e => { e with key := .string n }))[i]? = some { x with key := .string n } := by simp [Array.getElem?_modify, he]
      have hb := find_born hs1.bnd h1
      refine ⟨.string t0, x.born, es.modify i (fun e => { e with key := .string n }), clock, (es.modify i (fun e => { e with key := .string n })).modify i (fun e => { e with val := .string t }), ?_, ?_, ?_⟩
      · simp [Instr.mapEntry, run_underlying hT, hg, run_key hK, hf, hx, he, hkey, Result.andThen, MapKept.run_keyThatStays (P := P) (d := .string) (k := .string n) trivial, MapKept.run_setObj_map _ hm, World.putObj, goInt]
      · intro W hW
        have hgW := MapKept.run_getObj_map (P := P) hW
        simp only [] at hb
        simp [Instr.entryStore, hgW, asInt, asIntOf, hb, Result.andThen, MapKept.run_setObj_map _ hW, World.putObj]
      · have e : (es.modify i (fun e => { e with key := .string n })).modify i (fun e => { e with val := .string t }) = es.modify i (fun e => { e with key := .string n, val := .string t }) := by
          apply Array.ext_getElem?
          intro j
          simp only [Array.getElem?_modify]
          by_cases q : i = j
          · subst q; simp [he]
          · simp [q]
        rw [e]
        exact hr.set hx (fun e _ => ⟨rfl, rfl, rfl⟩)

theorem eraseIdx_of_map {α β : Type} (f : α → β) : ∀ (l : List α) (i : Nat), (l.eraseIdx i).map f = (l.map f).eraseIdx i
  | [], i => by simp
  | x :: l, 0 => by simp
  | x :: l, i + 1 => by simp [eraseIdx_of_map f l i]

theorem sidx_del (n : ByteArray) : ∀ (L : List (ByteArray × ByteArray)) (i : Nat) {j t}, sidx L n i = some (j, t) → i ≤ j ∧ sdel L n = L.eraseIdx (j - i)
  | [], i, j, t, h => by simp [sidx] at h
  | x :: L, i, j, t, h => by
    by_cases hn : (n == x.1) = true
    · simp only [sidx, hn, if_true, Option.some.injEq, Prod.mk.injEq] at h
      obtain ⟨rfl, rfl⟩ := h
      simp [sdel, hn]
    · simp only [Bool.not_eq_true] at hn
      simp only [sidx, hn, Bool.false_eq_true, if_false] at h
      obtain ⟨h1, h2⟩ := sidx_del n L (i + 1) h
      have e : j - i = (j - (i + 1)) + 1 := by omega
      exact ⟨by omega, by simp [sdel, hn, h2, e]⟩

theorem run_delete_smap {P : Program} {T K E : TypeId} {w : World} {m : Nat} {es : Array MapEntry} {clock : Nat} {L : List (ByteArray × ByteArray)} (n : ByteArray) (ty : TypeId) {ts : Array TypeId} (hts : ts[0]? = some T)
    (hT : P.underlying T = some (.map K E)) (hK : P.underlying K = some .string) (hm : w.heap[m]? = some (.map es clock)) (hr : MapRep es clock L) :
    ∃ es', (Builtin.delete_ ts ty #[.map (some m), .string n]).run P w = .ok (.tuple #[]) (w.putObj m (.map es' clock)) ∧ MapRep es' clock (sdel L n) := by
  have hf := run_find hK hr (n := n) (P := P)
  have hg := MapKept.run_getObj_map (P := P) hm
  cases hx : sidx L n 0 with
  | none =>
    refine ⟨es, ?_, by rw [(sidx_none n L 0 hx).2.2]; exact hr⟩
    simp [Builtin.delete_, hts, run_underlying hT, hg, run_key hK, hf, hx, Result.andThen, MapKept.run_setObj_map _ hm, World.putObj]
  | some y =>
    obtain ⟨i, t0⟩ := y
    obtain ⟨_, hd⟩ := sidx_del n L 0 hx
    refine ⟨es.eraseIdxIfInBounds i, ?_, ?_⟩
    · simp [Builtin.delete_, hts, run_underlying hT, hg, run_key hK, hf, hx, Result.andThen, MapKept.run_setObj_map _ hm, World.putObj]
    · have e : (es.eraseIdxIfInBounds i).toList = es.toList.eraseIdx i := by
        simp only [Array.eraseIdxIfInBounds]
        split
        · simp
        · rename_i h
          rw [List.eraseIdx_of_length_le]
          simpa using h
      refine ⟨?_, ?_, ?_, ?_⟩
      · rw [e, hd, Nat.sub_zero, eraseIdx_of_map, eraseIdx_of_map, hr.kv]
      · exact hr.nd.sublist ((sdel_sub n L).map _)
      · rw [e]; exact hr.bnd.sublist ((List.eraseIdx_sublist _ _).map _)
      · rw [e]; exact fun b hb => hr.blt b (((List.eraseIdx_sublist _ _).map _).subset hb)

theorem run_len_smap {P : Program} {T K E : TypeId} {w : World} {m : Nat} {es : Array MapEntry} {clock : Nat} {L : List (ByteArray × ByteArray)} (ty : TypeId) {ts : Array TypeId} (hts : ts[0]? = some T)
    (hT : P.underlying T = some (.map K E)) (hm : w.heap[m]? = some (.map es clock)) (hr : MapRep es clock L) :
    (Builtin.len_ ts ty #[.map (some m)]).run P w = .ok (.int .i64 L.length) w := by
  have hg := MapKept.run_getObj_map (P := P) hm
  have hl : es.size = L.length := by have := congrArg List.length hr.kv; simpa using this
  simp [Builtin.len_, hts, run_underlying hT, hg, goInt, Result.andThen, hl]

/-! ### An append at the walk, its run known -/
theorem append_step {P : Program} {w : World} {ops : Array Oper} {rest : List Oper} {o : Oper} {a : Act} {Q : Exit → Act → World → Prop} (hgd : o.guard = none) (s x : Operand) (t : TypeId)
    (ho : o.op = .call { callee := .builtin .append, args := #[s, x], argTypes := #[t, t] }) {v u v' : Value} {w' : World} (hs : a.eval s = v) (hx : a.eval x = u)
    (hrun : (Builtin.append_ #[t, t] o.type #[v, u]).run P w = .ok v' w') (h : wpList P ops Q rest (a.put o.dst v') w') : wpList P ops Q (o :: rest) a w := by
  refine wpList_plain hgd fun K hK => ?_
  unfold Oper.wp execOp
  simp only [ho, resolve, invoke, builtin, Sem.run_bind, Sem.run_pure, Result.andThen_ok, List.map_toArray, List.map_cons, List.map_nil, hs, hx, hrun]
  exact hK _ _ h

end Go.Proofs.Ytglghgjbnoldaaa

/-
Kinds of data: how values of a type read in memory, whatever their length and depth. No program stands in this text.
-/
import Derived.Test.YtdffiofjdjimkaaMem
import Derived.Deep.Slices
import Derived.ProofKit
namespace Go.Proofs.Ytdffiofjdjimkaa
set_option linter.unusedVariables false
set_option linter.unusedSimpArgs false
open Go.RowKit

/-- A kind: how many cells a value has, and what the cells say in a world of which the blocks of F are looked at. -/
structure Kd (α : Type) where
  sz : Nat
  rep : (Nat → Prop) → World → List Value → α → Prop
  len : ∀ {F : Nat → Prop} {w : World} {cs : List Value} {x : α}, rep F w cs x → cs.length = sz
  mono : ∀ {F G : Nat → Prop} {w w' : World} {cs : List Value} {x : α}, rep F w cs x → (∀ b, F b → b < w.heap.size → G b) → (∀ b, F b → b < w.heap.size → w'.heap[b]? = w.heap[b]?) → rep G w' cs x

def Kd.int (k : IntKind) : Kd Int where
  sz := 1
  rep _ _ cs n := cs = [.int k n] ∧ (Lit.int k n).wf = true
  len h := by rw [h.1]; rfl
  mono h _ _ := h
def Kd.bool : Kd Bool where
  sz := 1
  rep _ _ cs b := cs = [.bool b]
  len h := by rw [h]; rfl
  mono h _ _ := h
def Kd.str : Kd ByteArray where
  sz := 1
  rep _ _ cs s := cs = [.string s] ∧ s.size ≤ maxLen
  len h := by rw [h.1]; rfl
  mono h _ _ := h

/-- What a slice's value says: its elements, each at its place. -/
def Kd.slice {α : Type} (K : Kd α) : Kd (List α) where
  sz := 1
  rep F w cs l := ∃ (ao : Option Addr) (cap : Nat), cs = [.slice ao l.length cap] ∧ l.length ≤ cap ∧ cap ≤ maxLen ∧
    ∀ i x, l[i]? = some x → ∃ b o, ao = some ⟨b, o, none⟩ ∧ F b ∧ b < w.heap.size ∧ ∃ cs', K.rep F w cs' x ∧ ∀ j v, cs'[j]? = some v → w.cell? ⟨b, o + i * K.sz + j, none⟩ = some v
  len h := by obtain ⟨_, _, h, _⟩ := h; rw [h]; rfl
  mono h hF hw := by
    obtain ⟨ao, cap, h1, h2, h3, h4⟩ := h
    refine ⟨ao, cap, h1, h2, h3, fun i x hx => ?_⟩
    obtain ⟨b, o, ha, hb, hlt, cs', hr, hc⟩ := h4 i x hx
    have e := hw b hb hlt
    refine ⟨b, o, ha, hF b hb hlt, by rw [show _ < _ ↔ _ from Iff.rfl]; have := (Array.getElem?_eq_some_iff (xs := _) (i := b)).1 ((e.trans (Array.getElem?_eq_getElem hlt))); exact this.1, cs', K.mono hr hF hw, fun j v hv => ?_⟩
    rw [World.cell?_of_block (w := _) (a := ⟨b, _, none⟩) e]
    exact hc j v hv

/-- The reading of a value in a world: all blocks that stand there but those of M. -/
structure Kd.At {α : Type} (K : Kd α) (M : List Nat) (w : World) (cs : List Value) (x : α) : Prop where
  out : K.rep (fun b => b < w.heap.size ∧ b ∉ M) w cs x

theorem Kd.At.upd {α : Type} {K : Kd α} {M S : List Nat} {w w' : World} {cs : List Value} {x : α} (h : K.At M w cs x) (hu : Upd S w w') (hS : ∀ k, k ∈ S → k ∈ M) {M' : List Nat} (hM : ∀ k, k ∈ M' → k ∈ M ∨ w.heap.size ≤ k) : K.At M' w' cs x :=
  ⟨K.mono h.out (fun b hb hlt => ⟨Nat.lt_of_lt_of_le hb.1 hu.size, fun hm => by rcases hM b hm with h | h; exact hb.2 h; omega⟩) (fun b hb _ => hu.block b hb.1 (fun hm => hb.2 (hS b hm)))⟩
theorem Kd.At.below {α : Type} {K : Kd α} {M : List Nat} {w w' : World} {cs : List Value} {x : α} (h : K.At M w cs x) (hu : Below w.heap.size w w') : K.At M w' cs x :=
  h.upd (Upd.ofBelow hu []) (by simp) (fun k hk => .inl hk)
theorem Kd.At.sub {α : Type} {K : Kd α} {M M' : List Nat} {w : World} {cs : List Value} {x : α} (h : K.At M w cs x) (hM : ∀ k, k ∈ M' → k ∈ M ∨ w.heap.size ≤ k) : K.At M' w cs x :=
  h.upd (S := []) (Upd.refl [] w) (by simp) hM
theorem Kd.At.all {α : Type} {K : Kd α} {M : List Nat} {w : World} {cs : List Value} {x : α} (h : K.At M w cs x) : K.At [] w cs x := h.sub (by simp)

/-- The element at a place. -/
theorem Kd.slice_get {α : Type} {K : Kd α} {M : List Nat} {w : World} {v : Value} {l : List α} (h : K.slice.At M w [v] l) {i : Nat} {x : α} (hx : l[i]? = some x) :
    ∃ b o cap, v = .slice (some ⟨b, o, none⟩) l.length cap ∧ b < w.heap.size ∧ b ∉ M ∧ l.length ≤ cap ∧ cap ≤ maxLen ∧ ∃ cs', K.At M w cs' x ∧ ∀ j v, cs'[j]? = some v → w.cell? ⟨b, o + i * K.sz + j, none⟩ = some v := by
  obtain ⟨ao, cap, h1, h2, h3, h4⟩ := h.out
  obtain ⟨b, o, ha, hb, hlt, cs', hr, hc⟩ := h4 i x hx
  refine ⟨b, o, cap, ?_, hlt, hb.2, h2, h3, cs', ⟨hr⟩, hc⟩
  simp at h1
  rw [h1, ha]
theorem Kd.slice_form {α : Type} {K : Kd α} {M : List Nat} {w : World} {v : Value} {l : List α} (h : K.slice.At M w [v] l) : ∃ ao cap, v = .slice ao l.length cap ∧ l.length ≤ cap ∧ cap ≤ maxLen := by
  obtain ⟨ao, cap, h1, h2, h3, h4⟩ := h.out
  simp at h1
  exact ⟨ao, cap, h1, h2, h3⟩
theorem Kd.slice_nil {α : Type} (K : Kd α) (M : List Nat) (w : World) (ao : Option Addr) (cap : Nat) (h : cap ≤ maxLen) : K.slice.At M w [.slice ao 0 cap] [] :=
  ⟨⟨ao, cap, rfl, Nat.zero_le _, h, by simp⟩⟩

/-! ### Out of the row's own reading -/
/-- The values of a type read as this kind. -/
structure Kd.Opens {α : Type} (K : Kd α) (P : Program) (T : TypeId) : Prop where
  cells : P.cellsOf T = K.sz
  open_ : ∀ {H : Type} {enc : TypeId × Value → H} {W : World} {fuel : Nat} {cs : List Value} {x : DataW H × List MemPlace}, DataW.trod enc P W 0 (fun _ => true) true fuel T cs = some x → ∃ y, K.At [] W cs y

theorem opens_int {P : Program} {T : TypeId} {k : IntKind} (hT : P.underlying T = some (.int k)) (hc : P.cellsOf T = 1) : (Kd.int k).Opens P T := by
  refine ⟨hc, fun {H enc W fuel cs x} h => ?_⟩
  obtain ⟨n, h1, h2, h3⟩ := DataW.trod_int hT h
  exact ⟨n, ⟨h1, h3⟩⟩
theorem opens_str {P : Program} {T : TypeId} (hT : P.underlying T = some .string) (hc : P.cellsOf T = 1) : Kd.str.Opens P T := by
  refine ⟨hc, fun {H enc W fuel cs x} h => ?_⟩
  obtain ⟨n, h1, h2, h3⟩ := DataW.trod_string hT h
  exact ⟨n, ⟨h1, h3⟩⟩

theorem opens_bool {P : Program} {T : TypeId} (hT : P.underlying T = some .bool) (hc : P.cellsOf T = 1) : Kd.bool.Opens P T := by
  refine ⟨hc, fun {H enc W fuel cs x} h => ?_⟩
  obtain ⟨n, h1, h2⟩ := DataW.trod_bool hT h
  exact ⟨n, ⟨h1⟩⟩

theorem add_plain {a : Addr} (h : a.spot = none) (i j : Nat) : (a.add i).add j = ⟨a.block, a.off + i + j, none⟩ := by
  rw [Go.Deep.add_add]
  unfold Addr.add
  split
  · rename_i e; cases a; simp at h; subst h; simp; omega
  · simp [Nat.add_assoc]
theorem spot_of_cell {w : World} {a : Addr} {v : Value} (h : w.cell? a = some v) : a.spot = none := by
  unfold World.cell? at h
  split at h
  · cases hs : a.spot with
    | none => rfl
    | some x => simp [hs] at h
  · simp at h

theorem opens_slice {α : Type} {K : Kd α} {P : Program} {T E : TypeId} (hT : P.underlying T = some (.slice E)) (hc : P.cellsOf T = 1) (hK : K.Opens P E) (hz : 0 < K.sz) : K.slice.Opens P T := by
  refine ⟨hc, fun {H enc W fuel cs x} h => ?_⟩
  rcases Go.Deep.open_slice hT h with ⟨rfl, _⟩ | ⟨a, len, cap, m, n, D, Pl, rfl, _, hlc, hcm, hm, hxe, hel⟩
  · exact ⟨[], Kd.slice_nil K [] W none 0 (by simp [maxLen])⟩
  · have hm' : m = cap := by simpa using hm
    subst hm'
    have hx : ∀ i, i < len → ∃ x : α, ∃ cs', W.cells? 0 (a.add (i * P.cellsOf E)) (P.cellsOf E) = some cs' ∧ K.At [] W cs' x := fun i hi => by
      obtain ⟨cs', h1, h2⟩ := hel i (by omega)
      obtain ⟨y, hy⟩ := hK.open_ h2
      exact ⟨y, cs', h1, hy⟩
    have hf : ∃ l : List α, l.length = len ∧ ∀ i x, l[i]? = some x → ∃ cs', W.cells? 0 (a.add (i * P.cellsOf E)) (P.cellsOf E) = some cs' ∧ K.At [] W cs' x := by
      clear hel hlc hcm hm hxe h
      induction len with
      | zero => exact ⟨[], rfl, by simp⟩
      | succ len ih =>
        obtain ⟨l, hl, hl2⟩ := ih (fun i hi => hx i (by omega))
        obtain ⟨y, cs', h1, h2⟩ := hx len (by omega)
        refine ⟨l ++ [y], by simp [hl], fun i x hi => ?_⟩
        rcases Nat.lt_or_ge i len with hlt | hge
        · rw [List.getElem?_append_left (by omega)] at hi
          exact hl2 i x hi
        · rw [List.getElem?_append_right (by omega)] at hi
          have : i - l.length = 0 := by
            cases hh : i - l.length with
            | zero => rfl
            | succ q => rw [hh] at hi; simp at hi
          obtain rfl : i = len := by omega
          rw [this] at hi
          simp at hi
          subst hi
          exact ⟨cs', h1, h2⟩
    obtain ⟨l, hl, hl2⟩ := hf
    subst hl
    have hsp : l ≠ [] → a.spot = none := by
      intro hne
      obtain ⟨y, hy⟩ : ∃ y, l[0]? = some y := by cases l with | nil => exact absurd rfl hne | cons y l => exact ⟨y, rfl⟩
      obtain ⟨cs', h1, h2⟩ := hl2 0 y hy
      obtain ⟨_, hlen, hcell⟩ := World.cells?_some h1
      rw [hK.cells] at hlen hcell
      have h0 := hcell 0 (by omega)
      obtain ⟨v0, hv0⟩ : ∃ v, cs'[0]? = some v := by
        cases hh : cs'[0]? with
        | none => simp at hh; subst hh; simp at hlen; omega
        | some v => exact ⟨v, rfl⟩
      rw [hv0] at h0
      have := spot_of_cell h0
      simpa [Addr.add] using this
    refine ⟨l, ⟨⟨some a, m, rfl, hlc, hcm, fun i x hi => ?_⟩⟩⟩
    have hsp := hsp (by rintro rfl; simp at hi)
    obtain ⟨cs', h1, h2⟩ := hl2 i x hi
    obtain ⟨_, hlen, hcell⟩ := World.cells?_some h1
    rw [hK.cells] at h1 hlen hcell
    have h0 := hcell 0 (by omega)
    obtain ⟨v0, hv0⟩ : ∃ v, cs'[0]? = some v := by
      cases hh : cs'[0]? with
      | none => simp at hh; subst hh; simp at hlen; omega
      | some v => exact ⟨v, rfl⟩
    rw [hv0] at h0
    have hblk := cell_lt h0
    rw [add_plain hsp] at h0 hblk
    refine ⟨a.block, a.off, by obtain ⟨q1, q2, q3⟩ := a; have hsp : q3 = none := hsp; subst hsp; rfl, ⟨hblk, List.not_mem_nil⟩, hblk, cs', h2.out, fun j v hj => ?_⟩
    have hjl : j < K.sz := by rw [← hlen]; exact (List.getElem?_eq_some_iff.1 hj).1
    have := hcell j hjl
    rw [add_plain hsp, hj] at this
    exact this

/-- A struct's field. -/
theorem field_open {α : Type} {K : Kd α} {P : Program} {T : TypeId} (hK : K.Opens P T) {H : Type} {enc : TypeId × Value → H} {W : World} {n o i : Nat} {cs : List Value} {xs : List (DataW H × List MemPlace)}
    (h : DataW.trod enc P W 0 (fun _ => true) true n T ((cs.drop o).take (P.cellsOf T)) = xs[i]?) (hi : i < xs.length) : ∃ y, K.At [] W ((cs.drop o).take K.sz) y := by
  rw [List.getElem?_eq_getElem hi, hK.cells] at h
  exact hK.open_ h
theorem at_int {M : List Nat} {w : World} {cs : List Value} {k : IntKind} {x : Int} (h : (Kd.int k).At M w cs x) : cs = [.int k x] ∧ (Lit.int k x).wf = true := h.out
theorem at_str {M : List Nat} {w : World} {cs : List Value} {x : ByteArray} (h : Kd.str.At M w cs x) : cs = [.string x] ∧ x.size ≤ maxLen := h.out
theorem at_bool {M : List Nat} {w : World} {cs : List Value} {x : Bool} (h : Kd.bool.At M w cs x) : cs = [.bool x] := h.out

end Go.Proofs.Ytdffiofjdjimkaa

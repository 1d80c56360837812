/-
Kinds of data: how values of a type read in memory, whatever their length and depth. No program stands in this text.
-/
import Derived.Test.YtglghgjbnoldaaaMem
import Derived.Deep.Slices
import Derived.ProofKit
import Derived.Maps.AppendAt
import Derived.WalkSmall
namespace Go.Proofs.Ytglghgjbnoldaaa
set_option linter.unusedVariables false
set_option linter.unusedSimpArgs false
open Go.RowKit

/-- A kind: how many cells a value has, and what the cells say in a world of which the blocks of F are looked at. -/
structure Kd (α : Type) where
  sz : Nat
  rep : (Nat → Prop) → World → List Value → α → Prop
  len : ∀ {F : Nat → Prop} {w : World} {cs : List Value} {x : α}, rep F w cs x → cs.length = sz
  one : ∀ {F : Nat → Prop} {w : World} {cs : List Value} {x : α}, rep F w cs x → ∀ v, v ∈ cs → v.oneCell' = true
  mono : ∀ {F G : Nat → Prop} {w w' : World} {cs : List Value} {x : α}, rep F w cs x → (∀ b, F b → b < w.heap.size → G b) → (∀ b, F b → b < w.heap.size → w'.heap[b]? = w.heap[b]?) → rep G w' cs x

def Kd.int (k : IntKind) : Kd Int where
  sz := 1
  rep _ _ cs n := cs = [.int k n] ∧ (Lit.int k n).wf = true
  len h := by rw [h.1]; rfl
  one h := by rw [h.1]; simp [Value.oneCell']
  mono h _ _ := h
def Kd.bool : Kd Bool where
  sz := 1
  rep _ _ cs b := cs = [.bool b]
  len h := by rw [h]; rfl
  one h := by rw [h]; simp [Value.oneCell']
  mono h _ _ := h
def Kd.str : Kd ByteArray where
  sz := 1
  rep _ _ cs s := cs = [.string s] ∧ s.size ≤ maxLen
  len h := by rw [h.1]; rfl
  one h := by rw [h.1]; simp [Value.oneCell']
  mono h _ _ := h

/-- What a slice's value says: its elements, each at its place. -/
def Kd.slice {α : Type} (K : Kd α) : Kd (List α) where
  sz := 1
  rep F w cs l := ∃ (ao : Option Addr) (cap : Nat), cs = [.slice ao l.length cap] ∧ l.length ≤ cap ∧ cap ≤ maxLen ∧
    ∀ i x, l[i]? = some x → ∃ b o, ao = some ⟨b, o, none⟩ ∧ F b ∧ b < w.heap.size ∧ ∃ cs', K.rep F w cs' x ∧ ∀ j v, cs'[j]? = some v → w.cell? ⟨b, o + i * K.sz + j, none⟩ = some v
  len h := by obtain ⟨_, _, h, _⟩ := h; rw [h]; rfl
  one h := by obtain ⟨_, _, h, _⟩ := h; rw [h]; simp [Value.oneCell']
  mono h hF hw := by
    obtain ⟨ao, cap, h1, h2, h3, h4⟩ := h
    refine ⟨ao, cap, h1, h2, h3, fun i x hx => ?_⟩
    obtain ⟨b, o, ha, hb, hlt, cs', hr, hc⟩ := h4 i x hx
    have e := hw b hb hlt
    refine ⟨b, o, ha, hF b hb hlt, by rw [show _ < _ ↔ _ from Iff.rfl]; have := (Array.getElem?_eq_some_iff (xs := _) (i := b)).1 ((e.trans (Array.getElem?_eq_getElem hlt))); exact this.1, cs', K.mono hr hF hw, fun j v hv => ?_⟩
    rw [World.cell?_of_block (w := _) (a := ⟨b, _, none⟩) e]
    exact hc j v hv

/-- The reading of a value in a world: all blocks that stand there but those of M. -/
structure Kd.At {α : Type} (K : Kd α) (M : List Nat) (w : World) (cs : List Value) (x : α) : Prop where
  out : K.rep (fun b => b < w.heap.size ∧ b ∉ M) w cs x

theorem Kd.At.upd {α : Type} {K : Kd α} {M S : List Nat} {w w' : World} {cs : List Value} {x : α} (h : K.At M w cs x) (hu : Upd S w w') (hS : ∀ k, k ∈ S → k ∈ M) {M' : List Nat} (hM : ∀ k, k ∈ M' → k ∈ M ∨ w.heap.size ≤ k) : K.At M' w' cs x :=
  ⟨K.mono h.out (fun b hb hlt => ⟨Nat.lt_of_lt_of_le hb.1 hu.size, fun hm => by rcases hM b hm with h | h; exact hb.2 h; omega⟩) (fun b hb _ => hu.block b hb.1 (fun hm => hb.2 (hS b hm)))⟩
theorem Kd.At.below {α : Type} {K : Kd α} {M : List Nat} {w w' : World} {cs : List Value} {x : α} (h : K.At M w cs x) (hu : Below w.heap.size w w') : K.At M w' cs x :=
  h.upd (Upd.ofBelow hu []) (by simp) (fun k hk => .inl hk)
theorem Kd.At.sub {α : Type} {K : Kd α} {M M' : List Nat} {w : World} {cs : List Value} {x : α} (h : K.At M w cs x) (hM : ∀ k, k ∈ M' → k ∈ M ∨ w.heap.size ≤ k) : K.At M' w cs x :=
  h.upd (S := []) (Upd.refl [] w) (by simp) hM
theorem Kd.At.all {α : Type} {K : Kd α} {M : List Nat} {w : World} {cs : List Value} {x : α} (h : K.At M w cs x) : K.At [] w cs x := h.sub (by simp)

/-- The element at a place. -/
theorem Kd.slice_get {α : Type} {K : Kd α} {M : List Nat} {w : World} {v : Value} {l : List α} (h : K.slice.At M w [v] l) {i : Nat} {x : α} (hx : l[i]? = some x) :
    ∃ b o cap, v = .slice (some ⟨b, o, none⟩) l.length cap ∧ b < w.heap.size ∧ b ∉ M ∧ l.length ≤ cap ∧ cap ≤ maxLen ∧ ∃ cs', K.At M w cs' x ∧ ∀ j v, cs'[j]? = some v → w.cell? ⟨b, o + i * K.sz + j, none⟩ = some v := by
  obtain ⟨ao, cap, h1, h2, h3, h4⟩ := h.out
  obtain ⟨b, o, ha, hb, hlt, cs', hr, hc⟩ := h4 i x hx
  refine ⟨b, o, cap, ?_, hlt, hb.2, h2, h3, cs', ⟨hr⟩, hc⟩
  simp at h1
  rw [h1, ha]
theorem Kd.slice_form {α : Type} {K : Kd α} {M : List Nat} {w : World} {v : Value} {l : List α} (h : K.slice.At M w [v] l) : ∃ ao cap, v = .slice ao l.length cap ∧ l.length ≤ cap ∧ cap ≤ maxLen := by
  obtain ⟨ao, cap, h1, h2, h3, h4⟩ := h.out
  simp at h1
  exact ⟨ao, cap, h1, h2, h3⟩
theorem Kd.slice_nil {α : Type} (K : Kd α) (M : List Nat) (w : World) (ao : Option Addr) (cap : Nat) (h : cap ≤ maxLen) : K.slice.At M w [.slice ao 0 cap] [] :=
  ⟨⟨ao, cap, rfl, Nat.zero_le _, h, by simp⟩⟩

/-! ### Out of the row's own reading -/
/-- The values of a type read as this kind. -/
structure Kd.Opens {α : Type} (K : Kd α) (P : Program) (T : TypeId) : Prop where
  cells : P.cellsOf T = K.sz
  open_ : ∀ {H : Type} {enc : TypeId × Value → H} {W : World} {fuel : Nat} {cs : List Value} {x : DataW H × List MemPlace}, DataW.trod enc P W 0 (fun _ => true) true fuel T cs = some x → ∃ y, K.At [] W cs y

theorem opens_int {P : Program} {T : TypeId} {k : IntKind} (hT : P.underlying T = some (.int k)) (hc : P.cellsOf T = 1) : (Kd.int k).Opens P T := by
  refine ⟨hc, fun {H enc W fuel cs x} h => ?_⟩
  obtain ⟨n, h1, h2, h3⟩ := DataW.trod_int hT h
  exact ⟨n, ⟨h1, h3⟩⟩
theorem opens_str {P : Program} {T : TypeId} (hT : P.underlying T = some .string) (hc : P.cellsOf T = 1) : Kd.str.Opens P T := by
  refine ⟨hc, fun {H enc W fuel cs x} h => ?_⟩
  obtain ⟨n, h1, h2, h3⟩ := DataW.trod_string hT h
  exact ⟨n, ⟨h1, h3⟩⟩

theorem opens_bool {P : Program} {T : TypeId} (hT : P.underlying T = some .bool) (hc : P.cellsOf T = 1) : Kd.bool.Opens P T := by
  refine ⟨hc, fun {H enc W fuel cs x} h => ?_⟩
  obtain ⟨n, h1, h2⟩ := DataW.trod_bool hT h
  exact ⟨n, ⟨h1⟩⟩

theorem add_plain {a : Addr} (h : a.spot = none) (i j : Nat) : (a.add i).add j = ⟨a.block, a.off + i + j, none⟩ := by
  rw [Go.Deep.add_add]
  unfold Addr.add
  split
  · rename_i e; cases a; simp at h; subst h; simp; omega
  · simp [Nat.add_assoc]
theorem spot_of_cell {w : World} {a : Addr} {v : Value} (h : w.cell? a = some v) : a.spot = none := by
  unfold World.cell? at h
  split at h
  · cases hs : a.spot with
    | none => rfl
    | some x => simp [hs] at h
  · simp at h

theorem opens_slice {α : Type} {K : Kd α} {P : Program} {T E : TypeId} (hT : P.underlying T = some (.slice E)) (hc : P.cellsOf T = 1) (hK : K.Opens P E) (hz : 0 < K.sz) : K.slice.Opens P T := by
  refine ⟨hc, fun {H enc W fuel cs x} h => ?_⟩
  rcases Go.Deep.open_slice hT h with ⟨rfl, _⟩ | ⟨a, len, cap, m, n, D, Pl, rfl, _, hlc, hcm, hm, hxe, hel⟩
  · exact ⟨[], Kd.slice_nil K [] W none 0 (by simp [maxLen])⟩
  · have hm' : m = cap := by simpa using hm
    subst hm'
    have hx : ∀ i, i < len → ∃ x : α, ∃ cs', W.cells? 0 (a.add (i * P.cellsOf E)) (P.cellsOf E) = some cs' ∧ K.At [] W cs' x := fun i hi => by
      obtain ⟨cs', h1, h2⟩ := hel i (by omega)
      obtain ⟨y, hy⟩ := hK.open_ h2
      exact ⟨y, cs', h1, hy⟩
    have hf : ∃ l : List α, l.length = len ∧ ∀ i x, l[i]? = some x → ∃ cs', W.cells? 0 (a.add (i * P.cellsOf E)) (P.cellsOf E) = some cs' ∧ K.At [] W cs' x := by
      clear hel hlc hcm hm hxe h
      induction len with
      | zero => exact ⟨[], rfl, by simp⟩
      | succ len ih =>
        obtain ⟨l, hl, hl2⟩ := ih (fun i hi => hx i (by omega))
        obtain ⟨y, cs', h1, h2⟩ := hx len (by omega)
        refine ⟨l ++ [y], by simp [hl], fun i x hi => ?_⟩
        rcases Nat.lt_or_ge i len with hlt | hge
        · rw [List.getElem?_append_left (by omega)] at hi
          exact hl2 i x hi
        · rw [List.getElem?_append_right (by omega)] at hi
          have : i - l.length = 0 := by
            cases hh : i - l.length with
            | zero => rfl
            | succ q => rw [hh] at hi; simp at hi
          obtain rfl : i = len := by omega
          rw [this] at hi
          simp at hi
          subst hi
          exact ⟨cs', h1, h2⟩
    obtain ⟨l, hl, hl2⟩ := hf
    subst hl
    have hsp : l ≠ [] → a.spot = none := by
      intro hne
      obtain ⟨y, hy⟩ : ∃ y, l[0]? = some y := by cases l with | nil => exact absurd rfl hne | cons y l => exact ⟨y, rfl⟩
      obtain ⟨cs', h1, h2⟩ := hl2 0 y hy
      obtain ⟨_, hlen, hcell⟩ := World.cells?_some h1
      rw [hK.cells] at hlen hcell
      have h0 := hcell 0 (by omega)
      obtain ⟨v0, hv0⟩ : ∃ v, cs'[0]? = some v := by
        cases hh : cs'[0]? with
        | none => simp at hh; subst hh; simp at hlen; omega
        | some v => exact ⟨v, rfl⟩
      rw [hv0] at h0
      have := spot_of_cell h0
      simpa [Addr.add] using this
    refine ⟨l, ⟨⟨some a, m, rfl, hlc, hcm, fun i x hi => ?_⟩⟩⟩
    have hsp := hsp (by rintro rfl; simp at hi)
    obtain ⟨cs', h1, h2⟩ := hl2 i x hi
    obtain ⟨_, hlen, hcell⟩ := World.cells?_some h1
    rw [hK.cells] at h1 hlen hcell
    have h0 := hcell 0 (by omega)
    obtain ⟨v0, hv0⟩ : ∃ v, cs'[0]? = some v := by
      cases hh : cs'[0]? with
      | none => simp at hh; subst hh; simp at hlen; omega
      | some v => exact ⟨v, rfl⟩
    rw [hv0] at h0
    have hblk := cell_lt h0
    rw [add_plain hsp] at h0 hblk
    refine ⟨a.block, a.off, by obtain ⟨q1, q2, q3⟩ := a; have hsp : q3 = none := hsp; subst hsp; rfl, ⟨hblk, List.not_mem_nil⟩, hblk, cs', h2.out, fun j v hj => ?_⟩
    have hjl : j < K.sz := by rw [← hlen]; exact (List.getElem?_eq_some_iff.1 hj).1
    have := hcell j hjl
    rw [add_plain hsp, hj] at this
    exact this

/-- A struct's field. -/
theorem field_open {α : Type} {K : Kd α} {P : Program} {T : TypeId} (hK : K.Opens P T) {H : Type} {enc : TypeId × Value → H} {W : World} {n o i : Nat} {cs : List Value} {xs : List (DataW H × List MemPlace)}
    (h : DataW.trod enc P W 0 (fun _ => true) true n T ((cs.drop o).take (P.cellsOf T)) = xs[i]?) (hi : i < xs.length) : ∃ y, K.At [] W ((cs.drop o).take K.sz) y := by
  rw [List.getElem?_eq_getElem hi, hK.cells] at h
  exact hK.open_ h
theorem at_int {M : List Nat} {w : World} {cs : List Value} {k : IntKind} {x : Int} (h : (Kd.int k).At M w cs x) : cs = [.int k x] ∧ (Lit.int k x).wf = true := h.out
theorem at_str {M : List Nat} {w : World} {cs : List Value} {x : ByteArray} (h : Kd.str.At M w cs x) : cs = [.string x] ∧ x.size ≤ maxLen := h.out
theorem at_bool {M : List Nat} {w : World} {cs : List Value} {x : Bool} (h : Kd.bool.At M w cs x) : cs = [.bool x] := h.out

theorem take_snoc' {α : Type} {l : List α} {k : Nat} {x : α} (hx : l[k]? = some x) : l.take (k + 1) = l.take k ++ [x] := by
  have hk := (List.getElem?_eq_some_iff.1 hx).1
  rw [List.take_succ_eq_append_getElem hk, (List.getElem?_eq_some_iff.1 hx).2]

/-- A block just laid reads as it was laid, behind whatever leaves the old blocks alone. -/
theorem box_block {w w1 : World} {o : Obj} (h : Below (w.alloc o).heap.size (w.alloc o) w1) : w1.heap[w.heap.size]? = some o :=
  (h.block _ (by simp)).trans (Go.heap_alloc_new w o)
theorem box_cell {w w1 : World} {cs : Array Value} {t : TypeId} (h : Below (w.alloc (.cells cs t)).heap.size (w.alloc (.cells cs t)) w1) (i : Nat) : w1.cell? ⟨w.heap.size, i, none⟩ = cs[i]? :=
  cell_of_block (box_block h)

/-! ### Rows that a call owns -/
def ob (v : Value) : List Nat := v.ownBlock.toList

/-- A slice that its holder alone knows of: it stands at a block's begin; M: what else may still be turned. -/
structure Row {α : Type} (K : Kd α) (M : List Nat) (e : TypeId) (B : Nat) (w : World) (v : Value) (l : List α) : Prop where
  out : ∃ css : List (List Value), w.ownsRow B e K.sz v l.length css.flatten ∧ css.length = l.length ∧ ∀ (i : Nat) cs x, css[i]? = some cs → l[i]? = some x → K.At (ob v ++ M) w cs x

theorem Row.nil {α : Type} (K : Kd α) (M : List Nat) (e : TypeId) (B : Nat) (w : World) : Row K M e B w (.slice none 0 0) [] :=
  ⟨[], World.ownsRow_nil w B e K.sz, rfl, by simp⟩
theorem Row.form {α : Type} {K : Kd α} {M : List Nat} {e : TypeId} {B : Nat} {w : World} {v : Value} {l : List α} (h : Row K M e B w v l) :
    (v = .slice none 0 0 ∧ l = []) ∨ ∃ g cap, v = .slice (some ⟨g, 0, none⟩) l.length cap ∧ B ≤ g ∧ g < w.heap.size ∧ l.length ≤ cap ∧ cap ≤ maxLen := by
  obtain ⟨css, ⟨_, h1 | ⟨g, cap, cur, hv, hb, hg, hn, hm, _⟩⟩, h2, _⟩ := h.out
  · exact .inl ⟨h1.1, List.eq_nil_of_length_eq_zero h1.2⟩
  · exact .inr ⟨g, cap, hv, hb, block_lt hg, hn, hm⟩
theorem Row.ob_lt {α : Type} {K : Kd α} {M : List Nat} {e : TypeId} {B : Nat} {w : World} {v : Value} {l : List α} (h : Row K M e B w v l) : ∀ k, k ∈ ob v → B ≤ k ∧ k < w.heap.size := by
  rcases h.form with ⟨rfl, _⟩ | ⟨g, cap, rfl, h1, h2, _⟩
  · simp [ob, Value.ownBlock]
  · simp [ob, Value.ownBlock]; exact ⟨h1, h2⟩

theorem flatten_getElem {n : Nat} : ∀ (css : List (List Value)), (∀ cs ∈ css, cs.length = n) → ∀ (i j : Nat) (cs : List Value) (v : Value), css[i]? = some cs → cs[j]? = some v → css.flatten[i * n + j]? = some v
  | [], _, i, j, cs, v, h, _ => by simp at h
  | c :: css, hl, 0, j, cs, v, h, hv => by
    simp at h; subst h
    simp only [List.flatten_cons, Nat.zero_mul, Nat.zero_add]
    rw [List.getElem?_append_left (List.getElem?_eq_some_iff.1 hv).1]; exact hv
  | c :: css, hl, i + 1, j, cs, v, h, hv => by
    simp at h
    have hc := hl c (by simp)
    have ih := flatten_getElem css (fun x hx => hl x (by simp [hx])) i j cs v h hv
    simp only [List.flatten_cons]
    rw [List.getElem?_append_right (by rw [hc, Nat.add_mul]; omega), hc, show (i + 1) * n + j - n = i * n + j by rw [Nat.add_mul]; omega]
    exact ih

theorem row_len {α : Type} {K : Kd α} {M : List Nat} {w : World} {css : List (List Value)} {l : List α} (h2 : css.length = l.length) (h3 : ∀ (i : Nat) cs x, css[i]? = some cs → l[i]? = some x → K.At M w cs x) : ∀ cs ∈ css, cs.length = K.sz := by
  intro cs hcs
  obtain ⟨i, hi, rfl⟩ := List.getElem_of_mem hcs
  exact K.len (h3 i _ _ (List.getElem?_eq_getElem hi) (List.getElem?_eq_getElem (by omega))).out

/-- The element at a place of an owned row. -/
theorem Row.get {α : Type} {K : Kd α} {M : List Nat} {e : TypeId} {B : Nat} {w : World} {v : Value} {l : List α} (h : Row K M e B w v l) {i : Nat} {x : α} (hx : l[i]? = some x) :
    ∃ g cap cs, v = .slice (some ⟨g, 0, none⟩) l.length cap ∧ B ≤ g ∧ g < w.heap.size ∧ l.length ≤ cap ∧ cap ≤ maxLen ∧ K.At (ob v ++ M) w cs x ∧ (∀ j u, cs[j]? = some u → w.cell? ⟨g, i * K.sz + j, none⟩ = some u) ∧ ∀ j, w.frozen? ⟨g, j, none⟩ = false := by
  obtain ⟨css, ⟨hl, h1 | ⟨g, cap, cur, hv, hb, hg, hn, hm, hsz, htk⟩⟩, h2, h3⟩ := h.out
  · have := List.eq_nil_of_length_eq_zero h1.2; subst this; simp at hx
  · have hi := (List.getElem?_eq_some_iff.1 hx).1
    have hcs : css[i]? = some css[i] := List.getElem?_eq_getElem (by omega)
    refine ⟨g, cap, css[i], hv, hb, block_lt hg, hn, hm, h3 i _ x hcs hx, fun j u hj => ?_, fun j => frozen_of_block hg⟩
    have hf := flatten_getElem css (row_len h2 h3) i j _ u hcs hj
    rw [cell_of_block hg]
    rw [← htk, List.getElem?_take] at hf
    split at hf
    · simpa using hf
    · simp at hf

/-- What has been gathered, handed on: nobody turns it any more. -/
theorem Row.read {α : Type} {K : Kd α} {M : List Nat} {e : TypeId} {B : Nat} {w : World} {v : Value} {l : List α} (h : Row K M e B w v l) (hM : ∀ k, k ∈ ob v → k ∉ M) : K.slice.At M w [v] l := by
  rcases h.form with ⟨rfl, rfl⟩ | ⟨g, cap, hv, h1, h2, h3, h4⟩
  · exact Kd.slice_nil K M w none 0 (by simp [maxLen])
  · refine ⟨⟨some ⟨g, 0, none⟩, cap, by rw [hv], h3, h4, fun i x hx => ?_⟩⟩
    obtain ⟨g', cap', cs, hv', _, _, _, _, ha, hc, _⟩ := h.get hx
    rw [hv] at hv'
    simp at hv'
    obtain ⟨rfl, rfl⟩ := hv'
    have hob : g ∈ ob v := by rw [hv]; simp [ob, Value.ownBlock]
    exact ⟨g, 0, rfl, ⟨h2, hM g hob⟩, h2, cs, (ha.sub (fun k hk => .inl (by simp [hk]))).out, fun j u hj => by simpa using hc j u hj⟩

/-- Other blocks are turned. -/
theorem Row.upd {α : Type} {K : Kd α} {M S : List Nat} {e : TypeId} {B : Nat} {w w' : World} {v : Value} {l : List α} (h : Row K M e B w v l) (hu : Upd S w w') (hS : ∀ k, k ∈ S → k ∈ M) (ho : ∀ k, k ∈ ob v → k ∉ S) {M' : List Nat} (hM : ∀ k, k ∈ M' → k ∈ M ∨ w.heap.size ≤ k) : Row K M' e B w' v l := by
  obtain ⟨css, ⟨hl, h1⟩, h2, h3⟩ := h.out
  refine ⟨css, ⟨hl, ?_⟩, h2, fun i cs x h4 h5 => (h3 i cs x h4 h5).upd hu (fun k hk => by simp [hS k hk]) (fun k hk => ?_)⟩
  · rcases h1 with h1 | ⟨g, cap, cur, hv, hb, hg, hr⟩
    · exact .inl h1
    · exact .inr ⟨g, cap, cur, hv, hb, (hu.block g (block_lt hg) (ho g (by rw [hv]; simp [ob, Value.ownBlock]))).trans hg, hr⟩
  · rcases List.mem_append.1 hk with hk | hk
    · exact .inl (by simp [hk])
    · rcases hM k hk with h | h
      · exact .inl (by simp [h])
      · exact .inr h

theorem upd_grown {w w' : World} {v : Value} (h : w.grownBy w' v.ownBlock) : Upd (ob v) w w' :=
  ⟨h.os, h.tape, h.output, h.size, fun k hk hn => h.block k hk (fun e => hn (by simp [ob, ← e]))⟩

/-- 'append' of what a slice reads as, onto an owned row. -/
theorem Row.append {α : Type} {K : Kd α} {P : Program} {M : List Nat} {t ty e : TypeId} {B : Nat} {w : World} {v : Value} {l l2 : List α} (h : Row K M e B w v l)
    (ht : P.underlying t = some (.slice e)) {i : TypeInfo} {z : Value} {bytes : Nat} (hi : P.info? e = some i) (hz : i.zero = some z) (hsize : i.size = K.sz) (hby : i.bytes = bytes) (hzs : z.cells.size = K.sz) (hsz : 0 < K.sz)
    {a : Addr} {c : Nat} (css2 : List (List Value)) (hl2 : css2.length = l2.length) (hnews : ∀ j u, css2.flatten[j]? = some u → w.cell? (a.add j) = some u) (hr2 : ∀ (i : Nat) cs x, css2[i]? = some cs → l2[i]? = some x → K.At (ob v ++ M) w cs x)
    (h63 : l.length + l2.length ≤ maxLen) (hbytes : (l.length + l2.length) * bytes ≤ 140737488355328) (hB : B ≤ w.heap.size) :
    ∃ v' w', (Builtin.append_ #[t, t] ty #[v, .slice (some a) l2.length c]).run P w = .ok v' w' ∧ Row K M e B w' v' (l ++ l2) ∧ Upd (ob v) w w' ∧ (ob v' = ob v ∨ ob v' = [w.heap.size]) := by
  obtain ⟨css, ho, h2, h3⟩ := h.out
  have hlen2 := row_len hl2 hr2
  have hfl : css2.flatten.length = l2.length * K.sz := by
    clear hnews hr2
    induction css2 generalizing l2 with
    | nil => simp at hl2; simp [← hl2]
    | cons c css2 ih =>
      cases l2 with
      | nil => simp at hl2
      | cons y l2 =>
        simp at hl2
        have := ih (l2 := l2) hl2 (by simp at h63; omega) (Nat.le_trans (Nat.mul_le_mul_right _ (by simp)) hbytes) (fun cs hcs => hlen2 cs (by simp [hcs]))
        simp [this, hlen2 c (by simp), Nat.add_mul]; omega
  have h1 : ∀ u ∈ css2.flatten, u.oneCell' = true := by
    intro u hu
    obtain ⟨cs, hcs, hu⟩ := List.mem_flatten.1 hu
    obtain ⟨i, hi, rfl⟩ := List.getElem_of_mem hcs
    exact K.one (hr2 i _ _ (List.getElem?_eq_getElem hi) (List.getElem?_eq_getElem (by omega))).out u hu
  obtain ⟨v', w', hrun, hown, hgrow, _, hob⟩ := run_append_own_at (P := P) w B t ty e i z K.sz bytes ht hi hz hsize hby hzs hsz v l.length css.flatten ho a l2.length c css2.flatten hfl hnews h1 h63 hbytes hB
  have hob' : ob v' = ob v ∨ ob v' = [w.heap.size] := by
    rcases hob with hob | hob
    · exact .inl (by simp [ob, hob])
    · exact .inr (by simp [ob, hob])
  have hu := upd_grown hgrow
  refine ⟨v', w', hrun, ⟨css ++ css2, by simpa using hown, by simp [h2, hl2], fun i cs x h4 h5 => ?_⟩, hu, hob'⟩
  have key : K.At (ob v ++ M) w cs x := by
    rcases Nat.lt_or_ge i l.length with hlt | hge
    · rw [List.getElem?_append_left (by omega)] at h4 h5
      exact h3 i cs x h4 h5
    · rw [List.getElem?_append_right (by omega)] at h4 h5
      rw [h2] at h4
      exact hr2 _ cs x h4 h5
  refine key.upd hu (fun k hk => by simp [hk]) (fun k hk => ?_)
  rcases List.mem_append.1 hk with hk | hk
  · rcases hob' with e1 | e1
    · rw [e1] at hk; exact .inl (by simp [hk])
    · rw [e1] at hk; simp at hk; exact .inr (by omega)
  · exact .inl (by simp [hk])

/-- 'append' of one thing, whose cells stand in a block of their own. -/
theorem Row.push {α : Type} {K : Kd α} {P : Program} {M : List Nat} {t ty e : TypeId} {B : Nat} {w : World} {v : Value} {l : List α} (h : Row K M e B w v l)
    (ht : P.underlying t = some (.slice e)) {i : TypeInfo} {z : Value} {bytes : Nat} (hi : P.info? e = some i) (hz : i.zero = some z) (hsize : i.size = K.sz) (hby : i.bytes = bytes) (hzs : z.cells.size = K.sz) (hsz : 0 < K.sz)
    {b c : Nat} (cs : List Value) (x : α) (hnews : ∀ j u, cs[j]? = some u → w.cell? ⟨b, j, none⟩ = some u) (hr : K.At (ob v ++ M) w cs x)
    (h63 : l.length + 1 ≤ maxLen) (hbytes : (l.length + 1) * bytes ≤ 140737488355328) (hB : B ≤ w.heap.size) :
    ∃ v' w', (Builtin.append_ #[t, t] ty #[v, .slice (some ⟨b, 0, none⟩) 1 c]).run P w = .ok v' w' ∧ Row K M e B w' v' (l ++ [x]) ∧ Upd (ob v) w w' ∧ (ob v' = ob v ∨ ob v' = [w.heap.size]) := by
  refine Row.append (l2 := [x]) h ht hi hz hsize hby hzs hsz (a := ⟨b, 0, none⟩) (c := c) [cs] rfl ?_ ?_ h63 hbytes hB
  · intro j u hj
    simp at hj
    have : (⟨b, 0, none⟩ : Addr).add j = ⟨b, j, none⟩ := by unfold Addr.add; split <;> simp_all
    rw [this]
    exact hnews j u hj
  · intro i cs' y h1 h2
    cases i with
    | zero => simp at h1 h2; subst h1 h2; exact hr
    | succ i => simp at h1

/-- The last one goes. -/
theorem Row.pop {α : Type} {K : Kd α} {M : List Nat} {e : TypeId} {B g cap : Nat} {w : World} {l : List α} {x : α} (h : Row K M e B w (.slice (some ⟨g, 0, none⟩) (l.length + 1) cap) (l ++ [x])) : Row K M e B w (.slice (some ⟨g, 0, none⟩) l.length cap) l := by
  obtain ⟨css, ⟨hl, h1⟩, h2, h3⟩ := h.out
  simp only [List.length_append, List.length_cons, List.length_nil, Nat.zero_add] at h2 h1 hl
  have hlens := row_len (l := l ++ [x]) (by simpa using h2) h3
  refine ⟨css.take l.length, ?_, by simp; omega, fun i cs y h4 h5 => ?_⟩
  · have hfl : (css.take l.length).flatten.length = l.length * K.sz := by
      have : ∀ (n : Nat) (css : List (List Value)), n ≤ css.length → (∀ cs ∈ css, cs.length = K.sz) → (css.take n).flatten.length = n * K.sz := by
        intro n
        induction n with
        | zero => intro css _ _; simp
        | succ n ih =>
          intro css hn hc
          cases css with
          | nil => simp at hn
          | cons c css =>
            have := ih css (by simp at hn; omega) (fun cs hcs => hc cs (by simp [hcs]))
            simp [this, hc c (by simp), Nat.add_mul]; omega
      exact this _ _ (by omega) hlens
    have hsplit : css.flatten = (css.take l.length).flatten ++ (css.drop l.length).flatten := by rw [← List.flatten_append, List.take_append_drop]
    refine ownsRow_pop (last := (css.drop l.length).flatten) hfl ?_
    rw [← hsplit]
    exact ⟨hl, h1⟩
  · have hi := (List.getElem?_eq_some_iff.1 h5).1
    rw [List.getElem?_take_of_lt hi] at h4
    exact h3 i cs y h4 (by rw [List.getElem?_append_left hi]; exact h5)

end Go.Proofs.Ytglghgjbnoldaaa

/-
field.Row: coordinates' fields, one behind the other.
-/
import Derived.Test.YtfkmkhojedfccaaField
import Derived.Lib.AppendStr
namespace Go.Proofs.Ytfkmkhojedfccaa
set_option linter.unusedVariables false
set_option linter.unusedSimpArgs false
open Go.RowKit

/-- A text's bytes as numbers. -/
def bytesI (s : ByteArray) : List Int := s.data.toList.map fun b => ((b.toNat : Nat) : Int)
theorem bytesI_len (s : ByteArray) : (bytesI s).length = s.size := by
  unfold bytesI
  rw [List.length_map]
  rfl
theorem bytesI_str {l : List Int} (h : ∀ x ∈ l, 0 ≤ x ∧ x < 256) : bytesI (strOfNums l) = l := by
  unfold bytesI strOfNums
  simp only [List.map_map]
  conv => rhs; rw [← List.map_id l]
  apply List.map_congr_left
  intro x hx
  have := h x hx
  simp only [Function.comp_apply, id]
  have e : (UInt8.ofNat x.toNat).toNat = x.toNat := by
    simp [UInt8.toNat_ofNat']
    omega
  rw [e]; omega
theorem str_bytesI (s : ByteArray) : strOfNums (bytesI s) = s := by
  unfold bytesI strOfNums
  rw [List.map_map]
  have e : ((fun n : Int => UInt8.ofNat n.toNat) ∘ fun b : UInt8 => ((b.toNat : Nat) : Int)) = id := by
    funext b
    simp
  rw [e, List.map_id]

/-- 'append' of a text, onto an owned row of bytes. -/
theorem Row.appendStr {P : Program} {M : List Nat} {t u ty e : TypeId} {B : Nat} {w : World} {v : Value} {l : List Int} (h : Row (Kd.int .u8) M e B w v l)
    (ht : P.underlying t = some (.slice e)) (hu : P.underlying u = some .string) {i : TypeInfo} (hi : P.info? e = some i) (hz : i.zero = some (.int .u8 0)) (hsize : i.size = 1) (hby : i.bytes = 1) (s : ByteArray)
    (hlen : l.length + s.size ≤ 140737488355328) (hB : B ≤ w.heap.size) :
    ∃ v' w', (Builtin.append_ #[t, u] ty #[v, .string s]).run P w = .ok v' w' ∧ Row (Kd.int .u8) M e B w' v' (l ++ bytesI s) ∧ Upd (ob v) w w' := by
  obtain ⟨css, ho, h2, h3⟩ := h.out
  obtain ⟨v', w', hr, hown, hg, _⟩ := Lib.run_append_own_string (P := P) w B t u ty e i ht hu hi hz hsize hby v l.length css.flatten ho s (by unfold maxLen; omega) hlen hB
  have hupd : Upd (ob v) w w' := upd_grown hg
  refine ⟨v', w', hr, ⟨css ++ (bytesI s).map (fun x => [.int .u8 x]), ?_, by simp [h2], fun j cs x h4 h5 => ?_⟩, hupd⟩
  · have e1 : ((bytesI s).map (fun x => [Value.int .u8 x])).flatten = Lib.strCells s := by
      unfold bytesI Lib.strCells
      rw [List.map_map]
      induction s.data.toList with
      | nil => rfl
      | cons a r ih => simp only [List.map_cons, List.flatten_cons, ih]; rfl
    rw [List.flatten_append, e1, List.length_append, bytesI_len]
    exact hown
  · have key : (Kd.int .u8).At (ob v' ++ M) w' cs x := by
      rcases Nat.lt_or_ge j css.length with hlt | hge
      · rw [List.getElem?_append_left hlt] at h4
        rw [List.getElem?_append_left (by omega)] at h5
        obtain ⟨rfl, hw⟩ := at_int (h3 j cs x h4 h5)
        exact ⟨⟨rfl, hw⟩⟩
      · rw [List.getElem?_append_right hge] at h4
        rw [List.getElem?_append_right (by omega), ← h2] at h5
        rw [List.getElem?_map, h5] at h4
        simp at h4
        subst h4
        have hm : x ∈ bytesI s := List.mem_of_getElem? h5
        unfold bytesI at hm
        obtain ⟨b, _, rfl⟩ := List.mem_map.1 hm
        exact ⟨⟨rfl, wf_u8 (by omega) (by have := b.toNat_lt; omega)⟩⟩
    exact key

/-- An append of a text at the walk, its run known. -/
theorem append_step2 {P : Program} {w : World} {ops : Array Oper} {rest : List Oper} {o : Oper} {a : Act} {Q : Exit → Act → World → Prop} (hgd : o.guard = none) (s x : Operand) (t t' : TypeId)
    (ho : o.op = .call { callee := .builtin .append, args := #[s, x], argTypes := #[t, t'] }) {v u v' : Value} {w' : World} (hs : a.eval s = v) (hx : a.eval x = u)
    (hrun : (Builtin.append_ #[t, t'] o.type #[v, u]).run P w = .ok v' w') (h : wpList P ops Q rest (a.put o.dst v') w') : wpList P ops Q (o :: rest) a w := by
  refine wpList_plain hgd fun K hK => ?_
  unfold Oper.wp execOp
  simp only [ho, resolve, invoke, builtin, Sem.run_bind, Sem.run_pure, Result.andThen_ok, List.map_toArray, List.map_cons, List.map_nil, hs, hx, hrun]
  exact hK _ _ h

/-- What field.Row lays. -/
def rowI (l : List Int) : List Int := l.flatMap (fun x => leI 4 (IntKind.u64.wrap x))
theorem rowI_snoc (l : List Int) (x : Int) : rowI (l ++ [x]) = rowI l ++ leI 4 (IntKind.u64.wrap x) := by simp [rowI]
theorem rowI_len (l : List Int) : (rowI l).length = 4 * l.length := by
  induction l with
  | nil => rfl
  | cons x l ih => simp only [rowI, List.flatMap_cons, List.length_append, leI_len, List.length_cons] at ih ⊢; omega
theorem rowI_mem {l : List Int} {x : Int} (h : x ∈ rowI l) : 0 ≤ x ∧ x < 256 := by
  unfold rowI at h
  obtain ⟨y, _, hy⟩ := List.mem_flatMap.1 h
  exact leI_mem _ _ _ hy
theorem wrap_u64_wf (x : Int) : (Lit.int .u64 (IntKind.u64.wrap x)).wf = true := by
  refine u64_wf ?_ ?_ <;> simp [IntKind.wrap, IntKind.signed, IntKind.bits] <;> omega

set_option maxHeartbeats 2000000 in
theorem field_row_calls (v : Value) (l : List Int) (M : List Nat) (w : World) (h : (Kd.int .i32).slice.At M w [v] l) (hlen : l.length ≤ 4294967296) :
    Calls Try.prog 39 #[v] w fun e w' => e = .returned (.string (strOfNums (rowI l))) ∧ Below w.heap.size w w' := by
  obtain ⟨ao, cap, rfl, hl, hcap⟩ := slice_form' h
  unfold maxLen at hcap
  have H := Lib.hid h
  obtain ⟨i0, hi, hz0, hz1, hz2⟩ := info_parts A.infoU8
  have HI := Lib.hid hi
  have HZ0 := Lib.hid hz0
  have HZ1 := Lib.hid hz1
  have HZ2 := Lib.hid hz2
  have hmk := made_u8 (4 * l.length) (by omega) (4 * (l.length : Int)) (by omega) w
  have hrow := row_made8 (4 * l.length) (by omega) w w.heap.size (Nat.le_refl _)
  obtain ⟨W1, hW1⟩ : ∃ W1, w.alloc (.cells (madeCells #[.int .u8 0] (4 * l.length)) 5) = W1 := ⟨_, rfl⟩
  rw [hW1] at hmk hrow
  have hb1 : Below w.heap.size w W1 := by rw [← hW1]; exact below_alloc1 w _
  have HROW := Lib.hid hrow
  have HB1 := Lib.hid hb1
  clear h hi hz0 hz1 hz2 hrow hW1 hb1
  go_enter Try.func39, Try.ntmps39
  go_wp2_with fail
  clear hmk
  go_loopw [12, 3] (fun i v3 wr => ∃ k : Nat, k ≤ l.length ∧ i = .int .i64 k ∧ Hid (Row (Kd.int .u8) [] 5 w.heap.size wr v3 (rowI (l.take k))) ∧ Hid (Below w.heap.size w wr)) (fun i _ _ => l.length - (intOf i).toNat)
  case atStart => exact ⟨0, Nat.zero_le _, rfl, HROW.out, HB1.out⟩
  case round =>
    obtain ⟨k, hk, rfl, hrow, hw⟩ := hrel
    by_cases hlt : k < l.length
    · obtain ⟨x, hx⟩ : ∃ x, l[k]? = some x := ⟨_, List.getElem?_eq_getElem hlt⟩
      obtain ⟨b1, o1, c1, hv1, _, _, _, _, g1, hxw⟩ := ints_at (H.out.below hw.out) hx
      simp at hv1
      obtain ⟨rfl, rfl⟩ := hv1
      have HP := Lib.hid (field_put_calls (IntKind.u64.wrap x) 4 wr (wrap_u64_wf x))
      have hi1 : (k : Int) < (l.length : Int) := by omega
      have htk : rowI (l.take (k + 1)) = rowI (l.take k) ++ leI 4 (IntKind.u64.wrap x) := by rw [take_snoc' hx, rowI_snoc]
      have HTK := Lib.hid htk
      have hlk : (rowI (l.take k)).length = 4 * k := by rw [rowI_len, List.length_take]; omega
      obtain ⟨aw, cw, hvw, _, _⟩ := row_form hrow.out
      rw [hlk] at hvw
      subst hvw
      have HLK := Lib.hid hlk
      clear hx hxw htk hlk
      go_wp2_with fail
      refine HP.out.mono ?_
      rintro e w2 ⟨rfl, hb2⟩
      have hrow2 := hrow.out.upd (Upd.ofBelow hb2 []) (by simp) (by simp) (M' := []) (by simp)
      have hps : putS (IntKind.u64.wrap x) 4 = strOfNums (leI 4 (IntKind.u64.wrap x)) := rfl
      have hpz : (putS (IntKind.u64.wrap x) 4).size = 4 := by rw [hps, strOfNums_size, leI_len]
      have hz2 := hb2.size
      have hzw := hw.out.size
      obtain ⟨v3, w3, hrun, hrow3, hu3⟩ := Row.appendStr (P := Try.prog) (t := 89) (u := 9) (ty := 89) hrow2 Try.underlying89 Try.underlying9 HI.out HZ0.out HZ1.out HZ2.out (putS (IntKind.u64.wrap x) 4)
        (by rw [HLK.out, hpz]; omega) (by omega)
      rw [hps, bytesI_str (fun y hy => leI_mem _ _ _ hy), ← HTK.out] at hrow3
      rw [hps] at hrun
      have hrb := hrow2.ob_lt
      have HW3 : Hid (Below w.heap.size w w3) := Lib.hid ((hw.out.trans (hb2.mono (by omega))).trans (hu3.belowB (by omega) (fun k hk => (hrb k hk).1)))
      have HRUN := Lib.hid hrun
      have HROW3 := Lib.hid hrow3
      rw [hps]
      clear hb2 hrow2 hps hpz hrun hrow3 hu3 hrb
      go_wp2_with (at_builtin; refine append_step2 rfl _ _ _ _ rfl rfl rfl HRUN.out ?_)
      go_roundw
      case rel => exact ⟨k + 1, by omega, by go_num, HROW3.out, HW3.out⟩
      case measure => simp [intOf]; omega
    · have hkl : k = l.length := by omega
      have e : l.take k = l := List.take_of_length_le (by omega)
      rw [e] at hrow
      have hcv := row_string hrow.out wr (Upd.refl _ _)
      have HW := Lib.hid hw.out
      clear e hrow hw
      go_wp2_with fail
      go_ret
      exact ⟨rfl, HW.out⟩

end Go.Proofs.Ytfkmkhojedfccaa

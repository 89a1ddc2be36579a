/- Contracts of the functions and their models, by the abstract machine. -/
import Derived.Test.YtbeafnkcimfeeaaDoorAm3
import Derived.Test.YtbeafnkcimfeeaaDoorPfTb
import Derived.Test.YtbeafnkcimfeeaaDoorPfEnc
import Derived.Test.YtbeafnkcimfeeaaDoorPfMod20
import Derived.WideShapes
import Derived.Below
import Derived.RowKit
import Derived.ProofKit
/- Data are read out of their cells. -/
namespace Go.Proofs.YtbeafnkcimfeeaaDoor.AM.TT
set_option linter.unusedVariables false
set_option linter.unusedSimpArgs false
open Go Go.Proofs.YtbeafnkcimfeeaaDoor.AM Go.Proofs Go.RowKit Go.WideShapes
set_option linter.unusedVariables false
set_option maxRecDepth 100000
/-- No slice of a record is greater than memory. -/
def recOk (r : Rec) : Prop := r.ents.length * 24 ≤ reachBytes

theorem rd_int {ds : List DV} (h : Shp Tryd.prog 3 ds) : ∃ n, ds = [I n] := by
  obtain ⟨n, h1, _⟩ := h.int_inv Tryd.underlying3
  exact ⟨n, h1⟩
theorem rd_bool {ds : List DV} (h : Shp Tryd.prog 4 ds) : ∃ b, ds = [.bool b] := h.bool_inv Tryd.underlying4
theorem rd_str {ds : List DV} (h : Shp Tryd.prog 9 ds) : ∃ s, ds = [.str s] := by
  obtain ⟨n, h1, _⟩ := h.str_inv Tryd.underlying9
  exact ⟨n, h1⟩
theorem all_map2 {α β : Type} {enc : α → β} {P : α → Prop} : ∀ {es : List β}, (∀ r ∈ es, ∃ x, r = enc x ∧ P x) → ∃ l : List α, es = l.map enc ∧ ∀ x ∈ l, P x
  | [], _ => ⟨[], rfl, by simp⟩
  | r :: es, h => by
    obtain ⟨x, rfl, hx⟩ := h r (by simp)
    obtain ⟨l, rfl, hl⟩ := all_map2 (es := es) (fun r hr => h r (by simp [hr]))
    exact ⟨x :: l, rfl, by simpa using ⟨hx, hl⟩⟩
theorem rd_row {ds : List DV} (h : Shp Tryd.prog 41 ds) : ∃ r : Row, ds = er r := by
  obtain ⟨dss, rfl, h1⟩ := h.agg_ts (ts := [9, 9]) (by kernel_rfl)
  obtain ⟨d1, r1, rfl, q1, h1⟩ := h1.cons_inv
  obtain ⟨d2, r2, rfl, q2, h1⟩ := h1.cons_inv
  obtain rfl := h1.nil_inv
  obtain ⟨x1, rfl⟩ := rd_str q1
  obtain ⟨x2, rfl⟩ := rd_str q2
  exact ⟨⟨x1, x2⟩, rfl⟩
theorem cells_rows : Tryd.prog.cellsOf 41 = 2 := by kernel_rfl
theorem bytes_rows : Tryd.prog.bytesOf 41 = 32 := by kernel_rfl
theorem rd_rows {ds : List DV} (h : Shp Tryd.prog 26 ds) : ∃ l : List Row, ds = [.lst 2 (l.map er)] ∧ l.length * 32 ≤ reachBytes := by
  obtain ⟨es, rfl, h1, h2⟩ := h.row_inv Tryd.underlying26
  obtain ⟨l, rfl⟩ := all_map (enc := er) (fun r hr => rd_row (h1 r hr))
  refine ⟨l, by rw [cells_rows], ?_⟩
  rw [bytes_rows] at h2
  simpa using h2
theorem rd_entry {ds : List DV} (h : Shp Tryd.prog 101 ds) : ∃ r : Entry, ds = ee r := by
  obtain ⟨dss, rfl, h1⟩ := h.agg_ts (ts := [9, 3]) (by kernel_rfl)
  obtain ⟨d1, r1, rfl, q1, h1⟩ := h1.cons_inv
  obtain ⟨d2, r2, rfl, q2, h1⟩ := h1.cons_inv
  obtain rfl := h1.nil_inv
  obtain ⟨x1, rfl⟩ := rd_str q1
  obtain ⟨x2, rfl⟩ := rd_int q2
  exact ⟨⟨x1, x2⟩, rfl⟩
theorem cells_entries : Tryd.prog.cellsOf 101 = 2 := by kernel_rfl
theorem bytes_entries : Tryd.prog.bytesOf 101 = 24 := by kernel_rfl
theorem rd_entries {ds : List DV} (h : Shp Tryd.prog 43 ds) : ∃ l : List Entry, ds = [.lst 2 (l.map ee)] ∧ l.length * 24 ≤ reachBytes := by
  obtain ⟨es, rfl, h1, h2⟩ := h.row_inv Tryd.underlying43
  obtain ⟨l, rfl⟩ := all_map (enc := ee) (fun r hr => rd_entry (h1 r hr))
  refine ⟨l, by rw [cells_entries], ?_⟩
  rw [bytes_entries] at h2
  simpa using h2
theorem rd_hold {ds : List DV} (h : Shp Tryd.prog 45 ds) : ∃ r : Hold, ds = eh r := by
  obtain ⟨dss, rfl, h1⟩ := h.agg_ts (ts := [3, 3, 9]) (by kernel_rfl)
  obtain ⟨d1, r1, rfl, q1, h1⟩ := h1.cons_inv
  obtain ⟨d2, r2, rfl, q2, h1⟩ := h1.cons_inv
  obtain ⟨d3, r3, rfl, q3, h1⟩ := h1.cons_inv
  obtain rfl := h1.nil_inv
  obtain ⟨x1, rfl⟩ := rd_int q1
  obtain ⟨x2, rfl⟩ := rd_int q2
  obtain ⟨x3, rfl⟩ := rd_str q3
  exact ⟨⟨x1, x2, x3⟩, rfl⟩
theorem rd_ref {ds : List DV} (h : Shp Tryd.prog 47 ds) : ∃ r : Ref, ds = ef r := by
  obtain ⟨dss, rfl, h1⟩ := h.agg_ts (ts := [3, 3]) (by kernel_rfl)
  obtain ⟨d1, r1, rfl, q1, h1⟩ := h1.cons_inv
  obtain ⟨d2, r2, rfl, q2, h1⟩ := h1.cons_inv
  obtain rfl := h1.nil_inv
  obtain ⟨x1, rfl⟩ := rd_int q1
  obtain ⟨x2, rfl⟩ := rd_int q2
  exact ⟨⟨x1, x2⟩, rfl⟩
theorem rd_rec {ds : List DV} (h : Shp Tryd.prog 49 ds) : ∃ r : Rec, ds = ec r ∧ recOk r := by
  obtain ⟨dss, rfl, h1⟩ := h.agg_ts (ts := [3, 9, 9, 4, 3, 26, 43, 9, 9, 3, 45, 47]) (by kernel_rfl)
  obtain ⟨d1, r1, rfl, q1, h1⟩ := h1.cons_inv
  obtain ⟨d2, r2, rfl, q2, h1⟩ := h1.cons_inv
  obtain ⟨d3, r3, rfl, q3, h1⟩ := h1.cons_inv
  obtain ⟨d4, r4, rfl, q4, h1⟩ := h1.cons_inv
  obtain ⟨d5, r5, rfl, q5, h1⟩ := h1.cons_inv
  obtain ⟨d6, r6, rfl, q6, h1⟩ := h1.cons_inv
  obtain ⟨d7, r7, rfl, q7, h1⟩ := h1.cons_inv
  obtain ⟨d8, r8, rfl, q8, h1⟩ := h1.cons_inv
  obtain ⟨d9, r9, rfl, q9, h1⟩ := h1.cons_inv
  obtain ⟨d10, r10, rfl, q10, h1⟩ := h1.cons_inv
  obtain ⟨d11, r11, rfl, q11, h1⟩ := h1.cons_inv
  obtain ⟨d12, r12, rfl, q12, h1⟩ := h1.cons_inv
  obtain rfl := h1.nil_inv
  obtain ⟨x1, rfl⟩ := rd_int q1
  obtain ⟨x2, rfl⟩ := rd_str q2
  obtain ⟨x3, rfl⟩ := rd_str q3
  obtain ⟨x4, rfl⟩ := rd_bool q4
  obtain ⟨x5, rfl⟩ := rd_int q5
  obtain ⟨x6, rfl, z6⟩ := rd_rows q6
  obtain ⟨x7, rfl, z7⟩ := rd_entries q7
  obtain ⟨x8, rfl⟩ := rd_str q8
  obtain ⟨x9, rfl⟩ := rd_str q9
  obtain ⟨x10, rfl⟩ := rd_int q10
  obtain ⟨x11, rfl⟩ := rd_hold q11
  obtain ⟨x12, rfl⟩ := rd_ref q12
  exact ⟨⟨x1, x2, x3, x4, x5, x6, x7, x8, x9, x10, x11, x12⟩, rfl, z7⟩
theorem cells_chain : Tryd.prog.cellsOf 49 = 15 := by kernel_rfl
theorem rd_chain {ds : List DV} (h : Shp Tryd.prog 22 ds) : ∃ l : List Rec, ds = [.lst 15 (l.map ec)] ∧ ∀ r ∈ l, recOk r := by
  obtain ⟨es, rfl, h1, _⟩ := h.row_inv Tryd.underlying22
  obtain ⟨l, rfl, h2⟩ := all_map2 (enc := ec) (P := recOk) (fun r hr => rd_rec (h1 r hr))
  exact ⟨l, by rw [cells_chain], h2⟩
theorem rep_agg {K : Known} {ds : List DV} {cs : Array Value} (h : ReadsAs K ds cs.toList) : RepD K (.agg ds) (.agg cs) := by
  refine .agg ds cs (by simpa using h.1.symm) (fun j d hj => ?_) (fun j d hj => ?_)
  · obtain ⟨v, h1, h2, h3⟩ := h.2 j d hj
    have : cs.getD j undef = v := by simp [Array.getD_eq_getD_getElem?, ← Array.getElem?_toList, h1]
    rw [this]; exact h2
  · obtain ⟨v, h1, h2, h3⟩ := h.2 j d hj
    have : cs.getD j undef = v := by simp [Array.getD_eq_getD_getElem?, ← Array.getElem?_toList, h1]
    rw [this]; exact h3
def rdTypes : List TypeId := [3, 4, 9, 41, 26, 101, 43, 45, 47, 49, 22]
theorem rdClosed : closedB Tryd.prog rdTypes = true := by kernel_rfl
/-- What an argument reads as. -/
theorem read_arg {H : Type} {enc : TypeId × Value → H} {W : World} {v : Value} {d : DataW H} {ps : List MemPlace} {t : TypeId} (ht : t ∈ rdTypes) (h : DataW.Trod enc Tryd.prog W 0 (fun _ => true) true t v d ps) (hw : ∀ m ∈ d.weights Tryd.prog t, m ≤ reachBytes) :
    ∃ ds, Shp Tryd.prog t ds ∧ ReadsAs (allK W) ds v.cells.toList := by
  obtain ⟨n, hn⟩ := h
  exact read_all rdClosed (fun _ => rfl) n t _ (d, ps) ht hn hw
theorem reads_one {K : Known} {d : DV} {v : Value} (h : ReadsAs K [d] [v]) : RepD K d v := by
  obtain ⟨u, h1, h2, h3⟩ := h.2 0 d rfl
  cases h1; exact h3
theorem arg_chain {H : Type} {enc : TypeId × Value → H} {W : World} {v : Value} {d : DataW H} {ps : List MemPlace} {r : Reach} {base : Nat}
    (hv : Value.okWide Tryd.prog W r base 22 v) (h : DataW.Trod enc Tryd.prog W 0 (fun _ => true) true 22 v d ps) (hw : ∀ m ∈ d.weights Tryd.prog 22, m ≤ reachBytes) :
    ∃ l : List Rec, RepD (allK W) (.lst 15 (ecs l)) v ∧ ∀ r ∈ l, recOk r := by
  obtain ⟨a, n, c, rfl⟩ := okWide_slice Tryd.underlying22 hv
  obtain ⟨ds, h1, h2⟩ := read_arg (by unfold rdTypes; simp) h hw
  obtain ⟨l, rfl, h3⟩ := rd_chain h1
  exact ⟨l, reads_one h2, h3⟩
theorem arg_str {H : Type} {enc : TypeId × Value → H} {W : World} {v : Value} {d : DataW H} {ps : List MemPlace} {r : Reach} {base : Nat}
    (hv : Value.okWide Tryd.prog W r base 9 v) (h : DataW.Trod enc Tryd.prog W 0 (fun _ => true) true 9 v d ps) (hw : ∀ m ∈ d.weights Tryd.prog 9, m ≤ reachBytes) :
    ∃ l : Str, RepD (allK W) (.str l) v := by
  obtain ⟨a, rfl⟩ := okWide_string Tryd.underlying9 hv
  obtain ⟨ds, h1, h2⟩ := read_arg (by unfold rdTypes; simp) h hw
  obtain ⟨l, rfl⟩ := rd_str h1
  exact ⟨l, reads_one h2⟩
theorem arg_row {H : Type} {enc : TypeId × Value → H} {W : World} {v : Value} {d : DataW H} {ps : List MemPlace} {r : Reach} {base : Nat}
    (hv : Value.okWide Tryd.prog W r base 41 v) (h : DataW.Trod enc Tryd.prog W 0 (fun _ => true) true 41 v d ps) (hw : ∀ m ∈ d.weights Tryd.prog 41, m ≤ reachBytes) :
    ∃ r : Row, RepD (allK W) (.agg (er r)) v := by
  obtain ⟨cs, rfl, _⟩ := okWide_struct Tryd.underlying41 hv
  obtain ⟨ds, h1, h2⟩ := read_arg (by unfold rdTypes; simp) h hw
  obtain ⟨l, rfl⟩ := rd_row h1
  exact ⟨l, rep_agg h2⟩
theorem arg_int {H : Type} {enc : TypeId × Value → H} {W : World} {v : Value} {d : DataW H} {ps : List MemPlace} {r : Reach} {base : Nat}
    (hv : Value.okWide Tryd.prog W r base 3 v) (h : DataW.Trod enc Tryd.prog W 0 (fun _ => true) true 3 v d ps) (hw : ∀ m ∈ d.weights Tryd.prog 3, m ≤ reachBytes) :
    ∃ n : Int, RepD (allK W) (I n) v := by
  obtain ⟨a, rfl⟩ := okWide_int Tryd.underlying3 hv
  exact ⟨a, .int _ _⟩
theorem arg_bool {H : Type} {enc : TypeId × Value → H} {W : World} {v : Value} {d : DataW H} {ps : List MemPlace} {r : Reach} {base : Nat}
    (hv : Value.okWide Tryd.prog W r base 4 v) (h : DataW.Trod enc Tryd.prog W 0 (fun _ => true) true 4 v d ps) (hw : ∀ m ∈ d.weights Tryd.prog 4, m ≤ reachBytes) :
    ∃ b : Bool, RepD (allK W) (.bool b) v := by
  obtain ⟨a, rfl⟩ := okWide_bool Tryd.underlying4 hv
  exact ⟨a, .bool _⟩
/-- A law's call, out of its contract. -/
theorem law_call {f : FuncId} {ds : List DV} {W : World} {xs : Array Value} (hc : CallsD Tryd.prog f ds (.bool true)) (hG : GK (allK W)) (h : RepDs (allK W) ds xs) :
    Calls Tryd.prog f xs W fun e W' => e = .returned (.bool true) ∧ Below W.heap.size W W' := by
  refine (hc.2 (allK W) W xs hG (fun _ _ _ h => h) h).mono ?_
  rintro e W' ⟨v, K', rfl, h1, _, _, _, h2⟩
  cases h1
  exact ⟨rfl, h2⟩
theorem reps1 {K : Known} {d0 : DV} {v0 : Value} (h0 : RepD K d0 v0) : RepDs K [d0] #[v0] := by
  refine ⟨rfl, fun j d hj => ?_⟩
  match j with
  | 0 => cases hj; exact h0
  | j + 1 => simp at hj
theorem reps2 {K : Known} {d0 d1 : DV} {v0 v1 : Value} (h0 : RepD K d0 v0) (h1 : RepD K d1 v1) : RepDs K [d0, d1] #[v0, v1] := by
  refine ⟨rfl, fun j d hj => ?_⟩
  match j with
  | 0 => cases hj; exact h0
  | 1 => cases hj; exact h1
  | j + 2 => simp at hj
theorem reps3 {K : Known} {d0 d1 d2 : DV} {v0 v1 v2 : Value} (h0 : RepD K d0 v0) (h1 : RepD K d1 v1) (h2 : RepD K d2 v2) : RepDs K [d0, d1, d2] #[v0, v1, v2] := by
  refine ⟨rfl, fun j d hj => ?_⟩
  match j with
  | 0 => cases hj; exact h0
  | 1 => cases hj; exact h1
  | 2 => cases hj; exact h2
  | j + 3 => simp at hj
theorem le_sum {l : List Nat} {n : Nat} (h : n ∈ l) : n ≤ l.sum := by
  induction l with
  | nil => cases h
  | cons a r ih =>
    simp only [List.sum_cons]
    rcases List.mem_cons.1 h with rfl | h
    · omega
    · have := ih h; omega
theorem recOk_sz {l : List Rec} (h : ∀ r ∈ l, recOk r) (hf : fewM l = true) : ∀ r ∈ l, r.rows.length ≤ 1000000 ∧ r.ents.length * 24 ≤ 140737488355328 := fun r hr => by
  have h1 := h r hr
  unfold recOk reachBytes at h1
  refine ⟨?_, by omega⟩
  have h2 := fewM_sz hf
  have h3 : r.rows.length + 1 ≤ szL l l.length := by
    unfold szL
    rw [List.take_length]
    exact le_sum (List.mem_map_of_mem (f := fun r : Rec => r.rows.length + 1) hr)
  omega
end Go.Proofs.YtbeafnkcimfeeaaDoor.AM.TT

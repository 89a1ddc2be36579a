/- Contracts of the functions and their models, by the abstract machine. -/
import Derived.Test.YtbeafnkcimfeeaaGreatDoorAm3
import Derived.Test.YtbeafnkcimfeeaaGreatDoorPfTb
import Derived.Test.YtbeafnkcimfeeaaGreatDoorPfEnc
import Derived.Test.YtbeafnkcimfeeaaGreatDoorPfMod20
import Derived.WideShapes
import Derived.Below
import Derived.RowKit
import Derived.ProofKit
/- Data are read out of their cells. -/
namespace Go.Proofs.YtbeafnkcimfeeaaGreatDoor.AM.TT
set_option linter.unusedVariables false
set_option linter.unusedSimpArgs false
open Go Go.Proofs.YtbeafnkcimfeeaaGreatDoor.AM Go.Proofs Go.RowKit Go.WideShapes
set_option linter.unusedVariables false
set_option maxRecDepth 100000
def recOk (r : Rec) : Prop := r.ents.length * 24 ≤ reachBytes
theorem rd_int {ds : List DV} (h : Shp Tryz.prog 3 ds) : ∃ n, ds = [I n] := by
  obtain ⟨n, h1, _⟩ := h.int_inv Tryz.underlying3
  exact ⟨n, h1⟩
theorem rd_bool {ds : List DV} (h : Shp Tryz.prog 4 ds) : ∃ b, ds = [.bool b] := h.bool_inv Tryz.underlying4
theorem rd_str {ds : List DV} (h : Shp Tryz.prog 9 ds) : ∃ s, ds = [.str s] := by
  obtain ⟨n, h1, _⟩ := h.str_inv Tryz.underlying9
  exact ⟨n, h1⟩
theorem all_map2 {α β : Type} {enc : α → β} {P : α → Prop} : ∀ {es : List β}, (∀ r ∈ es, ∃ x, r = enc x ∧ P x) → ∃ l : List α, es = l.map enc ∧ ∀ x ∈ l, P x
  | [], _ => ⟨[], rfl, by simp⟩
  | r :: es, h => by
    obtain ⟨x, rfl, hx⟩ := h r (by simp)
    obtain ⟨l, rfl, hl⟩ := all_map2 (es := es) (fun r hr => h r (by simp [hr]))
    exact ⟨x :: l, rfl, by simpa using ⟨hx, hl⟩⟩
theorem rd_row {ds : List DV} (h : Shp Tryz.prog 154 ds) : ∃ r : Row, ds = er r := by
  obtain ⟨dss, rfl, h1⟩ := h.agg_ts (ts := [9, 9]) (by kernel_rfl)
  obtain ⟨d1, r1, rfl, q1, h1⟩ := h1.cons_inv
  obtain ⟨d2, r2, rfl, q2, h1⟩ := h1.cons_inv
  obtain rfl := h1.nil_inv
  obtain ⟨x1, rfl⟩ := rd_str q1
  obtain ⟨x2, rfl⟩ := rd_str q2
  exact ⟨⟨x1, x2⟩, rfl⟩
theorem cells_rows : Tryz.prog.cellsOf 154 = 2 := by kernel_rfl
theorem bytes_rows : Tryz.prog.bytesOf 154 = 32 := by kernel_rfl
theorem rd_rows {ds : List DV} (h : Shp Tryz.prog 37 ds) : ∃ l : List Row, ds = [.lst 2 (l.map er)] ∧ l.length * 32 ≤ reachBytes := by
  obtain ⟨es, rfl, h1, h2⟩ := h.row_inv Tryz.underlying37
  obtain ⟨l, rfl⟩ := all_map (enc := er) (fun r hr => rd_row (h1 r hr))
  refine ⟨l, by rw [cells_rows], ?_⟩
  rw [bytes_rows] at h2
  simpa using h2
theorem rd_entry {ds : List DV} (h : Shp Tryz.prog 96 ds) : ∃ r : Entry, ds = ee r := by
  obtain ⟨dss, rfl, h1⟩ := h.agg_ts (ts := [9, 3]) (by kernel_rfl)
  obtain ⟨d1, r1, rfl, q1, h1⟩ := h1.cons_inv
  obtain ⟨d2, r2, rfl, q2, h1⟩ := h1.cons_inv
  obtain rfl := h1.nil_inv
  obtain ⟨x1, rfl⟩ := rd_str q1
  obtain ⟨x2, rfl⟩ := rd_int q2
  exact ⟨⟨x1, x2⟩, rfl⟩
theorem cells_entries : Tryz.prog.cellsOf 96 = 2 := by kernel_rfl
theorem bytes_entries : Tryz.prog.bytesOf 96 = 24 := by kernel_rfl
theorem rd_entries {ds : List DV} (h : Shp Tryz.prog 71 ds) : ∃ l : List Entry, ds = [.lst 2 (l.map ee)] ∧ l.length * 24 ≤ reachBytes := by
  obtain ⟨es, rfl, h1, h2⟩ := h.row_inv Tryz.underlying71
  obtain ⟨l, rfl⟩ := all_map (enc := ee) (fun r hr => rd_entry (h1 r hr))
  refine ⟨l, by rw [cells_entries], ?_⟩
  rw [bytes_entries] at h2
  simpa using h2
theorem rd_hold {ds : List DV} (h : Shp Tryz.prog 73 ds) : ∃ r : Hold, ds = eh r := by
  obtain ⟨dss, rfl, h1⟩ := h.agg_ts (ts := [3, 3, 9]) (by kernel_rfl)
  obtain ⟨d1, r1, rfl, q1, h1⟩ := h1.cons_inv
  obtain ⟨d2, r2, rfl, q2, h1⟩ := h1.cons_inv
  obtain ⟨d3, r3, rfl, q3, h1⟩ := h1.cons_inv
  obtain rfl := h1.nil_inv
  obtain ⟨x1, rfl⟩ := rd_int q1
  obtain ⟨x2, rfl⟩ := rd_int q2
  obtain ⟨x3, rfl⟩ := rd_str q3
  exact ⟨⟨x1, x2, x3⟩, rfl⟩
theorem rd_ref {ds : List DV} (h : Shp Tryz.prog 67 ds) : ∃ r : Ref, ds = ef r := by
  obtain ⟨dss, rfl, h1⟩ := h.agg_ts (ts := [3, 3]) (by kernel_rfl)
  obtain ⟨d1, r1, rfl, q1, h1⟩ := h1.cons_inv
  obtain ⟨d2, r2, rfl, q2, h1⟩ := h1.cons_inv
  obtain rfl := h1.nil_inv
  obtain ⟨x1, rfl⟩ := rd_int q1
  obtain ⟨x2, rfl⟩ := rd_int q2
  exact ⟨⟨x1, x2⟩, rfl⟩
theorem rd_rec {ds : List DV} (h : Shp Tryz.prog 75 ds) : ∃ r : Rec, ds = ec r ∧ recOk r := by
  obtain ⟨dss, rfl, h1⟩ := h.agg_ts (ts := [3, 9, 9, 4, 3, 37, 71, 9, 9, 3, 73, 67]) (by kernel_rfl)
  obtain ⟨d1, r1, rfl, q1, h1⟩ := h1.cons_inv
  obtain ⟨d2, r2, rfl, q2, h1⟩ := h1.cons_inv
  obtain ⟨d3, r3, rfl, q3, h1⟩ := h1.cons_inv
  obtain ⟨d4, r4, rfl, q4, h1⟩ := h1.cons_inv
  obtain ⟨d5, r5, rfl, q5, h1⟩ := h1.cons_inv
  obtain ⟨d6, r6, rfl, q6, h1⟩ := h1.cons_inv
  obtain ⟨d7, r7, rfl, q7, h1⟩ := h1.cons_inv
  obtain ⟨d8, r8, rfl, q8, h1⟩ := h1.cons_inv
  obtain ⟨d9, r9, rfl, q9, h1⟩ := h1.cons_inv
  obtain ⟨d10, r10, rfl, q10, h1⟩ := h1.cons_inv
  obtain ⟨d11, r11, rfl, q11, h1⟩ := h1.cons_inv
  obtain ⟨d12, r12, rfl, q12, h1⟩ := h1.cons_inv
  obtain rfl := h1.nil_inv
  obtain ⟨x1, rfl⟩ := rd_int q1
  obtain ⟨x2, rfl⟩ := rd_str q2
  obtain ⟨x3, rfl⟩ := rd_str q3
  obtain ⟨x4, rfl⟩ := rd_bool q4
  obtain ⟨x5, rfl⟩ := rd_int q5
  obtain ⟨x6, rfl, z6⟩ := rd_rows q6
  obtain ⟨x7, rfl, z7⟩ := rd_entries q7
  obtain ⟨x8, rfl⟩ := rd_str q8
  obtain ⟨x9, rfl⟩ := rd_str q9
  obtain ⟨x10, rfl⟩ := rd_int q10
  obtain ⟨x11, rfl⟩ := rd_hold q11
  obtain ⟨x12, rfl⟩ := rd_ref q12
  exact ⟨⟨x1, x2, x3, x4, x5, x6, x7, x8, x9, x10, x11, x12⟩, rfl, z7⟩
theorem cells_chain : Tryz.prog.cellsOf 75 = 15 := by kernel_rfl
theorem rd_chain {ds : List DV} (h : Shp Tryz.prog 68 ds) : ∃ l : List Rec, ds = [.lst 15 (l.map ec)] ∧ ∀ r ∈ l, recOk r := by
  obtain ⟨es, rfl, h1, _⟩ := h.row_inv Tryz.underlying68
  obtain ⟨l, rfl, h2⟩ := all_map2 (enc := ec) (P := recOk) (fun r hr => rd_rec (h1 r hr))
  exact ⟨l, by rw [cells_chain], h2⟩
theorem rep_agg {K : Known} {ds : List DV} {cs : Array Value} (h : ReadsAs K ds cs.toList) : RepD K (.agg ds) (.agg cs) := by
  refine .agg ds cs (by simpa using h.1.symm) (fun j d hj => ?_) (fun j d hj => ?_)
  · obtain ⟨v, h1, h2, h3⟩ := h.2 j d hj
    have : cs.getD j undef = v := by simp [Array.getD_eq_getD_getElem?, ← Array.getElem?_toList, h1]
    rw [this]; exact h2
  · obtain ⟨v, h1, h2, h3⟩ := h.2 j d hj
    have : cs.getD j undef = v := by simp [Array.getD_eq_getD_getElem?, ← Array.getElem?_toList, h1]
    rw [this]; exact h3
def rdTypes : List TypeId := [3, 4, 9, 154, 37, 96, 71, 73, 67, 75, 68]
theorem rdClosed : closedB Tryz.prog rdTypes = true := by kernel_rfl
theorem read_arg {H : Type} {enc : TypeId × Value → H} {W : World} {v : Value} {d : DataW H} {ps : List MemPlace} {t : TypeId} (ht : t ∈ rdTypes) (h : DataW.Trod enc Tryz.prog W 0 (fun _ => true) true t v d ps) (hw : ∀ m ∈ d.weights Tryz.prog t, m ≤ reachBytes) :
    ∃ ds, Shp Tryz.prog t ds ∧ ReadsAs (allK W) ds v.cells.toList := by
  obtain ⟨n, hn⟩ := h
  exact read_all rdClosed (fun _ => rfl) n t _ (d, ps) ht hn hw
theorem reads_one {K : Known} {d : DV} {v : Value} (h : ReadsAs K [d] [v]) : RepD K d v := by
  obtain ⟨u, h1, h2, h3⟩ := h.2 0 d rfl
  cases h1; exact h3
theorem arg_chain {H : Type} {enc : TypeId × Value → H} {W : World} {v : Value} {d : DataW H} {ps : List MemPlace} {r : Reach} {base : Nat}
    (hv : Value.okWide Tryz.prog W r base 68 v) (h : DataW.Trod enc Tryz.prog W 0 (fun _ => true) true 68 v d ps) (hw : ∀ m ∈ d.weights Tryz.prog 68, m ≤ reachBytes) :
    ∃ l : List Rec, RepD (allK W) (.lst 15 (ecs l)) v ∧ ∀ r ∈ l, recOk r := by
  obtain ⟨a, n, c, rfl⟩ := okWide_slice Tryz.underlying68 hv
  obtain ⟨ds, h1, h2⟩ := read_arg (by unfold rdTypes; simp) h hw
  obtain ⟨l, rfl, h3⟩ := rd_chain h1
  exact ⟨l, reads_one h2, h3⟩
theorem arg_str {H : Type} {enc : TypeId × Value → H} {W : World} {v : Value} {d : DataW H} {ps : List MemPlace} {r : Reach} {base : Nat}
    (hv : Value.okWide Tryz.prog W r base 9 v) (h : DataW.Trod enc Tryz.prog W 0 (fun _ => true) true 9 v d ps) (hw : ∀ m ∈ d.weights Tryz.prog 9, m ≤ reachBytes) :
    ∃ l : Str, RepD (allK W) (.str l) v := by
  obtain ⟨a, rfl⟩ := okWide_string Tryz.underlying9 hv
  obtain ⟨ds, h1, h2⟩ := read_arg (by unfold rdTypes; simp) h hw
  obtain ⟨l, rfl⟩ := rd_str h1
  exact ⟨l, reads_one h2⟩
theorem arg_ref {H : Type} {enc : TypeId × Value → H} {W : World} {v : Value} {d : DataW H} {ps : List MemPlace} {r : Reach} {base : Nat}
    (hv : Value.okWide Tryz.prog W r base 67 v) (h : DataW.Trod enc Tryz.prog W 0 (fun _ => true) true 67 v d ps) (hw : ∀ m ∈ d.weights Tryz.prog 67, m ≤ reachBytes) :
    ∃ r : Ref, RepD (allK W) (.agg (ef r)) v := by
  obtain ⟨cs, rfl, _⟩ := okWide_struct Tryz.underlying67 hv
  obtain ⟨ds, h1, h2⟩ := read_arg (by unfold rdTypes; simp) h hw
  obtain ⟨l, rfl⟩ := rd_ref h1
  exact ⟨l, rep_agg h2⟩
theorem arg_int {H : Type} {enc : TypeId × Value → H} {W : World} {v : Value} {d : DataW H} {ps : List MemPlace} {r : Reach} {base : Nat}
    (hv : Value.okWide Tryz.prog W r base 3 v) (h : DataW.Trod enc Tryz.prog W 0 (fun _ => true) true 3 v d ps) (hw : ∀ m ∈ d.weights Tryz.prog 3, m ≤ reachBytes) :
    ∃ n : Int, RepD (allK W) (I n) v := by
  obtain ⟨a, rfl⟩ := okWide_int Tryz.underlying3 hv
  exact ⟨a, .int _ _⟩
theorem law_call {f : FuncId} {ds : List DV} {W : World} {xs : Array Value} (hc : CallsD Tryz.prog f ds (.bool true)) (hG : GK (allK W)) (h : RepDs (allK W) ds xs) :
    Calls Tryz.prog f xs W fun e W' => e = .returned (.bool true) ∧ Below W.heap.size W W' := by
  refine (hc.2 (allK W) W xs hG (fun _ _ _ h => h) h).mono ?_
  rintro e W' ⟨v, K', rfl, h1, _, _, _, h2⟩
  cases h1
  exact ⟨rfl, h2⟩
theorem reps4 {K : Known} {d0 d1 d2 d3 : DV} {v0 v1 v2 v3 : Value} (h0 : RepD K d0 v0) (h1 : RepD K d1 v1) (h2 : RepD K d2 v2) (h3 : RepD K d3 v3) : RepDs K [d0, d1, d2, d3] #[v0, v1, v2, v3] := by
  refine ⟨rfl, fun j d hj => ?_⟩
  match j with
  | 0 => cases hj; exact h0
  | 1 => cases hj; exact h1
  | 2 => cases hj; exact h2
  | 3 => cases hj; exact h3
  | j + 4 => simp at hj
end Go.Proofs.YtbeafnkcimfeeaaGreatDoor.AM.TT

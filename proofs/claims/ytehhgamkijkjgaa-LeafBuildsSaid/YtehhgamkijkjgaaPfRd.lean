/- Cases are read out of their cells. -/
import Derived.Test.YtehhgamkijkjgaaAmW
import Derived.Test.YtehhgamkijkjgaaPfTb
import Derived.Test.YtehhgamkijkjgaaPfEnc
import Derived.Test.YtehhgamkijkjgaaPfMod4
namespace Go.Proofs.Ytehhgamkijkjgaa.AM.TT
open Go Go.Proofs.Ytehhgamkijkjgaa.AM Go.Proofs
set_option linter.unusedVariables false

def rdTypes : List TypeId := [62, 3, 58, 35, 9, 4, 22, 101, 29, 80, 31, 33, 60, 63]
theorem rdClosed : closedB Try.prog rdTypes = true := by kernel_rfl
theorem rd_cells101 : Try.prog.cellsOf 101 = 2 := by kernel_rfl
theorem rd_cells80 : Try.prog.cellsOf 80 = 2 := by kernel_rfl
theorem rd_cells35 : Try.prog.cellsOf 35 = 15 := by kernel_rfl
theorem rd_cells33 : Try.prog.cellsOf 33 = 2 := by kernel_rfl

theorem rd_int {ds : List DV} (h : Shp Try.prog 3 ds) : ∃ n, ds = [I n] := by
  obtain ⟨n, h1, _⟩ := h.int_inv Try.underlying3
  exact ⟨n, h1⟩
theorem rd_bool {ds : List DV} (h : Shp Try.prog 4 ds) : ∃ b, ds = [.bool b] := h.bool_inv Try.underlying4
theorem rd_str {ds : List DV} (h : Shp Try.prog 9 ds) : ∃ s, ds = [.str s] := by
  obtain ⟨n, h1, _⟩ := h.str_inv Try.underlying9
  exact ⟨n, h1⟩
theorem rd_row {ds : List DV} (h : Shp Try.prog 101 ds) : ∃ r : Row, ds = er r := by
  obtain ⟨dss, rfl, h1⟩ := h.agg_ts (ts := [9, 9]) (by kernel_rfl)
  obtain ⟨d1, r1, rfl, q1, h1⟩ := h1.cons_inv
  obtain ⟨d2, r2, rfl, q2, h1⟩ := h1.cons_inv
  obtain rfl := h1.nil_inv
  obtain ⟨x1, rfl⟩ := rd_str q1
  obtain ⟨x2, rfl⟩ := rd_str q2
  exact ⟨⟨x1, x2⟩, rfl⟩
theorem rd_rows {ds : List DV} (h : Shp Try.prog 22 ds) : ∃ l : List Row, ds = [.lst 2 (ers l)] := by
  obtain ⟨es, rfl, h1⟩ := h.row_inv Try.underlying22
  obtain ⟨l, rfl⟩ := all_map (enc := er) (fun r hr => rd_row (h1 r hr))
  exact ⟨l, by rw [rd_cells101]⟩
theorem rd_entry {ds : List DV} (h : Shp Try.prog 80 ds) : ∃ r : Entry, ds = ee r := by
  obtain ⟨dss, rfl, h1⟩ := h.agg_ts (ts := [9, 3]) (by kernel_rfl)
  obtain ⟨d1, r1, rfl, q1, h1⟩ := h1.cons_inv
  obtain ⟨d2, r2, rfl, q2, h1⟩ := h1.cons_inv
  obtain rfl := h1.nil_inv
  obtain ⟨x1, rfl⟩ := rd_str q1
  obtain ⟨x2, rfl⟩ := rd_int q2
  exact ⟨⟨x1, x2⟩, rfl⟩
theorem rd_entries {ds : List DV} (h : Shp Try.prog 29 ds) : ∃ l : List Entry, ds = [.lst 2 (ees l)] := by
  obtain ⟨es, rfl, h1⟩ := h.row_inv Try.underlying29
  obtain ⟨l, rfl⟩ := all_map (enc := ee) (fun r hr => rd_entry (h1 r hr))
  exact ⟨l, by rw [rd_cells80]⟩
theorem rd_hold {ds : List DV} (h : Shp Try.prog 31 ds) : ∃ r : Hold, ds = eh r := by
  obtain ⟨dss, rfl, h1⟩ := h.agg_ts (ts := [3, 3, 9]) (by kernel_rfl)
  obtain ⟨d1, r1, rfl, q1, h1⟩ := h1.cons_inv
  obtain ⟨d2, r2, rfl, q2, h1⟩ := h1.cons_inv
  obtain ⟨d3, r3, rfl, q3, h1⟩ := h1.cons_inv
  obtain rfl := h1.nil_inv
  obtain ⟨x1, rfl⟩ := rd_int q1
  obtain ⟨x2, rfl⟩ := rd_int q2
  obtain ⟨x3, rfl⟩ := rd_str q3
  exact ⟨⟨x1, x2, x3⟩, rfl⟩
theorem rd_ref {ds : List DV} (h : Shp Try.prog 33 ds) : ∃ r : Ref, ds = ef r := by
  obtain ⟨dss, rfl, h1⟩ := h.agg_ts (ts := [3, 3]) (by kernel_rfl)
  obtain ⟨d1, r1, rfl, q1, h1⟩ := h1.cons_inv
  obtain ⟨d2, r2, rfl, q2, h1⟩ := h1.cons_inv
  obtain rfl := h1.nil_inv
  obtain ⟨x1, rfl⟩ := rd_int q1
  obtain ⟨x2, rfl⟩ := rd_int q2
  exact ⟨⟨x1, x2⟩, rfl⟩
theorem rd_rec {ds : List DV} (h : Shp Try.prog 35 ds) : ∃ r : Rec, ds = ec r := by
  obtain ⟨dss, rfl, h1⟩ := h.agg_ts (ts := [3, 9, 9, 4, 3, 22, 29, 9, 9, 3, 31, 33]) (by kernel_rfl)
  obtain ⟨d1, r1, rfl, q1, h1⟩ := h1.cons_inv
  obtain ⟨d2, r2, rfl, q2, h1⟩ := h1.cons_inv
  obtain ⟨d3, r3, rfl, q3, h1⟩ := h1.cons_inv
  obtain ⟨d4, r4, rfl, q4, h1⟩ := h1.cons_inv
  obtain ⟨d5, r5, rfl, q5, h1⟩ := h1.cons_inv
  obtain ⟨d6, r6, rfl, q6, h1⟩ := h1.cons_inv
  obtain ⟨d7, r7, rfl, q7, h1⟩ := h1.cons_inv
  obtain ⟨d8, r8, rfl, q8, h1⟩ := h1.cons_inv
  obtain ⟨d9, r9, rfl, q9, h1⟩ := h1.cons_inv
  obtain ⟨d10, r10, rfl, q10, h1⟩ := h1.cons_inv
  obtain ⟨d11, r11, rfl, q11, h1⟩ := h1.cons_inv
  obtain ⟨d12, r12, rfl, q12, h1⟩ := h1.cons_inv
  obtain rfl := h1.nil_inv
  obtain ⟨x1, rfl⟩ := rd_int q1
  obtain ⟨x2, rfl⟩ := rd_str q2
  obtain ⟨x3, rfl⟩ := rd_str q3
  obtain ⟨x4, rfl⟩ := rd_bool q4
  obtain ⟨x5, rfl⟩ := rd_int q5
  obtain ⟨x6, rfl⟩ := rd_rows q6
  obtain ⟨x7, rfl⟩ := rd_entries q7
  obtain ⟨x8, rfl⟩ := rd_str q8
  obtain ⟨x9, rfl⟩ := rd_str q9
  obtain ⟨x10, rfl⟩ := rd_int q10
  obtain ⟨x11, rfl⟩ := rd_hold q11
  obtain ⟨x12, rfl⟩ := rd_ref q12
  exact ⟨⟨x1, x2, x3, x4, x5, x6, x7, x8, x9, x10, x11, x12⟩, rfl⟩
theorem rd_chain {ds : List DV} (h : Shp Try.prog 58 ds) : ∃ l : List Rec, ds = [.lst 15 (ecs l)] := by
  obtain ⟨es, rfl, h1⟩ := h.row_inv Try.underlying58
  obtain ⟨l, rfl⟩ := all_map (enc := ec) (fun r hr => rd_rec (h1 r hr))
  exact ⟨l, by rw [rd_cells35]⟩
theorem rd_limits {ds : List DV} (h : Shp Try.prog 60 ds) : ∃ r : Limits, ds = eli r := by
  obtain ⟨dss, rfl, h1⟩ := h.agg_ts (ts := [3, 3, 3, 3, 3, 3]) (by kernel_rfl)
  obtain ⟨d1, r1, rfl, q1, h1⟩ := h1.cons_inv
  obtain ⟨d2, r2, rfl, q2, h1⟩ := h1.cons_inv
  obtain ⟨d3, r3, rfl, q3, h1⟩ := h1.cons_inv
  obtain ⟨d4, r4, rfl, q4, h1⟩ := h1.cons_inv
  obtain ⟨d5, r5, rfl, q5, h1⟩ := h1.cons_inv
  obtain ⟨d6, r6, rfl, q6, h1⟩ := h1.cons_inv
  obtain rfl := h1.nil_inv
  obtain ⟨x1, rfl⟩ := rd_int q1
  obtain ⟨x2, rfl⟩ := rd_int q2
  obtain ⟨x3, rfl⟩ := rd_int q3
  obtain ⟨x4, rfl⟩ := rd_int q4
  obtain ⟨x5, rfl⟩ := rd_int q5
  obtain ⟨x6, rfl⟩ := rd_int q6
  exact ⟨⟨x1, x2, x3, x4, x5, x6⟩, rfl⟩
theorem rd_case {ds : List DV} (h : Shp Try.prog 62 ds) : ∃ r : Case, ds = ecase r := by
  obtain ⟨dss, rfl, h1⟩ := h.agg_ts (ts := [3, 58, 58, 4, 9, 60, 4]) (by kernel_rfl)
  obtain ⟨d1, r1, rfl, q1, h1⟩ := h1.cons_inv
  obtain ⟨d2, r2, rfl, q2, h1⟩ := h1.cons_inv
  obtain ⟨d3, r3, rfl, q3, h1⟩ := h1.cons_inv
  obtain ⟨d4, r4, rfl, q4, h1⟩ := h1.cons_inv
  obtain ⟨d5, r5, rfl, q5, h1⟩ := h1.cons_inv
  obtain ⟨d6, r6, rfl, q6, h1⟩ := h1.cons_inv
  obtain ⟨d7, r7, rfl, q7, h1⟩ := h1.cons_inv
  obtain rfl := h1.nil_inv
  obtain ⟨x1, rfl⟩ := rd_int q1
  obtain ⟨x2, rfl⟩ := rd_chain q2
  obtain ⟨x3, rfl⟩ := rd_chain q3
  obtain ⟨x4, rfl⟩ := rd_bool q4
  obtain ⟨x5, rfl⟩ := rd_str q5
  obtain ⟨x6, rfl⟩ := rd_limits q6
  obtain ⟨x7, rfl⟩ := rd_bool q7
  exact ⟨⟨x1, x2, x3, x4, x5, x6, x7⟩, rfl⟩
end Go.Proofs.Ytehhgamkijkjgaa.AM.TT

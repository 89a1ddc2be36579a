/- Contracts of the functions and their models, by the abstract machine. -/
import Derived.Test.YtbeafnkcimfeeaaGreatDoorPfDAs
/- fault.Code at a code. -/
namespace Go.Proofs.YtbeafnkcimfeeaaGreatDoor.AM.TT
set_option linter.unusedVariables false
set_option linter.unusedSimpArgs false
open Go Go.Proofs.YtbeafnkcimfeeaaGreatDoor.AM Go.Proofs Go.RowKit Go.Extern.Stop Go.Stop Go.Extern
set_option linter.unusedVariables false
set_option linter.unusedSimpArgs false
set_option maxHeartbeats 4000000 in
theorem code_hit (c : Int) (w : World) (hg : w.cell? ⟨0, 0, none⟩ = some errT) : Calls Tryz.prog 16 #[.iface 48 (.int .i64 c)] w fun e w' => e = .returned (.int .i64 c) ∧ Below w.heap.size w w' := by
  have hlt : 0 < w.heap.size := by
    rcases Nat.eq_zero_or_pos w.heap.size with h0 | h
    · simp [World.cell?, h0] at hg
    · exact h
  have hg1 : (w.alloc (.cells #[.int .i64 0] 48)).cell? ⟨0, 0, none⟩ = some errT := by
    rw [World.cell?_alloc_lt _ _ ⟨0, 0, none⟩ hlt]; exact hg
  have hh := as_hit c ⟨w.heap.size, 0, none⟩ (.int .i64 0) (w.alloc (.cells #[.int .i64 0] 48)) hg1 (by rw [World.cell?_alloc_at _ _ _ _ (by simp)]; rfl) (by rw [World.frozen?_alloc_new])
  have hload : (asW (w.alloc (.cells #[.int .i64 0] 48)) ⟨w.heap.size, 0, none⟩ c).cell? ⟨w.heap.size, 0, none⟩ = some (.int .i64 c) := by
    unfold asW
    refine World.cell?_setCell_same _ _ _ (u := .int .i64 0) ?_
    rw [World.cell?_alloc_lt _ _ ⟨w.heap.size, 0, none⟩ (by simp; omega), World.cell?_alloc_lt _ _ ⟨w.heap.size, 0, none⟩ (by simp; omega), World.cell?_alloc_lt _ _ ⟨w.heap.size, 0, none⟩ (by simp; omega), World.cell?_alloc_lt _ _ ⟨w.heap.size, 0, none⟩ (by simp)]
    rw [World.cell?_alloc_at _ _ _ _ (by simp)]; rfl
  go_enter Tryz.func16, Tryz.ntmps16
  go_wp2_with (first | (go_at_call 58; refine hh.mono ?_; rintro e w' ⟨rfl, rfl⟩))
  go_ret
  refine ⟨rfl, rfl, rfl, rfl, by simp [asW]; omega, fun k hk => ?_⟩
  unfold asW World.setCell
  show (Array.modify _ _ _)[k]? = _
  rw [Array.getElem?_modify, if_neg (by show ¬ w.heap.size = k; omega)]
  rw [Below.heap_alloc _ _ _ (by simp; omega), Below.heap_alloc _ _ _ (by simp; omega), Below.heap_alloc _ _ _ (by simp; omega), Below.heap_alloc _ _ _ (by simp; omega), Below.heap_alloc _ _ _ hk]
theorem enter16 : EnterOk Tryz.prog 16 := EnterOk_of (fn := Tryz.f16) (by kernel_rfl) (by kernel_rfl) (by kernel_rfl)
theorem f16_calls (c : Int) : CallsD Tryz.prog 16 [EE c] (I c) := by
  refine ⟨enter16, fun K w xs hG hK hx => ?_⟩
  have hg : w.cell? ⟨0, 0, none⟩ = some errT := hK 0 0 _ hG
  obtain ⟨h1, h2⟩ := hx
  have hv := h2 0 _ rfl
  obtain ⟨y, h3, h4⟩ := hv.ifc_inv
  obtain rfl := h4.int_inv
  have hxs : xs = #[.iface 48 (.int .i64 c)] := by
    apply Array.ext
    · simp [h1]
    · intro i hi hi2
      have : i = 0 := by simp at hi2; omega
      subst this
      simpa [hi] using h3
  subst hxs
  refine (code_hit c w hg).mono ?_
  rintro e w' ⟨rfl, hb⟩
  exact ⟨_, K, rfl, .int _ _, fun _ _ _ h => h, fun _ _ _ => rfl, fun b o v hk => by rw [World.cell?_of_block (hb.block b (World.block_lt_of_cell? w _ (hK b o v hk)))]; exact hK b o v hk, hb⟩
theorem f16_calls_nil : CallsD Tryz.prog 16 [.nilI] (I 0) := by
  refine ⟨enter16, fun K w xs hG hK hx => ?_⟩
  obtain ⟨h1, h2⟩ := hx
  have hv := (h2 0 _ rfl).nilI_inv
  have hxs : xs = #[.nilIface] := by
    apply Array.ext
    · simp [h1]
    · intro i hi hi2
      have : i = 0 := by simp at hi2; omega
      subst this
      simpa [hi] using hv
  subst hxs
  refine (code_nil w).mono ?_
  rintro e w' ⟨rfl, rfl⟩
  have hb : Below w.heap.size w (w.alloc (.cells #[.int .i64 0] 48)) := ⟨rfl, rfl, rfl, by simp, fun k hk => Below.heap_alloc _ _ _ hk⟩
  exact ⟨_, K, rfl, .int _ _, fun _ _ _ h => h, fun _ _ _ => rfl, fun b o v hk => by rw [World.cell?_of_block (hb.block b (World.block_lt_of_cell? w _ (hK b o v hk)))]; exact hK b o v hk, hb⟩
end Go.Proofs.YtbeafnkcimfeeaaGreatDoor.AM.TT

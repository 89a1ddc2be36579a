/- The abstract machine (10): every operation, in one theorem. -/
import Derived.Test.YtehhgamkijkjgaaAmI
namespace Go.Proofs.Ytehhgamkijkjgaa.AM
open Go.RowKit
set_option linter.unusedVariables false
set_option linter.unusedSimpArgs false
set_option linter.unusedSectionVars false

section
variable {P : Program} {T : Tab} {o : Oper} {σ : St} {a : Act} {w : World} {c : Cfg} {e : Eff} {K : Act → World → Prop} {Q : Exit → Act → World → Prop}

theorem argsP_one {x : List Operand} {v : PV} (h : argsP σ x = some [v]) : ∃ y, x = [y] ∧ evalO σ y = some v := by
  cases x with
  | nil => simp [argsP] at h
  | cons y r =>
    simp only [argsP] at h
    split at h <;> simp at h
    rename_i u l h1 h2
    obtain ⟨rfl, rfl⟩ := h
    cases r with
    | nil => exact ⟨y, rfl, h1⟩
    | cons z r => simp only [argsP] at h2; split at h2 <;> simp at h2

theorem argsP_two {x : List Operand} {u v : PV} (h : argsP σ x = some [u, v]) : ∃ y z, x = [y, z] ∧ evalO σ y = some u ∧ evalO σ z = some v := by
  cases x with
  | nil => simp [argsP] at h
  | cons y r =>
    simp only [argsP] at h
    split at h <;> simp at h
    rename_i u' l h1 h2
    obtain ⟨rfl, rfl⟩ := h
    obtain ⟨z, rfl, h3⟩ := argsP_one h2
    exact ⟨y, z, rfl, h1, h3⟩

set_option maxHeartbeats 1000000 in
theorem OpK_sound (hT : ∀ t i, T t = some i → i.Good P t) (hs : HS σ w c) (he : EnvOk σ a c) (hf : ∀ d, o.dst = some d → FreshAt c d σ.ep)
    (h : OpK P T true o σ (Next σ o a w c K)) : o.wp P a w K Q := by
  unfold OpK at h
  unfold opOut at h
  split at h
  · rename_i x ho
    split at h
    · rename_i v hv; exact sound_move hs he ho hv h
    · exact False.elim h
  · rename_i x ho
    split at h
    · rename_i hx
      split at h
      · rename_i d e sz by' hd ht; exact sound_assign_nil (e := e) hs he ho hx hd ((hf d hd).1 0).2 h
      · exact False.elim h
    · split at h
      · rename_i v hv; exact sound_assign hs he ho hv h
      · exact False.elim h
  · rename_i x y z ho
    split at h
    · rename_i t ht
      cases t with
      | true =>
        have h := h.1 rfl
        unfold optK at h
        split at h
        · rename_i v hv; exact sound_pick hs he ho ht (by simpa using hv) h
        · exact False.elim h
      | false =>
        have h := h.2 rfl
        unfold optK at h
        split at h
        · rename_i v hv; exact sound_pick hs he ho ht (by simpa using hv) h
        · exact False.elim h
    · exact False.elim h
  · rename_i t ho
    split at h
    · rename_i d i hd hi; exact sound_alloc hs he hT ho hd hi ((hf d hd).1 0).1 h
    · exact False.elim h
  · rename_i t x ho
    split at h
    · rename_i d i hd hi
      split at h
      · rename_i cs hc; exact sound_box hs he ho hd hc ((hf d hd).1 0).1 h
      · exact False.elim h
    · exact False.elim h
  · rename_i t parts ho
    split at h
    · rename_i i hi
      split at h
      · rename_i fs hty
        split at h
        · rename_i cs hc; exact sound_build hs he hT ho hi hty hc h
        · exact False.elim h
      · exact False.elim h
    · exact False.elim h
  · rename_i t n parts ho
    split at h
    · rename_i d e sz by' hd ht
      split at h
      · rename_i i hi
        split at h
        · rename_i hc
          split at h
          · rename_i es hes; exact sound_buildSlice hs he hT ho hd ht hi hc.1 hc.2.1 hc.2.2 hes ((hf d hd).1 0).2 h
          · exact False.elim h
        · exact False.elim h
      · exact False.elim h
    · exact False.elim h
  · rename_i t x ho
    split at h
    · rename_i i k off hi hx
      simp only [Out.holds] at h
      split at h
      · rename_i cs hk
        split at h
        · rename_i e hl
          unfold loadOut at hl
          split at hl
          · rename_i ha
            split at hl <;> simp at hl
            rename_i hl2
            subst hl
            exact sound_load_box hs he hT ho hi hx hk (.inl ⟨ha, hl2, rfl⟩) h
          · rename_i ha
            split at hl <;> simp at hl
            rename_i v hv
            subst hl
            exact sound_load_box hs he hT ho hi hx hk (.inr ⟨by simpa using ha, hv⟩) h
        · exact False.elim h
      · exact False.elim h
    · rename_i i cs off hi hx
      split at h
      · rename_i ha
        split at h
        · rename_i hl; exact sound_load_ip hs he hT ho hi hx (.inl ⟨ha, hl, rfl⟩) h
        · exact False.elim h
      · rename_i ha
        split at h
        · rename_i v hv; exact sound_load_ip hs he hT ho hi hx (.inr ⟨by simpa using ha, hv⟩) h
        · exact False.elim h
    · exact False.elim h
  · rename_i t x y ho
    split at h
    · rename_i i k off hd hi hx
      split at h
      · rename_i new hy
        simp only [Out.holds] at h
        split at h
        · rename_i cs hk
          split at h
          · rename_i e hl
            unfold storeOut at hl
            split at hl <;> simp at hl
            rename_i hl2
            subst hl
            exact sound_store hs he hT ho hd hi hx hk hy hl2 h
          · exact False.elim h
        · exact False.elim h
      · exact False.elim h
    · exact False.elim h
  · rename_i op t x y t' ho
    split at h
    · rename_i p q hx hy
      split at h
      · rename_i d hd; exact sound_binOp hs he hT ho hx hy hd h
      · exact False.elim h
    · exact False.elim h
  · rename_i t x ho
    split at h
    · rename_i b hb; exact sound_not hs he ho hb h
    · exact False.elim h
  · rename_i t x f ho
    split at h
    · rename_i fs k off ht hx
      split at h
      · rename_i p hp; exact sound_fieldAddr_box hs he hT ho ht hx hp h
      · exact False.elim h
    · rename_i fs cs off ht hx
      split at h
      · rename_i p hp; exact sound_fieldAddr_ip hs he hT ho ht hx hp h
      · exact False.elim h
    · exact False.elim h
  · rename_i t x f ho
    split at h
    · rename_i fs cs ht hx
      split at h
      · rename_i off sz ag hp
        split at h
        · rename_i ha
          split at h
          · rename_i hl; exact sound_field hs he hT ho ht hx hp (.inl ⟨ha, hl, rfl⟩) h
          · exact False.elim h
        · rename_i ha
          split at h
          · rename_i d hd; exact sound_field hs he hT ho ht hx hp (.inr ⟨by simpa using ha, hd⟩) h
          · exact False.elim h
      · exact False.elim h
    · exact False.elim h
  · rename_i t x i ho
    split at h
    · rename_i e sz by' d k n ht hx hi
      split at h
      · rename_i sz' es
        split at h
        · rename_i hz
          subst hz
          obtain ⟨cs, ⟨h0, hc⟩, h⟩ := h
          exact sound_indexAddr hs he hT ho ht hx hi h0 hc h
        · exact False.elim h
      · exact False.elim h
    · exact False.elim h
  · rename_i t x i ho
    split at h
    · rename_i s k n ht hx hi
      obtain ⟨b, ⟨h0, hc⟩, h⟩ := h
      exact sound_index hs he hT ho ht hx hi h0 hc h
    · exact False.elim h
  · rename_i x i ho
    split at h
    · rename_i vs hx
      split at h
      · rename_i d hd; exact sound_extract hs he ho hx hd h
      · exact False.elim h
    · exact False.elim h
  · rename_i t x lo hi ho
    split at h
    · rename_i s ht hx
      split at h
      · rename_i l hh hl hhi; exact sound_slice_str hs he hT ho ht hx hl hhi h.1 h.2
      · exact False.elim h
    · rename_i e sz by' d ht hx
      split at h
      · rename_i sz' es
        split at h
        · rename_i hz
          subst hz
          split at h
          · rename_i l hh hl hhi; exact sound_slice_lst hs he hT ho ht hx hl hhi h.1 h.2
          · exact False.elim h
        · exact False.elim h
      · exact False.elim h
    · exact False.elim h
  · rename_i t x ho
    split at h
    · rename_i i d hi hx
      split at h
      · rename_i k hk; exact sound_makeInterface hs he hT ho hi (.inl ⟨k, hk⟩) hx h
      · rename_i hk; exact sound_makeInterface hs he hT ho hi (.inr (.inl hk)) hx h
      · rename_i hk; exact sound_makeInterface hs he hT ho hi (.inr (.inr hk)) hx h
      · exact False.elim h
    · exact False.elim h
  · rename_i f first cap ho
    split at h
    · rename_i hz
      split at h
      · rename_i l hl; exact sound_makeFunc hs he ho hz hl h
      · exact False.elim h
    · exact False.elim h
  · rename_i cl ho
    split at h
    · rename_i f hc
      split at h
      · rename_i args g caps ha hf'
        obtain ⟨d, rdm, e, hd, hr, hu, hE, h⟩ := h
        exact sound_call hs he ho hc ha hf' hd hr hu hE (hf d hd) h
      · exact False.elim h
    · rename_i b hc
      split at h
      · rename_i args ha
        unfold builtinOut at h
        split at h
        · rename_i v
          obtain ⟨y, hy, hv⟩ := argsP_one ha
          have hy' : cl.args = #[y] := by apply Array.ext'; simpa using hy
          split at h
          · rename_i s had hat
            simp only [Option.map_eq_some_iff] at hat
            obtain ⟨t, h1, h2⟩ := hat
            exact sound_len_str hs he hT ho hc hy' hv had ⟨t, h1, h2⟩ h
          · rename_i d e sz by' _ had hat
            simp only [Option.map_eq_some_iff] at hat
            obtain ⟨t, h1, h2⟩ := hat
            split at h
            · rename_i sy es hr
              exact sound_len_row hs he hT ho hc hy' hv had hr ⟨t, _, _, _, h1, h2⟩ h
            · exact False.elim h
          · exact False.elim h
        · rename_i x y
          obtain ⟨p, q, hpq, h1, h2⟩ := argsP_two ha
          have hy' : cl.args = #[p, q] := by apply Array.ext'; simpa using hpq
          split at h
          · rename_i k a1 k' b1 had1 had2
            split at h
            · rename_i hk; subst hk; exact sound_min hs he ho hc hy' h1 had1 h2 had2 h
            · exact False.elim h
          · exact False.elim h
        · rename_i x y
          obtain ⟨p, q, hpq, h1, h2⟩ := argsP_two ha
          have hy' : cl.args = #[p, q] := by apply Array.ext'; simpa using hpq
          split at h
          · rename_i k a1 k' b1 had1 had2
            split at h
            · rename_i hk; subst hk; exact sound_max hs he ho hc hy' h1 had1 h2 had2 h
            · exact False.elim h
          · exact False.elim h
        · rename_i x y
          obtain ⟨p, q, hpq, h1, h2⟩ := argsP_two ha
          have hy' : cl.args = #[p, q] := by apply Array.ext'; simpa using hpq
          split at h
          · rename_i d t t' sy ys hd hat hry
            simp only [Option.bind_eq_some_iff] at hry
            obtain ⟨dy, hdy, hry⟩ := hry
            split at h
            · rename_i htt
              subst htt
              have hat' : cl.argTypes = #[t, t] := by apply Array.ext'; simpa using hat
              split at h
              · rename_i e sz bytes ht
                split at h
                · rename_i hsy
                  split at h
                  · rename_i τ sx xs
                    split at h
                    · rename_i hl
                      subst hl
                      exact sound_append hs he hT ho hc hy' hat' hd ht h1 h2 hdy hry hsy (.inl ⟨τ, rfl, h.1, rfl⟩) h.2.1.1 h.2.1.2 ((hf d hd).1 0).2 h.2.2
                    · exact False.elim h
                  · rename_i q'
                    exact sound_append (xs := []) hs he hT ho hc hy' hat' hd ht h1 h2 hdy hry hsy (.inr ⟨q', rfl, rfl, rfl⟩) (by simpa using h.1.1) (by simpa using h.1.2) ((hf d hd).1 0).2 (by simpa using h.2)
                  · exact False.elim h
                · exact False.elim h
              · exact False.elim h
            · exact False.elim h
          · exact False.elim h
        · exact False.elim h
      · exact False.elim h
    · exact False.elim h
  · exact False.elim h

end
end Go.Proofs.Ytehhgamkijkjgaa.AM

/- 'append' to a row of which nothing is known. -/
import Derived.Test.YtppdhckcempmnaaGreatDoorAEOps3
namespace Go.AE
open Go.RowKit
variable {E : Env} {P : Program} {w0 : World} {σ : Sg} {m : Mem} {w : World}
theorem getL_bads (K : Nat) : ∀ q o, o + q ≤ K → (T.ofList (List.replicate K bad)).getL q o = some (List.replicate q bad) := by
  intro q
  induction q with
  | zero => intro o _; rfl
  | succ q ih =>
    intro o h
    have h1 : (T.ofList (List.replicate K bad)).get o = some bad := by
      rw [T.get_ofList, List.getElem?_replicate, if_pos (by omega)]
    simp only [T.getL, h1, ih (o + 1) (by omega)]
    rfl
theorem appendB_sound (hE : EOK E P) (h : MR E w0 σ m w) {t ty : TypeId} {s x s' x' : Value} {out : Out} (ha : appendB E t s x m = some out) (hs : VR σ s s') (hx : VR σ x x') :
    OutOK E P w0 σ m w (do pure (.value (← Builtin.append_ #[t, t] ty #[s', x']))) out := by
  unfold appendB at ha
  split at ha
  · rename_i a len cap
    split at ha
    · rename_i cells e' hrow
      split at ha
      · rename_i e te n hel hlen
        split at ha
        · rename_i new hnew hk1 hk2 hcap hee
          split at ha
          · rename_i k hone hsz1 hlen2
            cases ha
            obtain rfl := Nat.eq_of_beq_eq_true hee
            have hs0 := hs
            rcases hs.slice_inv with ⟨h1, _⟩ | ⟨i, o, y, c', h1, rfl, hy, _, hc2⟩
            · cases h1
            · cases h1
              simp only at hrow
              obtain ⟨hcl, hco⟩ := hc2 (Nat.le_of_ble_eq_true hcap)
              obtain ⟨C, fz, hB, hob, hf, hN, _, ⟨ti, hti, hys⟩, _⟩ := h.row hrow hy
              obtain ⟨_, hte⟩ := elemSize_spec hE hel
              obtain rfl : ti = te := by rw [hti] at hte; exact Option.some.inj hte
              have hsize : 1 ≤ ti.size := Nat.le_of_ble_eq_true hsz1
              have hK : o + (len + 1) * ti.size ≤ y.N := by
                have : (len + 1) * ti.size ≤ c' * ti.size := Nat.mul_le_mul_right _ hcl
                rw [hys] at hco
                omega
              obtain ⟨K, hKe⟩ : ∃ K, o + (len + 1) * ti.size = K := ⟨_, rfl⟩
              rw [hKe] at hK
              obtain ⟨m2, hm2⟩ : ∃ m2 : Mem, (⟨m.n, m.t.set i (.row (T.ofList (List.replicate K bad)) K e)⟩ : Mem) = m2 := ⟨_, rfl⟩
              have g1 : m2.t.get i = some (.row (T.ofList (List.replicate K bad)) K e) := by rw [← hm2]; exact T.get_set_same _ _ _
              have g2 : ∀ q, q ≠ i → m2.t.get q = m.t.get q := fun q hq => by rw [← hm2]; exact T.get_set_ne _ _ (Ne.symm hq)
              have gn : m2.n = m.n := by rw [← hm2]
              have hlv : ∀ b, LiveB σ m2 b → LiveB σ m b := by
                rintro b ⟨q, ob, z, hq, hl, hz, hb⟩
                by_cases hqi : q = i
                · subst hqi; exact ⟨q, _, z, hrow, rfl, hz, hb⟩
                · exact ⟨q, ob, z, by rw [← g2 q hqi]; exact hq, hl, hz, hb⟩
              have hM2 : MR E w0 σ m2 w := by
                refine ⟨h.below, fun q ob hq hl => ?_, fun q j o1 o2 x1 x2 hq hl1 hj hl2 hx1 hx2 he => ?_, fun q hq => h.fresh q (by omega)⟩
                · by_cases hqi : q = i
                  · subst hqi
                    rw [g1] at hq
                    cases hq
                    refine ⟨y, _, hy, hB, hob, rfl, hf, hN, hK, ⟨ti, hti, hys⟩, fun j hj => ?_⟩
                    have hj2 : y.sh + j < C.size := by omega
                    exact ⟨bad, C[y.sh + j], by rw [T.get_ofList, List.getElem?_replicate, if_pos hj], Array.getElem?_eq_getElem hj2, .any _⟩
                  · exact h.obj q ob (by rw [← g2 q hqi]; exact hq) hl
                · have key : ∀ {q ob}, m2.t.get q = some ob → ob.live = true → ∃ ob', m.t.get q = some ob' ∧ ob'.live = true := fun {q ob} hq hl => by
                    by_cases hqi : q = i
                    · subst hqi; exact ⟨_, hrow, rfl⟩
                    · exact ⟨ob, by rw [← g2 q hqi]; exact hq, hl⟩
                  obtain ⟨p1, k1, k2⟩ := key hq hl1
                  obtain ⟨p2, k3, k4⟩ := key hj hl2
                  exact h.inj q j p1 p2 x1 x2 k1 k2 k3 k4 hx1 hx2 he
              have hnew2 : firstCells ti.size (k + 1) x m2 = some new := by
                rw [← hnew]
                unfold firstCells
                split
                · rename_i b c d
                  by_cases hbi : b.block = i
                  · exfalso
                    unfold firstCells at hnew
                    simp only [hbi, hrow] at hnew
                    split at hnew
                    · rename_i hle
                      have hle := Nat.le_of_ble_eq_true hle
                      have : 1 ≤ (k + 1) * ti.size := Nat.le_trans hsize (Nat.le_mul_of_pos_left _ (by omega))
                      exact absurd (Nat.le_trans this (Nat.le_trans (Nat.le_add_left _ _) hle)) (by omega)
                    · cases hnew
                  · rw [g2 _ hbi]
                · rfl
                · rfl
                · rfl
              have hold2 : firstCells ti.size (len + 1) (.slice (some ⟨i, o, none⟩) (len + 1) cap) m2 = some (List.replicate ((len + 1) * ti.size) bad) := by
                unfold firstCells
                simp only [g1, hKe, Nat.ble_eq_true_of_le (Nat.le_refl K)]
                exact getL_bads K _ _ (by omega)
              have hlen3 : Nat.beq (List.replicate ((len + 1) * ti.size) bad ++ new).length ((len + 1 + (k + 1)) * ti.size) = true := by
                have := Nat.eq_of_beq_eq_true hlen2
                rw [List.length_append, List.length_replicate, this, ← Nat.add_mul]
                exact Nat.beq_refl _
              have hnn : ∃ u l, new = u :: l := by
                have := Nat.eq_of_beq_eq_true hlen2
                have h2 : 1 ≤ (k + 1) * ti.size := Nat.le_trans hsize (Nat.le_mul_of_pos_left _ (by omega))
                cases new with
                | nil => simp at this; omega
                | cons u l => exact ⟨u, l, rfl⟩
              have ha2 : append E t (.slice (some ⟨i, o, none⟩) (len + 1) cap) x m2 = some (.eff (.slice (some ⟨m.n, 0, none⟩) (len + 1 + (k + 1)) OPEN) ⟨m.n + 1, (m2.t.set i .dead).set m.n (newRow e (List.replicate ((len + 1) * ti.size) bad ++ new))⟩) := by
                obtain ⟨u, l, rfl⟩ := hnn
                unfold append
                simp only [hel, hlen, hnew2, hold2, hk1, hk2, hlen3, hcap, g1, Nat.beq_refl, hone, gn]
              obtain ⟨nx, v', w', σ', q1, q2, q3, hm', hf'⟩ := append_sound (P := P) (ty := ty) hE hM2 ha2 hs0 hx
              have hres : ∀ q ob, ((m.t.set i .dead).set m.n (AObj.row .nil 0 e)).get q = some ob → ob.live = true → ∃ ob', ((m2.t.set i .dead).set m.n (newRow e (List.replicate ((len + 1) * ti.size) bad ++ new))).get q = some ob' ∧ ob'.live = true ∧ ∀ (τ : Sg) (z : Inf) (wo : Obj), OR E τ z ob' wo → OR E τ z ob wo := by
                intro q ob hq hl
                by_cases hqn : m.n = q
                · subst hqn
                  rw [T.get_set_same] at hq
                  cases hq
                  refine ⟨_, T.get_set_same _ _ _, rfl, fun τ z wo hor => ?_⟩
                  unfold newRow at hor
                  cases wo with
                  | cells C e2 fz2 =>
                    obtain ⟨a1, a2, a3, a4, a5, _⟩ := hor
                    exact ⟨a1, a2, a3, Nat.zero_le _, a5, fun j hj => absurd hj (Nat.not_lt_zero _)⟩
                  | _ => exact hor.elim
                · rw [T.get_set_ne _ _ hqn] at hq ⊢
                  by_cases hqi : i = q
                  · subst hqi
                    rw [T.get_set_same] at hq
                    cases hq
                    cases hl
                  · rw [T.get_set_ne _ _ hqi] at hq ⊢
                    exact ⟨ob, by rw [g2 q (Ne.symm hqi)]; exact hq, hl, fun _ _ _ h => h⟩
              refine ⟨nx, v', w', σ', q1, q2, q3, ⟨hm'.below, fun q ob hq hl => ?_, fun q j o1 o2 x1 x2 hq hl1 hj hl2 hx1 hx2 he => ?_, fun q hq => hm'.fresh q hq⟩,
                ⟨hf'.ext, hf'.size, fun b hb hl => hf'.frame b hb (fun h2 => hl (hlv b h2)), fun b hb => ?_, by have := hf'.n; rw [gn] at this; exact this, fun q hq => hf'.old q (by rw [gn]; exact hq)⟩⟩
              · obtain ⟨ob', k1, k2, k3⟩ := hres q ob hq hl
                obtain ⟨z, wo, z1, z2, z3, z4⟩ := hm'.obj q ob' k1 k2
                exact ⟨z, wo, z1, z2, z3, k3 σ' z wo z4⟩
              · obtain ⟨p1, k1, k2, _⟩ := hres q o1 hq hl1
                obtain ⟨p2, k3, k4, _⟩ := hres j o2 hj hl2
                exact hm'.inj q j p1 p2 x1 x2 k1 k2 k3 k4 hx1 hx2 he
              · obtain ⟨q, ob, z, hq, hl, hz, hb⟩ := hb
                obtain ⟨p1, k1, k2, _⟩ := hres q ob hq hl
                exact (hf'.grow b ⟨q, p1, z, k1, k2, hz, hb⟩).imp (hlv b) id
          · cases ha
        · cases ha
      · cases ha
    · exact append_sound (ty := ty) hE h ha hs hx
  · exact append_sound (ty := ty) hE h ha hs hx
end Go.AE

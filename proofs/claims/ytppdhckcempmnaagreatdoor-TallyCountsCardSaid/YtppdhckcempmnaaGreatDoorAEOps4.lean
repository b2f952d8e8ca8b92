/- Operations: slices, structs, fields, indexes, conversions. -/
import Derived.Test.YtppdhckcempmnaaGreatDoorAEOps3
namespace Go.AE
open Go.RowKit
variable {E : Env} {P : Program} {w0 : World} {σ : Sg} {m : Mem} {w : World}
theorem copy_sound (hE : EOK E P) (h : MR E w0 σ m w) {t u ty : TypeId} {d s d' s' : Value} {out : Out} (ha : copyS E t d s m = some out) (hd : VR σ d d') (hs : VR σ s s') :
    OutOK E P w0 σ m w (do pure (.value (← Builtin.copy_ #[t, u] ty #[d', s']))) out := by
  unfold copyS at ha
  split at ha
  · rename_i e te n base dl dc hel hlen
    obtain ⟨ht, hte⟩ := elemSize_spec hE hel
    obtain ⟨_, i, z, hi, hsz, _⟩ := hE.types e te hte
    split at ha
    · rename_i l hl
      obtain ⟨l', hr, hv⟩ := firstCells_sound (P := P) h hl hs (fun a k c he => by subst he; simp [lenOf] at hlen; subst hlen; exact Nat.min_le_left _ _)
      have hln := lenOf_sound (P := P) hlen hs w
      have hr' := hr w rfl
      rw [← hsz] at hr'
      have hr'' : (Builtin.firstCells i.size (Nat.min n dl) s').run P w = .ok l'.toArray w := hr'
      split at ha
      · rename_i a
        split at ha
        · rename_i m' hst
          cases ha
          rcases hd.slice_inv with ⟨h1, _⟩ | ⟨j, o, y, c', h1, rfl, hy, _, _⟩
          · cases h1
          · cases h1
            obtain ⟨a', w', ha', _, hrun, hm', hf'⟩ := storeL_sound (P := P) h hst (.ptr hy) hv
            cases ha'
            refine out_eff rfl (v' := goInt ((min n dl : Nat) : Int)) ?_ (.refl rfl) hm' hf'
            simp [Builtin.copy_, run_underlying ht, sizeOf, typeInfo, hi, hln, hr'', hrun]
        · cases ha
      · cases ha
        rcases hd.slice_inv with ⟨_, rfl⟩ | ⟨j, o, y, c', h1, _⟩
        · refine out_val rfl (v' := goInt ((min n dl : Nat) : Int)) ?_ (.refl rfl)
          simp [Builtin.copy_, run_underlying ht, sizeOf, typeInfo, hi, hln, hr'']
        · cases h1
    · cases ha
  · cases ha
/-! ### slices -/
def VRO (σ : Sg) (v v' : Option Value) : Prop := (v = none ∧ v' = none) ∨ ∃ x x', v = some x ∧ v' = some x' ∧ VR σ x x'
theorem bound_sound {v v' : Option Value} {d hi r : Nat} (h : bound v d hi = some r) (hv : VRO σ v v') : (v = none ∧ v' = none ∧ r = d) ∨ ∃ k, v' = some (.int k r) ∧ r ≤ hi := by
  unfold bound at h
  split at h
  · cases h
    rcases hv with ⟨_, h2⟩ | ⟨x, x', h1, _⟩
    · exact .inl ⟨rfl, h2, rfl⟩
    · cases h1
  · rename_i k i
    rcases hv with ⟨h1, _⟩ | ⟨x, x', h1, h2, hr⟩
    · cases h1
    · cases h1
      obtain rfl := hr.simple_inv rfl
      cases hb : Nat.ble i hi with
      | false => rw [hb] at h; cases h
      | true =>
        rw [hb] at h
        have h3 : some i = some r := h
        cases h3
        exact .inr ⟨k, h2, Nat.le_of_ble_eq_true hb⟩
  · cases h
/-- the three bounds, run -/
theorem run_bounds {isS : Bool} {len cap : Nat} {lo hi mx : Option Value} {l h m : Nat} (hm : (mx = none ∧ m = cap) ∨ ∃ k, mx = some (.int k m) ∧ m ≤ cap) (hh : (hi = none ∧ h = len) ∨ ∃ k, hi = some (.int k h) ∧ h ≤ m) (hhm : hi = none → mx = none)
    (hl : (lo = none ∧ l = 0) ∨ ∃ k, lo = some (.int k l) ∧ l ≤ h) (w : World) : (Instr.sliceBounds isS len cap lo hi mx).run P w = .ok (l, h, m) w := by
  have sb : ∀ (k : IntKind) (a b : Nat) (code : BoundsCode), a ≤ b → (Instr.sliceBound (.int k a) b code).run P w = .ok a w := by
    intro k a b code hab
    simp only [Instr.sliceBound, asIntOf, Sem.run_bind, Sem.run_pure, Result.andThen_ok]
    rw [if_pos ⟨by omega, by omega⟩]; rfl
  unfold Instr.sliceBounds
  rcases hm with ⟨rfl, rfl⟩ | ⟨k1, rfl, h1⟩ <;> rcases hh with ⟨rfl, rfl⟩ | ⟨k2, rfl, h2⟩ <;> rcases hl with ⟨rfl, rfl⟩ | ⟨k3, rfl, h3⟩ <;>
    first | (cases hhm rfl; done) | simp [*]
theorem run_sliceAt {t e : TypeId} {i : TypeInfo} (ht : P.underlying t = some (.slice e)) (hi : P.info? e = some i) {a : Option Addr} {len cap l h mm : Nat} {lo hi' mx : Option Value} {w : World}
    (hb : (Instr.sliceBounds true len cap lo hi' mx).run P w = .ok (l, h, mm) w) : (Instr.sliceAt t (.slice a len cap) lo hi' mx).run P w = .ok (.slice (if mm = l then a else a.map (·.add (l * i.size))) (h - l) (mm - l)) w := by
  simp [Instr.sliceAt, Instr.slice, run_underlying ht, hb, sizeOf, typeInfo, hi]
theorem sliceS_sound (hE : EOK E P) (hM : MR E w0 σ m w) {t e : TypeId} {te : TI} (ht : P.underlying t = some (.slice e)) (hte : E.types.get e = some te) {x x' : Value} {lo hi mx lo' hi' mx' : Option Value} (hne : sliceS e te.size x lo hi mx m ≠ []) (hx : VR σ x x')
    (hlo : VRO σ lo lo') (hhi : VRO σ hi hi') (hmx : VRO σ mx mx') (hmh : (hi.isNone && mx.isSome) = false) :
    ∃ out ∈ sliceS e te.size x lo hi mx m, OutOK E P w0 σ m w (do pure (.value (← Instr.sliceAt t x' lo' hi' mx'))) out := by
  obtain ⟨_, i, z, hi0, hsz, _⟩ := hE.types e te hte
  have hmh' : hi' = none → mx' = none := by
    intro he
    rcases hhi with ⟨h1, _⟩ | ⟨_, _, _, h2, _⟩
    · rcases hmx with ⟨_, h3⟩ | ⟨_, _, h3, _⟩
      · exact h3
      · subst h1 h3; cases hmh
    · rw [he] at h2; cases h2
  -- a slice whose bounds are known
  have fin : ∀ {j o len cap c' : Nat} {y : Inf} {l h mm : Nat}, x' = .slice (some ⟨y.b, y.sh + o, none⟩) len c' → σ j = some y → ((mx' = none ∧ mm = c') ∨ ∃ k, mx' = some (.int k mm) ∧ mm ≤ c') → ((hi' = none ∧ h = len) ∨ ∃ k, hi' = some (.int k h) ∧ h ≤ mm) → ((lo' = none ∧ l = 0) ∨ ∃ k, lo' = some (.int k l) ∧ l ≤ h) →
      mm < OPEN → OutOK E P w0 σ m w (do pure (.value (← Instr.sliceAt t x' lo' hi' mx'))) (.val (.slice (some (cond (Nat.beq mm l) ⟨j, o, none⟩ ⟨j, o + l * te.size, none⟩)) (h - l) (mm - l))) := by
    intro j o len cap c' y l h mm hx' hy h1 h2 h3 hlt
    subst hx'
    have hb := run_bounds (P := P) (isS := true) (len := len) (cap := c') h1 h2 hmh' h3 w
    refine out_val rfl (run_sliceAt ht hi0 hb) ?_
    by_cases e1 : mm = l
    · subst e1
      simp only [if_true, Nat.beq_refl, cond]
      exact .slice hy (fun _ => rfl) (fun ho => by omega)
    · have : Nat.beq mm l = false := by
        cases hb2 : Nat.beq mm l with
        | false => rfl
        | true => exact absurd (Nat.eq_of_beq_eq_true hb2) e1
      simp only [e1, if_false, this, cond, Option.map_some, addr_add, hsz, Nat.add_assoc]
      exact .slice hy (fun _ => rfl) (fun ho => by omega)
  generalize hL : sliceS e te.size x lo hi mx m = L at hne ⊢
  unfold sliceS at hL
  split at hL
  · rename_i a len cap
    rcases hx.slice_inv with ⟨h1, _⟩ | ⟨j, o, y, c', h1, hx', hy, hc1, hc2⟩
    · cases h1
    cases h1
    split at hL
    · rename_i mv hop
      have hcap : OPEN ≤ cap := Nat.le_of_ble_eq_true hop
      obtain ⟨hc3, hc4⟩ := hc2 hcap
      split at hL
      · rename_i mm hbm hl9
        have hl9 := Nat.le_of_ble_eq_true hl9
        split at hL
        · rename_i h hbh
          split at hL
          · rename_i l hbl
            subst hL; refine ⟨_, List.mem_singleton.2 rfl, ?_⟩
            have h1 := bound_sound hbm hmx
            have h2 := bound_sound hbh hhi
            have h3 := bound_sound hbl hlo
            have hmm : mm ≤ len := by
              rcases h1 with ⟨h, _⟩ | ⟨k, _, h⟩
              · cases h
              · exact h
            refine fin (cap := cap) hx' hy ?_ (h2.imp (fun ⟨_, a, b⟩ => ⟨a, b⟩) id) (h3.imp (fun ⟨_, a, b⟩ => ⟨a, b⟩) id) (by unfold OPEN; omega)
            rcases h1 with ⟨h, _⟩ | ⟨k, h5, h6⟩
            · cases h
            · exact .inr ⟨k, h5, by omega⟩
          · exact absurd hL.symm hne
        · exact absurd hL.symm hne
      · exact absurd hL.symm hne
    · rename_i hop
      have hcap : OPEN ≤ cap := Nat.le_of_ble_eq_true hop
      obtain ⟨hc3, hc4⟩ := hc2 hcap
      split at hL
      · rename_i cells k e' hrow
        split at hL
        · rename_i h hee hbh
          obtain rfl := Nat.eq_of_beq_eq_true hee
          obtain ⟨C, fz, hB, hob, hf, hN, hn, ⟨ti', hti', hys⟩, hc⟩ := hM.row hrow hy
          obtain rfl : ti' = te := by rw [hte] at hti'; exact (Option.some.inj hti').symm
          have hmx' : mx' = none := by
            rcases hmx with ⟨_, h⟩ | ⟨_, _, h, _⟩
            · exact h
            · cases h
          have h2 := bound_sound hbh hhi
          have hhl : h ≤ len := by
            rcases h2 with ⟨_, _, h⟩ | ⟨_, _, h⟩
            · omega
            · exact h
          split at hL
          · rename_i l hbl
            have h3 := bound_sound hbl hlo
            have hlh : l ≤ h := by
              rcases h3 with ⟨_, _, h⟩ | ⟨_, _, h⟩
              · omega
              · exact h
            have hb := run_bounds (P := P) (isS := true) (len := len) (cap := c') (mx := mx') (hi := hi') (lo := lo') (m := c') (h := h) (l := l) (.inl ⟨hmx', rfl⟩) (h2.imp (fun ⟨_, a, b⟩ => ⟨a, b⟩) (fun ⟨k, a, b⟩ => ⟨k, a, by omega⟩)) hmh' (h3.imp (fun ⟨_, a, b⟩ => ⟨a, b⟩) id) w
            subst hx'
            have hrun := run_sliceAt (P := P) ht hi0 hb (a := some ⟨y.b, y.sh + o, none⟩)
            have room : l ≤ c' → o + l * ti'.size + (c' - l) * y.s ≤ y.N := by
              intro hl
              rw [hys, Nat.add_assoc, ← Nat.add_mul, show l + (c' - l) = c' from by omega, ← hys]
              exact hc4
            split at hL
            · rename_i hb1
              have hlt : l ≠ len := fun e => by rw [e, Nat.beq_refl] at hb1; cases hb1
              subst hL; refine ⟨_, List.mem_singleton.2 rfl, ?_⟩
              refine out_val rfl hrun ?_
              rw [if_neg (by omega)]
              simp only [Option.map_some, addr_add, hsz, Nat.add_assoc]
              exact .slice hy (fun hc => absurd hc (Nat.lt_irrefl _)) (fun _ => ⟨by omega, room (by omega)⟩)
            · rename_i hb1
              obtain rfl := Nat.eq_of_beq_eq_true hb1
              obtain rfl : h = l := by omega
              split at hL
              · subst hL; refine ⟨_, List.mem_singleton.2 rfl, ?_⟩
                refine out_val rfl hrun ?_
                have : (if c' = 0 then some (⟨y.b, y.sh + o, none⟩ : Addr) else Option.map (fun x : Addr => x.add (0 * i.size)) (some (⟨y.b, y.sh + o, none⟩ : Addr))) = some ⟨y.b, y.sh + o, none⟩ := by
                  split
                  · rfl
                  · simp [addr_add]
                rw [this]
                exact .slice hy hc1 (fun _ => ⟨by omega, by simpa using hc4⟩)
              · rename_i hl0
                subst hL; refine ⟨.val topE, by simp, ?_⟩
                refine out_val rfl hrun ?_
                rw [Nat.sub_self]
                exact .topE _ _
          · exact absurd hL.symm hne
        · exact absurd hL.symm hne
      · exact absurd hL.symm hne
    · rename_i hop
      have hcap : cap < OPEN := by
        rcases Nat.lt_or_ge cap OPEN with h1 | h1
        · exact h1
        · rw [Nat.ble_eq_true_of_le h1] at hop; cases hop
      obtain rfl := hc1 hcap
      split at hL
      · rename_i mm hbm
        split at hL
        · rename_i h hbh
          split at hL
          · rename_i l hbl
            subst hL; refine ⟨_, List.mem_singleton.2 rfl, ?_⟩
            have h1 := bound_sound hbm hmx
            have h2 := bound_sound hbh hhi
            have h3 := bound_sound hbl hlo
            refine fin (cap := c') hx' hy (h1.imp (fun ⟨_, a, b⟩ => ⟨a, b⟩) id) (h2.imp (fun ⟨_, a, b⟩ => ⟨a, b⟩) id) (h3.imp (fun ⟨_, a, b⟩ => ⟨a, b⟩) id) ?_
            rcases h1 with ⟨_, _, h⟩ | ⟨_, _, h⟩ <;> omega
          · exact absurd hL.symm hne
        · exact absurd hL.symm hne
      · exact absurd hL.symm hne
  · split at hL
    · rename_i r1 hbm
      split at hL
      · rename_i r2 hbh
        split at hL
        · rename_i r3 hbl
          subst hL; refine ⟨_, List.mem_singleton.2 rfl, ?_⟩
          obtain rfl := hx.simple_inv rfl
          have z1 : r1 = 0 := by rcases bound_sound hbm hmx with ⟨_, _, h⟩ | ⟨_, _, h⟩ <;> omega
          have z2 : r2 = 0 := by rcases bound_sound hbh hhi with ⟨_, _, h⟩ | ⟨_, _, h⟩ <;> omega
          have z3 : r3 = 0 := by rcases bound_sound hbl hlo with ⟨_, _, h⟩ | ⟨_, _, h⟩ <;> omega
          subst z1 z2 z3
          have hb := run_bounds (P := P) (isS := true) (len := 0) (cap := 0) ((bound_sound hbm hmx).imp (fun ⟨_, a, b⟩ => ⟨a, b⟩) id) ((bound_sound hbh hhi).imp (fun ⟨_, a, b⟩ => ⟨a, b⟩) id) hmh' ((bound_sound hbl hlo).imp (fun ⟨_, a, b⟩ => ⟨a, b⟩) id) w
          exact out_val rfl (run_sliceAt ht hi0 hb) (by simpa using VR.refl rfl)
        · exact absurd hL.symm hne
      · exact absurd hL.symm hne
    · exact absurd hL.symm hne
  · exact absurd hL.symm hne
end Go.AE

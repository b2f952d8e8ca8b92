/- AEOps4, AEOps5: in one text. -/
import Derived.Test.YtpbhfckefmboaaaGreatDoorGp31
import Derived.Great.BuildSlice
set_option linter.unusedVariables false
set_option linter.unusedSimpArgs false
set_option linter.unusedSectionVars false
namespace Go.AE
open Go.RowKit
variable {E : Env} {P : Program} {w0 : World} {σ : Sg} {m : Mem} {w : World}
theorem copy_sound (hE : EOK E P) (h : MR E w0 σ m w) {t u ty : TypeId} {d s d' s' : Value} {out : Out} (ha : copyS E t d s m = some out) (hd : VR σ d d') (hs : VR σ s s') :
    OutOK E P w0 σ m w (do pure (.value (← Builtin.copy_ #[t, u] ty #[d', s']))) out := by
  unfold copyS at ha
  split at ha
  · rename_i e te n base dl dc hel hlen
    obtain ⟨ht, hte⟩ := elemSize_spec hE hel
    obtain ⟨_, i, z, hi, hsz, _⟩ := hE.types e te hte
    split at ha
    · rename_i l hl
      obtain ⟨l', hr, hv⟩ := firstCells_sound (P := P) h hl hs (fun a k c he => by subst he; simp [lenOf] at hlen; subst hlen; exact Nat.min_le_left _ _)
      have hln := lenOf_sound (P := P) hlen hs w
      have hr' := hr w rfl
      rw [← hsz] at hr'
      have hr'' : (Builtin.firstCells i.size (Nat.min n dl) s').run P w = .ok l'.toArray w := hr'
      split at ha
      · rename_i a
        split at ha
        · rename_i m' hst
          cases ha
          rcases hd.slice_inv with ⟨h1, _⟩ | ⟨j, o, y, c', h1, rfl, hy, _, _⟩
          · cases h1
          · cases h1
            obtain ⟨a', w', ha', _, hrun, hm', hf'⟩ := storeL_sound (P := P) h hst (.ptr hy) hv
            cases ha'
            refine out_eff rfl (v' := goInt ((min n dl : Nat) : Int)) ?_ (.refl rfl) hm' hf'
            simp [Builtin.copy_, run_underlying ht, sizeOf, typeInfo, hi, hln, hr'', hrun]
        · cases ha
      · cases ha
        rcases hd.slice_inv with ⟨_, rfl⟩ | ⟨j, o, y, c', h1, _⟩
        · refine out_val rfl (v' := goInt ((min n dl : Nat) : Int)) ?_ (.refl rfl)
          simp [Builtin.copy_, run_underlying ht, sizeOf, typeInfo, hi, hln, hr'']
        · cases h1
    · cases ha
  · cases ha
/-! ### slices -/
def VRO (σ : Sg) (v v' : Option Value) : Prop := (v = none ∧ v' = none) ∨ ∃ x x', v = some x ∧ v' = some x' ∧ VR σ x x'
theorem bound_sound {v v' : Option Value} {d hi r : Nat} (h : bound v d hi = some r) (hv : VRO σ v v') : (v = none ∧ v' = none ∧ r = d) ∨ ∃ k, v' = some (.int k r) ∧ r ≤ hi := by
  unfold bound at h
  split at h
  · cases h
    rcases hv with ⟨_, h2⟩ | ⟨x, x', h1, _⟩
    · exact .inl ⟨rfl, h2, rfl⟩
    · cases h1
  · rename_i k i
    rcases hv with ⟨h1, _⟩ | ⟨x, x', h1, h2, hr⟩
    · cases h1
    · cases h1
      obtain rfl := hr.simple_inv rfl
      cases hb : Nat.ble i hi with
      | false => rw [hb] at h; cases h
      | true =>
        rw [hb] at h
        have h3 : some i = some r := h
        cases h3
        exact .inr ⟨k, h2, Nat.le_of_ble_eq_true hb⟩
  · cases h
/-- the three bounds, run -/
theorem run_bounds {isS : Bool} {len cap : Nat} {lo hi mx : Option Value} {l h m : Nat} (hm : (mx = none ∧ m = cap) ∨ ∃ k, mx = some (.int k m) ∧ m ≤ cap) (hh : (hi = none ∧ h = len) ∨ ∃ k, hi = some (.int k h) ∧ h ≤ m) (hhm : hi = none → mx = none)
    (hl : (lo = none ∧ l = 0) ∨ ∃ k, lo = some (.int k l) ∧ l ≤ h) (w : World) : (Instr.sliceBounds isS len cap lo hi mx).run P w = .ok (l, h, m) w := by
  have sb : ∀ (k : IntKind) (a b : Nat) (code : BoundsCode), a ≤ b → (Instr.sliceBound (.int k a) b code).run P w = .ok a w := by
    intro k a b code hab
    simp only [Instr.sliceBound, asIntOf, Sem.run_bind, Sem.run_pure, Result.andThen_ok]
    rw [if_pos ⟨by omega, by omega⟩]; rfl
  unfold Instr.sliceBounds
  rcases hm with ⟨rfl, rfl⟩ | ⟨k1, rfl, h1⟩ <;> rcases hh with ⟨rfl, rfl⟩ | ⟨k2, rfl, h2⟩ <;> rcases hl with ⟨rfl, rfl⟩ | ⟨k3, rfl, h3⟩ <;>
    first | (cases hhm rfl; done) | simp [*]
theorem run_sliceAt {t e : TypeId} {i : TypeInfo} (ht : P.underlying t = some (.slice e)) (hi : P.info? e = some i) {a : Option Addr} {len cap l h mm : Nat} {lo hi' mx : Option Value} {w : World}
    (hb : (Instr.sliceBounds true len cap lo hi' mx).run P w = .ok (l, h, mm) w) : (Instr.sliceAt t (.slice a len cap) lo hi' mx).run P w = .ok (.slice (if mm = l then a else a.map (·.add (l * i.size))) (h - l) (mm - l)) w := by
  simp [Instr.sliceAt, Instr.slice, run_underlying ht, hb, sizeOf, typeInfo, hi]
theorem sliceS_sound (hE : EOK E P) (hM : MR E w0 σ m w) {t e : TypeId} {te : TI} (ht : P.underlying t = some (.slice e)) (hte : E.types.get e = some te) {x x' : Value} {lo hi mx lo' hi' mx' : Option Value} (hne : sliceS e te.size x lo hi mx m ≠ []) (hx : VR σ x x')
    (hlo : VRO σ lo lo') (hhi : VRO σ hi hi') (hmx : VRO σ mx mx') (hmh : (hi.isNone && mx.isSome) = false) :
    ∃ out ∈ sliceS e te.size x lo hi mx m, OutOK E P w0 σ m w (do pure (.value (← Instr.sliceAt t x' lo' hi' mx'))) out := by
  obtain ⟨_, i, z, hi0, hsz, _⟩ := hE.types e te hte
  have hmh' : hi' = none → mx' = none := by
    intro he
    rcases hhi with ⟨h1, _⟩ | ⟨_, _, _, h2, _⟩
    · rcases hmx with ⟨_, h3⟩ | ⟨_, _, h3, _⟩
      · exact h3
      · subst h1 h3; cases hmh
    · rw [he] at h2; cases h2
  -- a slice whose bounds are known
  have fin : ∀ {j o len cap c' : Nat} {y : Inf} {l h mm : Nat}, x' = .slice (some ⟨y.b, y.sh + o, none⟩) len c' → σ j = some y → ((mx' = none ∧ mm = c') ∨ ∃ k, mx' = some (.int k mm) ∧ mm ≤ c') → ((hi' = none ∧ h = len) ∨ ∃ k, hi' = some (.int k h) ∧ h ≤ mm) → ((lo' = none ∧ l = 0) ∨ ∃ k, lo' = some (.int k l) ∧ l ≤ h) →
      mm < OPEN → OutOK E P w0 σ m w (do pure (.value (← Instr.sliceAt t x' lo' hi' mx'))) (.val (.slice (some (cond (Nat.beq mm l) ⟨j, o, none⟩ ⟨j, o + l * te.size, none⟩)) (h - l) (mm - l))) := by
    intro j o len cap c' y l h mm hx' hy h1 h2 h3 hlt
    subst hx'
    have hb := run_bounds (P := P) (isS := true) (len := len) (cap := c') h1 h2 hmh' h3 w
    refine out_val rfl (run_sliceAt ht hi0 hb) ?_
    by_cases e1 : mm = l
    · subst e1
      simp only [if_true, Nat.beq_refl, cond]
      exact .slice hy (fun _ => rfl) (fun ho => by omega)
    · have : Nat.beq mm l = false := by
        cases hb2 : Nat.beq mm l with
        | false => rfl
        | true => exact absurd (Nat.eq_of_beq_eq_true hb2) e1
      simp only [e1, if_false, this, cond, Option.map_some, addr_add, hsz, Nat.add_assoc]
      exact .slice hy (fun _ => rfl) (fun ho => by omega)
  generalize hL : sliceS e te.size x lo hi mx m = L at hne ⊢
  unfold sliceS at hL
  split at hL
  · rename_i a len cap
    rcases hx.slice_inv with ⟨h1, _⟩ | ⟨j, o, y, c', h1, hx', hy, hc1, hc2⟩
    · cases h1
    cases h1
    split at hL
    · rename_i mv hop
      have hcap : OPEN ≤ cap := Nat.le_of_ble_eq_true hop
      obtain ⟨hc3, hc4⟩ := hc2 hcap
      split at hL
      · rename_i mm hbm hl9
        have hl9 := Nat.le_of_ble_eq_true hl9
        split at hL
        · rename_i h hbh
          split at hL
          · rename_i l hbl
            subst hL; refine ⟨_, List.mem_singleton.2 rfl, ?_⟩
            have h1 := bound_sound hbm hmx
            have h2 := bound_sound hbh hhi
            have h3 := bound_sound hbl hlo
            have hmm : mm ≤ len := by
              rcases h1 with ⟨h, _⟩ | ⟨k, _, h⟩
              · cases h
              · exact h
            refine fin (cap := cap) hx' hy ?_ (h2.imp (fun ⟨_, a, b⟩ => ⟨a, b⟩) id) (h3.imp (fun ⟨_, a, b⟩ => ⟨a, b⟩) id) (by unfold OPEN; omega)
            rcases h1 with ⟨h, _⟩ | ⟨k, h5, h6⟩
            · cases h
            · exact .inr ⟨k, h5, by omega⟩
          · exact absurd hL.symm hne
        · exact absurd hL.symm hne
      · exact absurd hL.symm hne
    · rename_i hop
      have hcap : OPEN ≤ cap := Nat.le_of_ble_eq_true hop
      obtain ⟨hc3, hc4⟩ := hc2 hcap
      split at hL
      · rename_i cells k e' hrow
        split at hL
        · rename_i h hee hbh
          obtain rfl := Nat.eq_of_beq_eq_true hee
          obtain ⟨C, fz, hB, hob, hf, hN, hn, ⟨ti', hti', hys⟩, hc⟩ := hM.row hrow hy
          obtain rfl : ti' = te := by rw [hte] at hti'; exact (Option.some.inj hti').symm
          have hmx' : mx' = none := by
            rcases hmx with ⟨_, h⟩ | ⟨_, _, h, _⟩
            · exact h
            · cases h
          have h2 := bound_sound hbh hhi
          have hhl : h ≤ len := by
            rcases h2 with ⟨_, _, h⟩ | ⟨_, _, h⟩
            · omega
            · exact h
          split at hL
          · rename_i l hbl
            have h3 := bound_sound hbl hlo
            have hlh : l ≤ h := by
              rcases h3 with ⟨_, _, h⟩ | ⟨_, _, h⟩
              · omega
              · exact h
            have hb := run_bounds (P := P) (isS := true) (len := len) (cap := c') (mx := mx') (hi := hi') (lo := lo') (m := c') (h := h) (l := l) (.inl ⟨hmx', rfl⟩) (h2.imp (fun ⟨_, a, b⟩ => ⟨a, b⟩) (fun ⟨k, a, b⟩ => ⟨k, a, by omega⟩)) hmh' (h3.imp (fun ⟨_, a, b⟩ => ⟨a, b⟩) id) w
            subst hx'
            have hrun := run_sliceAt (P := P) ht hi0 hb (a := some ⟨y.b, y.sh + o, none⟩)
            have room : l ≤ c' → o + l * ti'.size + (c' - l) * y.s ≤ y.N := by
              intro hl
              rw [hys, Nat.add_assoc, ← Nat.add_mul, show l + (c' - l) = c' from by omega, ← hys]
              exact hc4
            split at hL
            · rename_i hb1
              have hlt : l ≠ len := fun e => by rw [e, Nat.beq_refl] at hb1; cases hb1
              subst hL; refine ⟨_, List.mem_singleton.2 rfl, ?_⟩
              refine out_val rfl hrun ?_
              rw [if_neg (by omega)]
              simp only [Option.map_some, addr_add, hsz, Nat.add_assoc]
              exact .slice hy (fun hc => absurd hc (Nat.lt_irrefl _)) (fun _ => ⟨by omega, room (by omega)⟩)
            · rename_i hb1
              obtain rfl := Nat.eq_of_beq_eq_true hb1
              obtain rfl : h = l := by omega
              split at hL
              · subst hL; refine ⟨_, List.mem_singleton.2 rfl, ?_⟩
                refine out_val rfl hrun ?_
                have : (if c' = 0 then some (⟨y.b, y.sh + o, none⟩ : Addr) else Option.map (fun x : Addr => x.add (0 * i.size)) (some (⟨y.b, y.sh + o, none⟩ : Addr))) = some ⟨y.b, y.sh + o, none⟩ := by
                  split
                  · rfl
                  · simp [addr_add]
                rw [this]
                exact .slice hy hc1 (fun _ => ⟨by omega, by simpa using hc4⟩)
              · rename_i hl0
                subst hL; refine ⟨.val topE, by simp, ?_⟩
                refine out_val rfl hrun ?_
                rw [Nat.sub_self]
                exact .topE _ _
          · exact absurd hL.symm hne
        · exact absurd hL.symm hne
      · exact absurd hL.symm hne
    · rename_i hop
      have hcap : cap < OPEN := by
        rcases Nat.lt_or_ge cap OPEN with h1 | h1
        · exact h1
        · rw [Nat.ble_eq_true_of_le h1] at hop; cases hop
      obtain rfl := hc1 hcap
      split at hL
      · rename_i mm hbm
        split at hL
        · rename_i h hbh
          split at hL
          · rename_i l hbl
            subst hL; refine ⟨_, List.mem_singleton.2 rfl, ?_⟩
            have h1 := bound_sound hbm hmx
            have h2 := bound_sound hbh hhi
            have h3 := bound_sound hbl hlo
            refine fin (cap := c') hx' hy (h1.imp (fun ⟨_, a, b⟩ => ⟨a, b⟩) id) (h2.imp (fun ⟨_, a, b⟩ => ⟨a, b⟩) id) (h3.imp (fun ⟨_, a, b⟩ => ⟨a, b⟩) id) ?_
            rcases h1 with ⟨_, _, h⟩ | ⟨_, _, h⟩ <;> omega
          · exact absurd hL.symm hne
        · exact absurd hL.symm hne
      · exact absurd hL.symm hne
  · split at hL
    · rename_i r1 hbm
      split at hL
      · rename_i r2 hbh
        split at hL
        · rename_i r3 hbl
          subst hL; refine ⟨_, List.mem_singleton.2 rfl, ?_⟩
          obtain rfl := hx.simple_inv rfl
          have z1 : r1 = 0 := by rcases bound_sound hbm hmx with ⟨_, _, h⟩ | ⟨_, _, h⟩ <;> omega
          have z2 : r2 = 0 := by rcases bound_sound hbh hhi with ⟨_, _, h⟩ | ⟨_, _, h⟩ <;> omega
          have z3 : r3 = 0 := by rcases bound_sound hbl hlo with ⟨_, _, h⟩ | ⟨_, _, h⟩ <;> omega
          subst z1 z2 z3
          have hb := run_bounds (P := P) (isS := true) (len := 0) (cap := 0) ((bound_sound hbm hmx).imp (fun ⟨_, a, b⟩ => ⟨a, b⟩) id) ((bound_sound hbh hhi).imp (fun ⟨_, a, b⟩ => ⟨a, b⟩) id) hmh' ((bound_sound hbl hlo).imp (fun ⟨_, a, b⟩ => ⟨a, b⟩) id) w
          exact out_val rfl (run_sliceAt ht hi0 hb) (by simpa using VR.refl rfl)
        · exact absurd hL.symm hne
      · exact absurd hL.symm hne
    · exact absurd hL.symm hne
  · exact absurd hL.symm hne
end Go.AE
namespace Go.AE
open Go.RowKit
variable {E : Env} {P : Program} {w0 : World} {σ : Sg} {m : Mem} {w : World}
theorem places_run {P : Program} (hE : EOK E P) : ∀ {fs : List Field} {l : List (Nat × Nat)}, places E fs = some l → fs.mapM (fun f => (P.info? f.type).map fun i => (f.offset, i.size)) = some l := by
  intro fs
  induction fs with
  | nil => intro l h; simp [places] at h; subst h; rfl
  | cons f fs ih =>
    intro l h
    simp only [places] at h
    split at h
    · rename_i ti l' hti hl
      cases h
      obtain ⟨_, i, z, hi, hsz, _⟩ := hE.types _ _ hti
      have := ih hl
      simp [List.mapM_cons, hi, hsz, this]
    · cases h
def VRP (σ : Sg) (l l' : List (Nat × Value)) : Prop := l.length = l'.length ∧ ∀ (i : Nat) a b, l[i]? = some a → l'[i]? = some b → a.1 = b.1 ∧ VR σ a.2 b.2
theorem VRP.tail {a b : Nat × Value} {l l' : List (Nat × Value)} (h : VRP σ (a :: l) (b :: l')) : VRP σ l l' := ⟨by simpa using h.1, fun i x y hx hy => h.2 (i + 1) x y (by simpa using hx) (by simpa using hy)⟩
theorem VRP.head {a b : Nat × Value} {l l' : List (Nat × Value)} (h : VRP σ (a :: l) (b :: l')) : a.1 = b.1 ∧ VR σ a.2 b.2 := h.2 0 a b rfl rfl
theorem VRP.cons_inv {a : Nat × Value} {l l' : List (Nat × Value)} (h : VRP σ (a :: l) l') : ∃ b r, l' = b :: r := by
  cases l' with
  | nil => exact absurd h.1 (by simp)
  | cons b r => exact ⟨b, r, rfl⟩
theorem foldl_set (l : List Value) : ∀ (off k : Nat) (c : Array Value), (((l.zipIdx k).foldl (fun cs x => cs.setIfInBounds (off + x.2) x.1) c).size = c.size) ∧
    ∀ j, ((l.zipIdx k).foldl (fun cs x => cs.setIfInBounds (off + x.2) x.1) c)[j]? = if off + k ≤ j ∧ j < off + k + l.length ∧ j < c.size then l[j - (off + k)]? else c[j]? := by
  induction l with
  | nil => intro off k c; exact ⟨rfl, fun j => by rw [if_neg (by simp; omega)]; rfl⟩
  | cons v l ih =>
    intro off k c
    simp only [List.zipIdx_cons, List.foldl_cons, List.length_cons]
    obtain ⟨h1, h2⟩ := ih off (k + 1) (c.setIfInBounds (off + k) v)
    refine ⟨by rw [h1]; simp, fun j => ?_⟩
    rw [h2 j]
    simp only [Array.size_setIfInBounds]
    by_cases h10 : off + (k + 1) ≤ j ∧ j < off + (k + 1) + l.length ∧ j < c.size
    · rw [if_pos h10, if_pos (by omega), show j - (off + k) = (j - (off + (k + 1))) + 1 from by omega, List.getElem?_cons_succ]
    · rw [if_neg h10, Array.getElem?_setIfInBounds]
      by_cases h11 : off + k = j
      · rw [if_pos h11]
        by_cases h12 : off + k < c.size
        · rw [if_pos h12, if_pos (by omega)]; simp [h11]
        · rw [if_neg h12, if_neg (by omega), Array.getElem?_eq_none (by omega)]
      · rw [if_neg h11, if_neg (by omega)]
theorem zipIdx_arr (c : Array Value) (cs : Array Value) (off : Nat) : c.zipIdx.foldl (fun cs (x : Value × Nat) => cs.setIfInBounds (off + x.2) x.1) cs = (c.toList.zipIdx 0).foldl (fun cs x => cs.setIfInBounds (off + x.2) x.1) cs := by
  rw [← Array.foldl_toList, Array.toList_zipIdx]
theorem fill_sound {pl : Nat → Option (Nat × Nat)} : ∀ {parts parts' : List (Nat × Value)} {c c' : Array Value} {r : Array Value}, Instr.fill pl c parts = some r → anyBad parts = false → VRP σ parts parts' → VRL σ c.toList c'.toList →
    ∃ r', Instr.fill pl c' parts' = some r' ∧ VRL σ r.toList r'.toList := by
  intro parts
  induction parts with
  | nil =>
    intro parts' c c' r h hb hp hc
    have : parts' = [] := List.eq_nil_of_length_eq_zero hp.1.symm
    subst this
    simp [Instr.fill] at h ⊢
    subst h; exact hc
  | cons a parts ih =>
    intro parts' c c' r h hb hp hc
    obtain ⟨b, rest, rfl⟩ := hp.cons_inv
    obtain ⟨i, v⟩ := a
    obtain ⟨i', v'⟩ := b
    obtain ⟨e1, hv⟩ := hp.head
    simp only at e1 hv
    subst e1
    simp only [anyBad] at hb
    have hnb : v ≠ bad := by
      rintro rfl
      simp [isBad, bad] at hb
    have hb' : anyBad parts = false := by
      cases h3 : isBad v with
      | true => rw [h3] at hb; cases hb
      | false => rw [h3] at hb; exact hb
    have hcs := hv.cells hnb
    have hsz : v.cells.size = v'.cells.size := by have := hcs.1; simpa [cellsOf] using this
    simp only [Instr.fill] at h ⊢
    split at h
    · cases h
    · rename_i off size hpl
      try rw [hpl]
      try simp only
      have hcsz : c.size = c'.size := by simpa using hc.1
      rw [← hsz, ← hcsz]
      split at h
      · cases h
      · rename_i hok
        rw [if_neg hok]
        refine ih h hb' hp.tail ?_
        have key : ∀ (cs : Array Value) (cells : Array Value), (cs.zipIdx.foldl (fun (cs : Array Value) (x : Value × Nat) => match x with | (c, j) => cs.setIfInBounds (off + j) c) cells) = (cs.toList.zipIdx 0).foldl (fun cs x => cs.setIfInBounds (off + x.2) x.1) cells := fun cs cells => zipIdx_arr cs cells off
        rw [key, key]
        obtain ⟨s1, g1⟩ := foldl_set v.cells.toList off 0 c
        obtain ⟨s2, g2⟩ := foldl_set v'.cells.toList off 0 c'
        refine VRL.of_getElem? (by simp only [Array.length_toList]; rw [s1, s2]; exact hcsz) (fun j x x' hx hx' => ?_)
        rw [Array.getElem?_toList, g1] at hx
        rw [Array.getElem?_toList, g2] at hx'
        have hl2 : v'.cells.toList.length = v.cells.toList.length := by simp [hsz]
        split at hx
        · rename_i hin
          rw [if_pos (by omega)] at hx'
          obtain ⟨y, hy1, hy2⟩ := hcs.getElem? hx
          rw [hx'] at hy1; cases hy1
          exact hy2
        · rename_i hin
          rw [if_neg (by omega)] at hx'
          obtain ⟨y, hy1, hy2⟩ := hc.getElem? (by rw [Array.getElem?_toList]; exact hx)
          rw [Array.getElem?_toList, hx'] at hy1; cases hy1
          exact hy2
theorem build_sound (hE : EOK E P) {t : TypeId} {parts : List (Nat × Value)} {parts' : Array (Nat × Value)} {v : Value} (h : buildA E t parts = some v) (hp : VRP σ parts parts'.toList) (w : World) : ∃ v', (Instr.build t parts').run P w = .ok v' w ∧ VR σ v v' := by
  unfold buildA at h
  split at h
  · rename_i ti hti hb
    obtain ⟨hu, i, z, hi, hsz, hby, hz, hzc, hzl, hzs, _⟩ := hE.types t ti hti
    have hzz : z.cells = ti.zero.toArray := by rw [← hzc]
    have hz0 : VRL σ ti.zero.toArray.toList z.cells.toList := by rw [hzc]; exact VRL.simple hzs
    split at h
    · rename_i fs hd
      split at h
      · rename_i pl hpl
        split at h
        · rename_i cells hf
          cases h
          obtain ⟨r', hr1, hr2⟩ := fill_sound hf hb hp hz0
          refine ⟨.agg r', run_build w t parts' r' ?_, .agg_of hr2⟩
          simp only [Program.built, hi, hu, hd, hz, places_run hE hpl]
          exact hr1
        · cases h
      · cases h
    · rename_i n e hd
      split at h
      · rename_i te hte
        obtain ⟨_, ie, ze, hie, hesz, _⟩ := hE.types e te hte
        split at h
        · rename_i cells hf
          cases h
          obtain ⟨r', hr1, hr2⟩ := fill_sound hf hb hp hz0
          refine ⟨.agg r', run_build w t parts' r' ?_, .agg_of hr2⟩
          simp only [Program.built, hi, hu, hd, hz, hie, hesz]
          exact hr1
        · cases h
      · cases h
    · cases h
  · cases h
theorem rep_len (z : List Value) : ∀ n, (rep n z).length = n * z.length := by
  intro n
  induction n with
  | zero => simp [rep]
  | succ n ih => simp [rep, ih, Nat.add_mul]; omega
theorem rep_get (z : List Value) (_hz : 0 < z.length) : ∀ (n j : Nat), j < n * z.length → (rep n z)[j]? = z[j % z.length]? := by
  intro n
  induction n with
  | zero => intro j hj; simp at hj
  | succ n ih =>
    intro j hj
    simp only [rep]
    by_cases h : j < z.length
    · rw [List.getElem?_append_left h, Nat.mod_eq_of_lt h]
    · rw [List.getElem?_append_right (by omega), ih _ (by rw [Nat.add_mul] at hj; omega)]
      congr 1
      exact (Nat.mod_eq_sub_mod (by omega)).symm
theorem rep_made (z : Array Value) (n : Nat) (hz : 0 < z.size) : (Array.range (n * z.size)).map (z[· % z.size]!) = (rep n z.toList).toArray := by
  apply Array.ext'
  apply List.ext_getElem?
  intro j
  by_cases hj : j < n * z.size
  · rw [List.toList_toArray, rep_get z.toList (by simpa using hz) n j (by simpa using hj)]
    have hm : j % z.size < z.size := Nat.mod_lt _ hz
    simp [hj, hm]
  · rw [List.getElem?_eq_none (by simp; omega), List.getElem?_eq_none (by simp [rep_len]; omega)]
theorem rep_simple {z : List Value} (hz : ∀ v ∈ z, simple v = true) : ∀ n, ∀ v ∈ rep n z, simple v = true := by
  intro n
  induction n with
  | zero => intro v hv; simp [rep] at hv
  | succ n ih =>
    intro v hv
    simp only [rep, List.mem_append] at hv
    rcases hv with h | h
    · exact hz v h
    · exact ih v h
theorem buildSlice_sound (hE : EOK E P) {t : TypeId} {len : Nat} {parts : List (Nat × Value)} {parts' : Array (Nat × Value)} {out : Out} (h : buildSliceA E t len parts = some out) (hp : VRP σ parts parts'.toList) :
    OutOK E P w0 σ m w (do pure (.value (← Instr.buildSlice t len parts'))) out := by
  unfold buildSliceA at h
  split at h
  · rename_i e te hel hb
    obtain ⟨ht, hte⟩ := elemSize_spec hE hel
    obtain ⟨_, i, z, hi, hsz, hby, hz, hzc, hzl, hzs, _⟩ := hE.types e te hte
    split at h
    · rename_i s hle hs1
      have hle' := Nat.le_of_ble_eq_true hle
      split at h
      · rename_i cells hf
        cases h
        have hs1 : te.size = s + 1 := hs1
        have hzsz : z.cells.size = s + 1 := by rw [← hs1, ← hzl, ← hzc]; simp
        have hzl' : z.cells.toList = te.zero := hzc
        obtain ⟨r', hr1, hr2⟩ := fill_sound (σ := σ) (c' := (rep len te.zero).toArray) hf hb hp (by simpa using VRL.simple (rep_simple hzs len))
        have hrun : (Instr.buildSlice t len parts').run P w = .ok (.slice (some ⟨w.heap.size, 0, none⟩) len len) (w.alloc (.cells r' e)) := by
          have hsm : ¬ len * i.size > 2 ^ 24 := by rw [hsz]; omega
          have hpl : (fun j => some (j * i.size, i.size)) = (fun j => some (j * (s + 1), s + 1)) := by rw [hsz, hs1]
          by_cases h0 : len * i.size = 0
          · have hl0 : len = 0 := by
              rw [hsz, hs1] at h0
              rcases Nat.mul_eq_zero.1 h0 with h | h
              · exact h
              · omega
            subst hl0
            have he : (rep 0 te.zero).toArray = #[] := rfl
            rw [he] at hr1
            have hc0 : ∀ z0 : Array Value, (Array.range (0 * i.size)).map (z0[· % z0.size]!) = #[] := fun z0 => by rw [Nat.zero_mul, Array.range_zero']; simp
            simp only [Instr.buildSlice, Sem.run_bind, run_underlying ht, Result.andThen_ok, sizeOf_run hi, Sem.run_ite, if_neg hsm, if_pos h0, Sem.run_pure, hc0, hpl, hr1]
            simp [Go.newRow]
          · refine run_buildSlice w t e len parts' r' i z ht hi hz hsm h0 ?_
            have hcells : (Array.range (len * i.size)).map (z.cells[· % z.cells.size]!) = (rep len te.zero).toArray := by
              rw [hsz, hs1, ← hzl']
              have := rep_made z.cells len (by omega)
              rw [hzsz] at this ⊢
              exact this
            rw [hcells, hpl]; exact hr1
        have hor := OR.newRow (w := w) (e := e) hte hr2
        have harr : r'.toList.toArray = r' := by simp
        rw [harr] at hor
        refine out_new rfl hrun rfl rfl hor (fun σ' id hx => ?_)
        exact .slice hx (fun _ => rfl) (fun ho => absurd ho (by
          have : len ≤ 100000 := Nat.le_trans (Nat.le_mul_of_pos_right len (by omega)) hle'
          unfold OPEN; omega))
      · cases h
    · cases h
  · cases h
theorem makeSlice_sound (hE : EOK E P) {t : TypeId} {l c l' c' : Value} {out : Out} (h : makeSliceA E t l c = some out) (hl : VR σ l l') (hc : VR σ c c') :
    OutOK E P w0 σ m w (do pure (.value (← Instr.makeSlice t l' c'))) out := by
  unfold makeSliceA at h
  split at h
  · rename_i e te k1 ln k2 cn hel
    obtain ⟨ht, hte⟩ := elemSize_spec hE hel
    obtain ⟨_, i, z, hi, hsz, hby, hz, hzc, hzl, hzs, _⟩ := hE.types e te hte
    obtain rfl := hl.simple_inv rfl
    obtain rfl := hc.simple_inv rfl
    split at h
    · rename_i h1 h2 h3 h4
      have h1' := Nat.le_of_ble_eq_true h1
      have h2' := Nat.le_of_ble_eq_true h2
      have h3' := Nat.le_of_ble_eq_true h3
      have h4' := Nat.le_of_ble_eq_true h4
      cases h
      have hb : (i.bytes : Int) * (cn : Int) ≤ 281474976710656 := by
        have : i.bytes * cn ≤ 100000 * 1000000 := Nat.mul_le_mul (by omega) h3'
        have h5 : ((i.bytes * cn : Nat) : Int) ≤ 281474976710656 := by omega
        rwa [Int.natCast_mul] at h5
      have hrun := run_make (P := P) w t e i z ht hi hz k1 k2 ln cn (by omega) (by omega) hb (by omega)
      have hcells : madeCells z.cells ((cn : Int).toNat * i.size) = (rep cn te.zero).toArray := by
        rw [Int.toNat_natCast, hsz]
        by_cases h0 : te.size = 0
        · have : te.zero = [] := List.eq_nil_of_length_eq_zero (by rw [hzl, h0])
          have h6 : (rep cn te.zero).length = 0 := by rw [rep_len, this]; simp
          rw [h0, List.eq_nil_of_length_eq_zero h6]
          unfold madeCells
          simp
        · have hzsz : z.cells.size = te.size := by rw [← hzl, ← hzc]; simp
          have := rep_made z.cells cn (by omega)
          rw [hzc, hzsz] at this
          unfold madeCells
          rw [hzsz]; exact this
      rw [hcells] at hrun
      simp only [Int.toNat_natCast] at hrun
      have hor := OR.newRow (w := w) (e := e) hte (VRL.simple (σ := σ) (rep_simple hzs cn))
      refine out_new rfl hrun rfl rfl hor (fun σ' id hx => ?_)
      exact .slice hx (fun _ => rfl) (fun ho => absurd ho (by unfold OPEN; omega))
    · cases h
  · cases h
/-! ### fields and indexes -/
theorem fieldAddr_sound (hE : EOK E P) {t : TypeId} {x x' v : Value} {f : Nat} (h : fieldAddrA E t x f = some v) (hx : VR σ x x') (w : World) : ∃ v', (Instr.fieldAt t x' f).run P w = .ok v' w ∧ VR σ v v' := by
  unfold fieldAddrA at h
  split at h
  · rename_i ti a hti
    obtain ⟨hu, _⟩ := hE.types t ti hti
    split at h
    · rename_i fs hd
      split at h
      · rename_i fd hfd
        split at h
        · rename_i tf htf
          obtain ⟨_, i, z, hi, hsz, _⟩ := hE.types _ _ htf
          split at h
          · cases h
          · rename_i hne
            cases h
            cases hx with
            | refl hs => simp [AE.simple] at hs
            | ptr hσ =>
              refine ⟨_, ?_, .ptr hσ⟩
              have hn : ¬ i.size = 0 := by rw [hsz]; exact fun e => hne e
              simp [Instr.fieldAt, run_underlying hu, hd, hfd, Instr.sureAddr, fieldPlace, sizeOf_run hi, hn, addr_add, Nat.add_assoc]
        · cases h
      · cases h
    · cases h
  · cases h
theorem field_sound (hE : EOK E P) {t : TypeId} {x x' v : Value} {f : Nat} (h : fieldA E t x f = some v) (hx : VR σ x x') (w : World) : ∃ v', (Instr.field t x' f).run P w = .ok v' w ∧ VR σ v v' := by
  unfold fieldA at h
  split at h
  · rename_i ti cs hti
    obtain ⟨hu, _⟩ := hE.types t ti hti
    split at h
    · rename_i fs hd
      split at h
      · rename_i fd hfd
        obtain ⟨cs', rfl, hcs⟩ := hx.agg_inv
        obtain ⟨v', hr, hv⟩ := partA_sound hE h hcs w
        exact ⟨v', by simp [Instr.field, run_underlying hu, hd, hfd, asAgg, hr], hv⟩
      · cases h
    · cases h
  · cases h
theorem indexAddr_sound (hE : EOK E P) {t : TypeId} {x x' i i' v : Value} (h : indexAddrA E t x i = some v) (hx : VR σ x x') (hi : VR σ i i') (w : World) : ∃ v', (Instr.indexAt t x' i').run P w = .ok v' w ∧ VR σ v v' := by
  unfold indexAddrA at h
  split at h
  · rename_i ti k n hti
    obtain ⟨hu, _⟩ := hE.types t ti hti
    obtain rfl := hi.simple_inv rfl
    split at h
    · rename_i e a len cap hd
      split at h
      · rename_i te hte hlt
        have hlt' : n < len := Nat.le_of_ble_eq_true hlt
        obtain ⟨_, ie, z, hie, hsz, _⟩ := hE.types _ _ hte
        cases h
        rcases hx.slice_inv with ⟨h1, _⟩ | ⟨j, o, y, c', h1, rfl, hy, _, _⟩
        · cases h1
        · cases h1
          refine ⟨_, ?_, .ptr hy⟩
          have hin : (0 : Int) ≤ Int.ofNat n ∧ Int.ofNat n < (len : Int) := ⟨Int.natCast_nonneg n, by show (n : Int) < len; omega⟩
          simp [Instr.indexAt, asIntOf, run_underlying hu, hd, sizeOf_run hie, addr_add, hsz, Nat.add_assoc]
          omega
      · cases h
    · rename_i len e a hd
      split at h
      · rename_i te hte hlt
        have hlt' : n < len := Nat.le_of_ble_eq_true hlt
        obtain ⟨_, ie, z, hie, hsz, _⟩ := hE.types _ _ hte
        cases h
        cases hx with
        | refl hs => simp [AE.simple] at hs
        | ptr hy =>
          refine ⟨_, ?_, .ptr hy⟩
          simp [Instr.indexAt, asIntOf, run_underlying hu, hd, sizeOf_run hie, addr_add, hsz, Nat.add_assoc, Instr.sureAddr]
          omega
      · cases h
    · cases h
  · cases h
theorem index_sound (hE : EOK E P) {t : TypeId} {x x' i i' v : Value} (h : indexA E t x i = some v) (hx : VR σ x x') (hi : VR σ i i') (w : World) : ∃ v', (Instr.index t x' i').run P w = .ok v' w ∧ VR σ v v' := by
  unfold indexA at h
  split at h
  · rename_i ti k n hti
    obtain ⟨hu, _⟩ := hE.types t ti hti
    obtain rfl := hi.simple_inv rfl
    split at h
    · rename_i len e cs hd
      split at h
      · rename_i te hte hlt
        have hlt' : n < len := Nat.le_of_ble_eq_true hlt
        obtain ⟨_, ie, z, hie, hsz, _⟩ := hE.types _ _ hte
        obtain ⟨cs', rfl, hcs⟩ := hx.agg_inv
        obtain ⟨v', hr, hv⟩ := partA_sound hE h hcs w
        refine ⟨v', ?_, hv⟩
        have hin : (0 : Int) ≤ Int.ofNat n ∧ Int.ofNat n < (len : Int) := ⟨Int.natCast_nonneg n, by show (n : Int) < len; omega⟩
        simp only [Instr.index, asIntOf, Sem.run_bind, Sem.run_pure, Result.andThen_ok, run_underlying hu, hd, Sem.run_ite, if_pos hin, sizeOf_run hie, hsz]
        exact hr
      · cases h
    · rename_i s hd
      split at h
      · rename_i b hb
        cases h
        obtain rfl := hx.simple_inv rfl
        refine ⟨.int .u8 b.toNat, ?_, .refl rfl⟩
        have hsb : s[n]? = some b := by
          have h1 : s.data[n]? = some b := by simpa using hb
          obtain ⟨h2, h3⟩ := Array.getElem?_eq_some_iff.1 h1
          have h4 : n < s.size := h2
          rw [getElem?_pos s n h4]
          exact congrArg some h3
        simp [Instr.index, asIntOf, run_underlying hu, hd, hsb]
      · cases h
    · cases h
  · cases h
end Go.AE

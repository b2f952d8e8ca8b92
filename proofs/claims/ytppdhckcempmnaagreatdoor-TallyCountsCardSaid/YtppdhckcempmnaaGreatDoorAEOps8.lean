/- Operations: writes to maps, lengths, calls; all operations together. -/
import Derived.Test.YtppdhckcempmnaaGreatDoorAEOps7
namespace Go.AE
open Go.RowKit
variable {E : Env} {P : Program} {w0 : World} {σ : Sg} {m : Mem} {w : World}
theorem setVal_sound {k v k' v' : Value} (hk : VR σ k k') (hv : VR σ v v') : ∀ {es es' : List MapEntry} (i : Nat), ERL σ es es' → ERL σ (setVal es i k v) (es'.modify i fun e => { e with key := k', val := v' }) := by
  intro es
  induction es with
  | nil => intro es' i h; obtain rfl := h.nil_inv; cases i <;> exact ⟨rfl, fun i a b ha => by simp [setVal] at ha⟩
  | cons e es ih =>
    intro es' i h
    obtain ⟨e', es', rfl⟩ := h.cons_inv
    cases i with
    | zero => exact ERL.cons ⟨h.head.1, hk, hv⟩ h.tail
    | succ i => exact ERL.cons h.head (ih i h.tail)
theorem eraseAt_sound : ∀ {es es' : List MapEntry} (i : Nat), ERL σ es es' → ERL σ (eraseAt es i) (es'.eraseIdx i) := by
  intro es
  induction es with
  | nil => intro es' i h; obtain rfl := h.nil_inv; exact ⟨rfl, fun i a b ha => by simp [eraseAt] at ha⟩
  | cons e es ih =>
    intro es' i h
    obtain ⟨e', es', rfl⟩ := h.cons_inv
    cases i with
    | zero => exact h.tail
    | succ i => exact ERL.cons h.head (ih i h.tail)
theorem ERL.append {a a' b b' : List MapEntry} (h : ERL σ a a') (k : ERL σ b b') : ERL σ (a ++ b) (a' ++ b') := by
  induction a generalizing a' with
  | nil => obtain rfl := h.nil_inv; exact k
  | cons x a ih => obtain ⟨y, a', rfl⟩ := h.cons_inv; exact ERL.cons h.head (ih h.tail)
theorem eq1_sound {a b a' b' : Value} (h : eq1 a b = true) (ha : VR σ a a') (hb : VR σ b b') : a' = b' ∧ ∀ n, Instr.sameBits (n + 1) a' a' = true := by
  unfold eq1 at h
  split at h
  · obtain rfl := ha.simple_inv rfl; obtain rfl := hb.simple_inv rfl
    simp only [Bool.and_eq_true, beq_iff_eq] at h
    obtain ⟨h1, rfl⟩ := h
    obtain rfl := kcode_inj h1
    exact ⟨rfl, fun n => by simp [Instr.sameBits]⟩
  · obtain rfl := ha.simple_inv rfl; obtain rfl := hb.simple_inv rfl
    rename_i x y
    have : x = y := by
      have h1 : x.data.toList = y.data.toList := by simpa using h
      apply ByteArray.ext
      apply Array.ext'
      exact h1
    subst this
    exact ⟨rfl, fun n => by simp only [Instr.sameBits]; rw [beq_toListBytes]; simp⟩
  · obtain rfl := ha.simple_inv rfl; obtain rfl := hb.simple_inv rfl
    rename_i p q
    have : p = q := by simpa using h
    subst this
    exact ⟨rfl, fun n => by simp [Instr.sameBits]⟩
  · cases h
theorem eqCells_sound : ∀ {l r l' r' : List Value}, eqCells l r = true → VRL σ l l' → VRL σ r r' → l' = r' ∧ ∀ n, (l'.zip l').all (fun (x, y) => Instr.sameBits (n + 1) x y) = true := by
  intro l
  induction l with
  | nil =>
    intro r l' r' h hl hr
    cases r with
    | cons _ _ => simp [eqCells] at h
    | nil =>
      obtain rfl : l' = [] := List.eq_nil_of_length_eq_zero hl.1.symm
      obtain rfl : r' = [] := List.eq_nil_of_length_eq_zero hr.1.symm
      exact ⟨rfl, fun n => rfl⟩
  | cons a l ih =>
    intro r l' r' h hl hr
    cases r with
    | nil => simp [eqCells] at h
    | cons b r =>
      simp only [eqCells] at h
      cases l' with
      | nil => exact absurd hl.1 (by simp)
      | cons a' l' =>
        cases r' with
        | nil => exact absurd hr.1 (by simp)
        | cons b' r' =>
          cases h1 : eq1 a b with
          | false => rw [h1] at h; cases h
          | true =>
            rw [h1] at h
            obtain ⟨rfl, h2⟩ := eq1_sound h1 hl.head hr.head
            obtain ⟨rfl, h3⟩ := ih h hl.tail hr.tail
            exact ⟨rfl, fun n => by simp only [List.zip_cons_cons, List.all_cons, h2 n, Bool.true_and]; exact h3 n⟩
theorem eqKey_sound {a b a' b' : Value} (h : eqKey a b = true) (ha : VR σ a a') (hb : VR σ b b') : a' = b' ∧ ∀ n, Instr.sameBits (n + 2) a' a' = true := by
  unfold eqKey at h
  split at h
  · obtain ⟨x', rfl, hx⟩ := ha.agg_inv
    obtain ⟨y', rfl, hy⟩ := hb.agg_inv
    obtain ⟨h1, h2⟩ := eqCells_sound h hx hy
    have : x' = y' := Array.ext' h1
    subst this
    exact ⟨rfl, fun n => by
      have := h2 n
      simp only [Instr.sameBits, BEq.rfl, Bool.true_and]
      exact this⟩
  · obtain ⟨h1, h2⟩ := eq1_sound h ha hb
    exact ⟨h1, fun n => h2 (n + 1)⟩
theorem keyStays_run {a : Value} (h : ∀ n, Instr.sameBits (n + 2) a a = true) (w : World) : (Instr.keyThatStays a a).run P w = .ok a w := by
  unfold Instr.keyThatStays
  have : Instr.sameBits 10000 a a = true := h 9998
  rw [if_pos this]; rfl
theorem run_setObj_map {w : World} {r : Nat} {es es' : Array MapEntry} {c c' : Nat} (h : w.heap[r]? = some (.map es c)) : (setObj r (.map es' c')).run P w = .ok () { w with heap := w.heap.setIfInBounds r (.map es' c') } := by
  simp [setObj, Sem.run, h]
theorem MR.turnMap (h : MR E w0 σ m w) {r : Nat} {es es2 : List MapEntry} {c c2 : Nat} (hr : m.t.get r = some (.map es c)) {x : Inf} (hx : σ r = some x) {es' : Array MapEntry} (hob : ∃ es0 c0, w.heap[x.b]? = some (.map es0 c0)) (he : ERL σ es2 es'.toList) :
    MR E w0 σ ⟨m.n, m.t.set r (.map es2 c2)⟩ { w with heap := w.heap.setIfInBounds x.b (.map es' c2) } ∧ FG σ m w σ ⟨m.n, m.t.set r (.map es2 c2)⟩ { w with heap := w.heap.setIfInBounds x.b (.map es' c2) } := by
  obtain ⟨es0, c0, hob⟩ := hob
  have hlt : x.b < w.heap.size := (Array.getElem?_eq_some_iff.1 hob).1
  refine h.turn hr rfl hx rfl (by simp) (fun k hk => by simp [Ne.symm hk]) rfl rfl rfl (ob := .map es' c2) (by simp [hlt]) ⟨rfl, by simpa using he.1, fun i a b ha hb => he.2 i a b ha (by simpa using hb)⟩
theorem mapUpdate_sound (hE : EOK E P) (h : MR E w0 σ m w) {t : TypeId} {x x' k k' v v' : Value} {m' : Mem} (ha : mapUpdateA E t x k v m = some m') (hx : VR σ x x') (hk : VR σ k k') (hv : VR σ v v') :
    ∃ w', (Instr.mapUpdate t x' k' v').run P w = .ok () w' ∧ MR E w0 σ m' w' ∧ FG σ m w σ m' w' := by
  unfold mapUpdateA at ha
  split at ha
  · rename_i kt tk te r hmt
    obtain ⟨e, hu, htk, hte⟩ := mapType_spec hE hmt
    split at ha
    · rename_i es clock hko hrow
      have hck : (Instr.checkKey false 10000 kt k').run P w = .ok () w := keyOK_run hE htk hko hk false 9998 w
      cases hx with
      | refl hs => simp [AE.simple] at hs
      | map hy =>
        rename_i y
        obtain ⟨es', hob, her⟩ := h.mapObj hrow hy
        split at ha
        · rename_i i v0 hf
          obtain ⟨r', h1, h2⟩ := findKey_sound hE htk hk hf her w
          cases r' with
          | none => exact h2.elim
          | some q =>
            obtain ⟨j, v1⟩ := q
            obtain ⟨rfl, hv1⟩ := h2
            split at ha
            · rename_i e0 he0
              split at ha
              · rename_i hkey
                cases ha
                have hlt : i < es'.size := by
                  have h5 := (List.getElem?_eq_some_iff.1 he0).1
                  have h6 := her.1
                  simp only [Array.length_toList] at h6
                  omega
                have hb : es'.toList[i]? = some es'[i] := by simp [hlt]
                obtain ⟨_, hkk, _⟩ := her.2 i e0 es'[i] he0 hb
                obtain ⟨hke, hsb⟩ := eqKey_sound hkey hkk hk
                obtain ⟨hm', hf'⟩ := h.turnMap (c2 := clock) (es2 := setVal es i k v) (es' := es'.modify i fun e => { e with key := k', val := v' }) hrow hy ⟨es', clock, hob⟩ (by rw [Array.toList_modify]; exact setVal_sound hk hv i her)
                refine ⟨_, ?_, hm', hf'⟩
                have hold : ((es'[i]?).map (·.key)).getD k' = k' := by simp [hlt, hke]
                have hst := keyStays_run (P := P) (hke ▸ hsb) w
                simp only [Instr.mapUpdate, Sem.run_bind, run_underlying hu, Result.andThen_ok, run_getObj_map hob, hck, h1, hold, hst, run_setObj_map hob]
              · cases ha
            · cases ha
        · rename_i hf
          cases ha
          obtain ⟨r', h1, h2⟩ := findKey_sound hE htk hk hf her w
          cases r' with
          | some _ => exact h2.elim
          | none =>
            obtain ⟨hm', hf'⟩ := h.turnMap (c2 := clock + 1) (es2 := es ++ [⟨k, v, clock⟩]) (es' := es'.push ⟨k', v', clock⟩) hrow hy ⟨es', clock, hob⟩ (by
              rw [Array.toList_push]
              exact her.append (ERL.cons ⟨rfl, hk, hv⟩ ⟨rfl, fun i a b ha => by simp at ha⟩))
            refine ⟨_, ?_, hm', hf'⟩
            simp only [Instr.mapUpdate, Sem.run_bind, run_underlying hu, Result.andThen_ok, run_getObj_map hob, hck, h1, run_setObj_map hob]
        · cases ha
    · cases ha
  · cases ha
theorem delete_sound (hE : EOK E P) (h : MR E w0 σ m w) {t ty : TypeId} {ts : Array TypeId} (hts : ts[0]? = some t) {x x' k k' : Value} {m' : Mem} (ha : deleteA E t x k m = some m') (hx : VR σ x x') (hk : VR σ k k') :
    ∃ w', (Builtin.delete_ ts ty #[x', k']).run P w = .ok (.tuple #[]) w' ∧ MR E w0 σ m' w' ∧ FG σ m w σ m' w' := by
  unfold deleteA at ha
  split at ha
  · rename_i kt tk te hmt
    obtain ⟨e, hu, htk, hte⟩ := mapType_spec hE hmt
    split at ha
    · cases ha
    · rename_i hko
      have hck : ∀ b, (Instr.checkKey b 10000 kt k').run P w = .ok () w := fun b => keyOK_run hE htk hko hk b 9998 w
      split at ha
      · cases ha
        obtain rfl := hx.simple_inv rfl
        refine ⟨w, ?_, h, FG.refl σ m w⟩
        simp [Builtin.delete_, hts, run_underlying hu, hck]
      · rename_i r
        split at ha
        · rename_i es clock hrow
          cases hx with
          | refl hs => simp [AE.simple] at hs
          | map hy =>
            rename_i y
            obtain ⟨es', hob, her⟩ := h.mapObj hrow hy
            split at ha
            · rename_i i v0 hf
              cases ha
              obtain ⟨r', h1, h2⟩ := findKey_sound hE htk hk hf her w
              cases r' with
              | none => exact h2.elim
              | some q =>
                obtain ⟨j, v1⟩ := q
                obtain ⟨rfl, hv1⟩ := h2
                obtain ⟨hm', hf'⟩ := h.turnMap (c2 := clock) (es2 := eraseAt es i) (es' := es'.eraseIdxIfInBounds i) hrow hy ⟨es', clock, hob⟩ (by
                  rw [Array.toList_eraseIdxIfInBounds]; exact eraseAt_sound i her)
                refine ⟨_, ?_, hm', hf'⟩
                simp [Builtin.delete_, hts, run_underlying hu, hck, run_getObj_map hob, h1, run_setObj_map hob]
            · rename_i hf
              cases ha
              obtain ⟨r', h1, h2⟩ := findKey_sound hE htk hk hf her w
              cases r' with
              | some _ => exact h2.elim
              | none =>
                have hlt : y.b < w.heap.size := (Array.getElem?_eq_some_iff.1 hob).1
                have hsame : ({ w with heap := w.heap.setIfInBounds y.b (.map es' clock) } : World) = w := by
                  have : w.heap.setIfInBounds y.b (.map es' clock) = w.heap := by
                    apply Array.ext_getElem?
                    intro q
                    rw [Array.getElem?_setIfInBounds]
                    by_cases e : y.b = q
                    · subst e; rw [if_pos rfl, if_pos hlt, hob]
                    · rw [if_neg e]
                  rw [this]
                refine ⟨w, ?_, h, FG.refl σ m w⟩
                simp [Builtin.delete_, hts, run_underlying hu, hck, run_getObj_map hob, h1, run_setObj_map hob, hsame]
            · cases ha
        · cases ha
      · cases ha
  · cases ha
theorem len_sound (hE : EOK E P) (h : MR E w0 σ m w) {t ty : TypeId} {x x' v : Value} (ha : lenA E t x m = some v) (hx : VR σ x x') : ∃ v', (Builtin.len_ #[t] ty #[x']).run P w = .ok v' w ∧ VR σ v v' := by
  unfold lenA at ha
  split at ha
  · rename_i ti hti
    obtain ⟨hu, _⟩ := hE.types t ti hti
    split at ha
    · rename_i s hd
      cases ha
      obtain rfl := hx.simple_inv rfl
      have hss : s.size = s.data.toList.length := by cases s; rfl
      exact ⟨goInt s.size, by simp [Builtin.len_, run_underlying hu, hd], by rw [← hss]; exact .refl rfl⟩
    · rename_i a n c hd
      cases ha
      rcases hx.slice_inv with ⟨_, rfl⟩ | ⟨_, _, _, _, _, rfl, _⟩ <;> exact ⟨goInt n, by simp [Builtin.len_, run_underlying hu, hd], .refl rfl⟩
    · rename_i hd
      cases ha
      cases hx with
      | refl hs => simp [AE.simple] at hs
      | topS a n c => exact ⟨goInt n, by simp [Builtin.len_, run_underlying hu, hd], .topI .i64 n⟩
    · rename_i hd
      cases ha
      cases hx with
      | refl hs => simp [AE.simple] at hs
      | topE a c => exact ⟨goInt 0, by simp [Builtin.len_, run_underlying hu, hd], .refl rfl⟩
    · rename_i hd
      cases ha
      cases hx with
      | refl hs => simp [AE.simple] at hs
      | topStr s => exact ⟨goInt s.size, by simp [Builtin.len_, run_underlying hu, hd], .topI .i64 _⟩
    · rename_i n e hd
      cases ha
      exact ⟨goInt n, by cases x' <;> simp [Builtin.len_, run_underlying hu, hd], .refl rfl⟩
    · rename_i hd
      cases ha
      obtain rfl := hx.simple_inv rfl
      exact ⟨goInt 0, by simp [Builtin.len_, run_underlying hu, hd], .refl rfl⟩
    · rename_i r hd
      split at ha
      · rename_i es clock hrow
        cases ha
        cases hx with
        | refl hs => simp [AE.simple] at hs
        | map hy =>
          obtain ⟨es', hob, her⟩ := h.mapObj hrow hy
          have hl : es.length = es'.size := by simpa using her.1
          exact ⟨goInt es'.size, by simp [Builtin.len_, run_underlying hu, hd, run_getObj_map hob], by rw [← hl]; exact .refl rfl⟩
      · cases ha
    · cases ha
  · cases ha
theorem minmax_sound {mx : Bool} {ts : Array TypeId} {ty : TypeId} {x y x' y' v : Value} (h : minmax mx x y = some v) (hx : VR σ x x') (hy : VR σ y y') (w : World) :
    (match mx with | true => Builtin.max_ ts ty #[x', y'] | false => Builtin.min_ ts ty #[x', y']).run P w = .ok v w ∧ simple v = true := by
  unfold minmax at h
  split at h
  · split at h
    · rename_i hk
      cases h
      obtain rfl := hx.simple_inv rfl; obtain rfl := hy.simple_inv rfl
      cases mx
      · exact ⟨run_min_int2 w ts ty _ _ _ _, rfl⟩
      · exact ⟨run_max_int2 w ts ty _ _ _ _, rfl⟩
    · cases h
  · cases h
end Go.AE

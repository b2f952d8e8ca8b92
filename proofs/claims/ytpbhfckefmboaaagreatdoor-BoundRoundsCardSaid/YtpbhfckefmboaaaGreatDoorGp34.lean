/- AEOps8, AEExt: in one text. -/
import Derived.Test.YtpbhfckefmboaaaGreatDoorGp33
set_option linter.unusedVariables false
set_option linter.unusedSimpArgs false
set_option linter.unusedSectionVars false
namespace Go.AE
open Go.RowKit
variable {E : Env} {P : Program} {w0 : World} {σ : Sg} {m : Mem} {w : World}
theorem setVal_sound {k v k' v' : Value} (hk : VR σ k k') (hv : VR σ v v') : ∀ {es es' : List MapEntry} (i : Nat), ERL σ es es' → ERL σ (setVal es i k v) (es'.modify i fun e => { e with key := k', val := v' }) := by
  intro es
  induction es with
  | nil => intro es' i h; obtain rfl := h.nil_inv; cases i <;> exact ⟨rfl, fun i a b ha => by simp [setVal] at ha⟩
  | cons e es ih =>
    intro es' i h
    obtain ⟨e', es', rfl⟩ := h.cons_inv
    cases i with
    | zero => exact ERL.cons ⟨h.head.1, hk, hv⟩ h.tail
    | succ i => exact ERL.cons h.head (ih i h.tail)
theorem eraseAt_sound : ∀ {es es' : List MapEntry} (i : Nat), ERL σ es es' → ERL σ (eraseAt es i) (es'.eraseIdx i) := by
  intro es
  induction es with
  | nil => intro es' i h; obtain rfl := h.nil_inv; exact ⟨rfl, fun i a b ha => by simp [eraseAt] at ha⟩
  | cons e es ih =>
    intro es' i h
    obtain ⟨e', es', rfl⟩ := h.cons_inv
    cases i with
    | zero => exact h.tail
    | succ i => exact ERL.cons h.head (ih i h.tail)
theorem ERL.append {a a' b b' : List MapEntry} (h : ERL σ a a') (k : ERL σ b b') : ERL σ (a ++ b) (a' ++ b') := by
  induction a generalizing a' with
  | nil => obtain rfl := h.nil_inv; exact k
  | cons x a ih => obtain ⟨y, a', rfl⟩ := h.cons_inv; exact ERL.cons h.head (ih h.tail)
theorem eq1_sound {a b a' b' : Value} (h : eq1 a b = true) (ha : VR σ a a') (hb : VR σ b b') : a' = b' ∧ ∀ n, Instr.sameBits (n + 1) a' a' = true := by
  unfold eq1 at h
  split at h
  · obtain rfl := ha.simple_inv rfl; obtain rfl := hb.simple_inv rfl
    simp only [Bool.and_eq_true, beq_iff_eq] at h
    obtain ⟨h1, rfl⟩ := h
    obtain rfl := kcode_inj h1
    exact ⟨rfl, fun n => by simp [Instr.sameBits]⟩
  · obtain rfl := ha.simple_inv rfl; obtain rfl := hb.simple_inv rfl
    rename_i x y
    have : x = y := by
      have h1 : x.data.toList = y.data.toList := by simpa using h
      apply ByteArray.ext
      apply Array.ext'
      exact h1
    subst this
    exact ⟨rfl, fun n => by simp only [Instr.sameBits]; rw [beq_toListBytes]; simp⟩
  · obtain rfl := ha.simple_inv rfl; obtain rfl := hb.simple_inv rfl
    rename_i p q
    have : p = q := by simpa using h
    subst this
    exact ⟨rfl, fun n => by simp [Instr.sameBits]⟩
  · cases h
theorem eqCells_sound : ∀ {l r l' r' : List Value}, eqCells l r = true → VRL σ l l' → VRL σ r r' → l' = r' ∧ ∀ n, (l'.zip l').all (fun (x, y) => Instr.sameBits (n + 1) x y) = true := by
  intro l
  induction l with
  | nil =>
    intro r l' r' h hl hr
    cases r with
    | cons _ _ => simp [eqCells] at h
    | nil =>
      obtain rfl : l' = [] := List.eq_nil_of_length_eq_zero hl.1.symm
      obtain rfl : r' = [] := List.eq_nil_of_length_eq_zero hr.1.symm
      exact ⟨rfl, fun n => rfl⟩
  | cons a l ih =>
    intro r l' r' h hl hr
    cases r with
    | nil => simp [eqCells] at h
    | cons b r =>
      simp only [eqCells] at h
      cases l' with
      | nil => exact absurd hl.1 (by simp)
      | cons a' l' =>
        cases r' with
        | nil => exact absurd hr.1 (by simp)
        | cons b' r' =>
          cases h1 : eq1 a b with
          | false => rw [h1] at h; cases h
          | true =>
            rw [h1] at h
            obtain ⟨rfl, h2⟩ := eq1_sound h1 hl.head hr.head
            obtain ⟨rfl, h3⟩ := ih h hl.tail hr.tail
            exact ⟨rfl, fun n => by simp only [List.zip_cons_cons, List.all_cons, h2 n, Bool.true_and]; exact h3 n⟩
theorem eqKey_sound {a b a' b' : Value} (h : eqKey a b = true) (ha : VR σ a a') (hb : VR σ b b') : a' = b' ∧ ∀ n, Instr.sameBits (n + 2) a' a' = true := by
  unfold eqKey at h
  split at h
  · obtain ⟨x', rfl, hx⟩ := ha.agg_inv
    obtain ⟨y', rfl, hy⟩ := hb.agg_inv
    obtain ⟨h1, h2⟩ := eqCells_sound h hx hy
    have : x' = y' := Array.ext' h1
    subst this
    exact ⟨rfl, fun n => by
      have := h2 n
      simp only [Instr.sameBits, BEq.rfl, Bool.true_and]
      exact this⟩
  · obtain ⟨h1, h2⟩ := eq1_sound h ha hb
    exact ⟨h1, fun n => h2 (n + 1)⟩
theorem keyStays_run {a : Value} (h : ∀ n, Instr.sameBits (n + 2) a a = true) (w : World) : (Instr.keyThatStays a a).run P w = .ok a w := by
  unfold Instr.keyThatStays
  have : Instr.sameBits 10000 a a = true := h 9998
  rw [if_pos this]; rfl
theorem run_setObj_map {w : World} {r : Nat} {es es' : Array MapEntry} {c c' : Nat} (h : w.heap[r]? = some (.map es c)) : (setObj r (.map es' c')).run P w = .ok () { w with heap := w.heap.setIfInBounds r (.map es' c') } := by
  simp [setObj, Sem.run, h]
theorem MR.turnMap (h : MR E w0 σ m w) {r : Nat} {es es2 : List MapEntry} {c c2 : Nat} (hr : m.t.get r = some (.map es c)) {x : Inf} (hx : σ r = some x) {es' : Array MapEntry} (hob : ∃ es0 c0, w.heap[x.b]? = some (.map es0 c0)) (he : ERL σ es2 es'.toList) :
    MR E w0 σ ⟨m.n, m.t.set r (.map es2 c2)⟩ { w with heap := w.heap.setIfInBounds x.b (.map es' c2) } ∧ FG σ m w σ ⟨m.n, m.t.set r (.map es2 c2)⟩ { w with heap := w.heap.setIfInBounds x.b (.map es' c2) } := by
  obtain ⟨es0, c0, hob⟩ := hob
  have hlt : x.b < w.heap.size := (Array.getElem?_eq_some_iff.1 hob).1
  refine h.turn hr rfl hx rfl (by simp) (fun k hk => by simp [Ne.symm hk]) rfl rfl rfl (ob := .map es' c2) (by simp [hlt]) ⟨rfl, by simpa using he.1, fun i a b ha hb => he.2 i a b ha (by simpa using hb)⟩
theorem mapUpdate_sound (hE : EOK E P) (h : MR E w0 σ m w) {t : TypeId} {x x' k k' v v' : Value} {m' : Mem} (ha : mapUpdateA E t x k v m = some m') (hx : VR σ x x') (hk : VR σ k k') (hv : VR σ v v') :
    ∃ w', (Instr.mapUpdate t x' k' v').run P w = .ok () w' ∧ MR E w0 σ m' w' ∧ FG σ m w σ m' w' := by
  unfold mapUpdateA at ha
  split at ha
  · rename_i kt tk te r hmt
    obtain ⟨e, hu, htk, hte⟩ := mapType_spec hE hmt
    split at ha
    · rename_i es clock hko hrow
      have hck : (Instr.checkKey false 10000 kt k').run P w = .ok () w := keyOK_run hE htk hko hk false 9998 w
      cases hx with
      | refl hs => simp [AE.simple] at hs
      | map hy =>
        rename_i y
        obtain ⟨es', hob, her⟩ := h.mapObj hrow hy
        split at ha
        · rename_i i v0 hf
          obtain ⟨r', h1, h2⟩ := findKey_sound hE htk hk hf her w
          cases r' with
          | none => exact h2.elim
          | some q =>
            obtain ⟨j, v1⟩ := q
            obtain ⟨rfl, hv1⟩ := h2
            split at ha
            · rename_i e0 he0
              split at ha
              · rename_i hkey
                cases ha
                have hlt : i < es'.size := by
                  have h5 := (List.getElem?_eq_some_iff.1 he0).1
                  have h6 := her.1
                  simp only [Array.length_toList] at h6
                  omega
                have hb : es'.toList[i]? = some es'[i] := by simp [hlt]
                obtain ⟨_, hkk, _⟩ := her.2 i e0 es'[i] he0 hb
                obtain ⟨hke, hsb⟩ := eqKey_sound hkey hkk hk
                obtain ⟨hm', hf'⟩ := h.turnMap (c2 := clock) (es2 := setVal es i k v) (es' := es'.modify i fun e => { e with key := k', val := v' }) hrow hy ⟨es', clock, hob⟩ (by rw [Array.toList_modify]; exact setVal_sound hk hv i her)
                refine ⟨_, ?_, hm', hf'⟩
                have hold : ((es'[i]?).map (·.key)).getD k' = k' := by simp [hlt, hke]
                have hst := keyStays_run (P := P) (hke ▸ hsb) w
                simp only [Instr.mapUpdate, Sem.run_bind, run_underlying hu, Result.andThen_ok, run_getObj_map hob, hck, h1, hold, hst, run_setObj_map hob]
              · cases ha
            · cases ha
        · rename_i hf
          cases ha
          obtain ⟨r', h1, h2⟩ := findKey_sound hE htk hk hf her w
          cases r' with
          | some _ => exact h2.elim
          | none =>
            obtain ⟨hm', hf'⟩ := h.turnMap (c2 := clock + 1) (es2 := es ++ [⟨k, v, clock⟩]) (es' := es'.push ⟨k', v', clock⟩) hrow hy ⟨es', clock, hob⟩ (by
              rw [Array.toList_push]
              exact her.append (ERL.cons ⟨rfl, hk, hv⟩ ⟨rfl, fun i a b ha => by simp at ha⟩))
            refine ⟨_, ?_, hm', hf'⟩
            simp only [Instr.mapUpdate, Sem.run_bind, run_underlying hu, Result.andThen_ok, run_getObj_map hob, hck, h1, run_setObj_map hob]
        · cases ha
    · cases ha
  · cases ha
theorem delete_sound (hE : EOK E P) (h : MR E w0 σ m w) {t ty : TypeId} {ts : Array TypeId} (hts : ts[0]? = some t) {x x' k k' : Value} {m' : Mem} (ha : deleteA E t x k m = some m') (hx : VR σ x x') (hk : VR σ k k') :
    ∃ w', (Builtin.delete_ ts ty #[x', k']).run P w = .ok (.tuple #[]) w' ∧ MR E w0 σ m' w' ∧ FG σ m w σ m' w' := by
  unfold deleteA at ha
  split at ha
  · rename_i kt tk te hmt
    obtain ⟨e, hu, htk, hte⟩ := mapType_spec hE hmt
    split at ha
    · cases ha
    · rename_i hko
      have hck : ∀ b, (Instr.checkKey b 10000 kt k').run P w = .ok () w := fun b => keyOK_run hE htk hko hk b 9998 w
      split at ha
      · cases ha
        obtain rfl := hx.simple_inv rfl
        refine ⟨w, ?_, h, FG.refl σ m w⟩
        simp [Builtin.delete_, hts, run_underlying hu, hck]
      · rename_i r
        split at ha
        · rename_i es clock hrow
          cases hx with
          | refl hs => simp [AE.simple] at hs
          | map hy =>
            rename_i y
            obtain ⟨es', hob, her⟩ := h.mapObj hrow hy
            split at ha
            · rename_i i v0 hf
              cases ha
              obtain ⟨r', h1, h2⟩ := findKey_sound hE htk hk hf her w
              cases r' with
              | none => exact h2.elim
              | some q =>
                obtain ⟨j, v1⟩ := q
                obtain ⟨rfl, hv1⟩ := h2
                obtain ⟨hm', hf'⟩ := h.turnMap (c2 := clock) (es2 := eraseAt es i) (es' := es'.eraseIdxIfInBounds i) hrow hy ⟨es', clock, hob⟩ (by
                  rw [Array.toList_eraseIdxIfInBounds]; exact eraseAt_sound i her)
                refine ⟨_, ?_, hm', hf'⟩
                simp [Builtin.delete_, hts, run_underlying hu, hck, run_getObj_map hob, h1, run_setObj_map hob]
            · rename_i hf
              cases ha
              obtain ⟨r', h1, h2⟩ := findKey_sound hE htk hk hf her w
              cases r' with
              | some _ => exact h2.elim
              | none =>
                have hlt : y.b < w.heap.size := (Array.getElem?_eq_some_iff.1 hob).1
                have hsame : ({ w with heap := w.heap.setIfInBounds y.b (.map es' clock) } : World) = w := by
                  have : w.heap.setIfInBounds y.b (.map es' clock) = w.heap := by
                    apply Array.ext_getElem?
                    intro q
                    rw [Array.getElem?_setIfInBounds]
                    by_cases e : y.b = q
                    · subst e; rw [if_pos rfl, if_pos hlt, hob]
                    · rw [if_neg e]
                  rw [this]
                refine ⟨w, ?_, h, FG.refl σ m w⟩
                simp [Builtin.delete_, hts, run_underlying hu, hck, run_getObj_map hob, h1, run_setObj_map hob, hsame]
            · cases ha
        · cases ha
      · cases ha
  · cases ha
theorem len_sound (hE : EOK E P) (h : MR E w0 σ m w) {t ty : TypeId} {x x' v : Value} (ha : lenA E t x m = some v) (hx : VR σ x x') : ∃ v', (Builtin.len_ #[t] ty #[x']).run P w = .ok v' w ∧ VR σ v v' := by
  unfold lenA at ha
  split at ha
  · rename_i ti hti
    obtain ⟨hu, _⟩ := hE.types t ti hti
    split at ha
    · rename_i s hd
      cases ha
      obtain rfl := hx.simple_inv rfl
      have hss : s.size = s.data.toList.length := by cases s; rfl
      exact ⟨goInt s.size, by simp [Builtin.len_, run_underlying hu, hd], by rw [← hss]; exact .refl rfl⟩
    · rename_i a n c hd
      cases ha
      rcases hx.slice_inv with ⟨_, rfl⟩ | ⟨_, _, _, _, _, rfl, _⟩ <;> exact ⟨goInt n, by simp [Builtin.len_, run_underlying hu, hd], .refl rfl⟩
    · rename_i hd
      cases ha
      cases hx with
      | refl hs => simp [AE.simple] at hs
      | topS a n c => exact ⟨goInt n, by simp [Builtin.len_, run_underlying hu, hd], .topI .i64 n⟩
    · rename_i hd
      cases ha
      cases hx with
      | refl hs => simp [AE.simple] at hs
      | topE a c => exact ⟨goInt 0, by simp [Builtin.len_, run_underlying hu, hd], .refl rfl⟩
    · rename_i hd
      cases ha
      cases hx with
      | refl hs => simp [AE.simple] at hs
      | topStr s => exact ⟨goInt s.size, by simp [Builtin.len_, run_underlying hu, hd], .topI .i64 _⟩
    · rename_i n e hd
      cases ha
      exact ⟨goInt n, by cases x' <;> simp [Builtin.len_, run_underlying hu, hd], .refl rfl⟩
    · rename_i hd
      cases ha
      obtain rfl := hx.simple_inv rfl
      exact ⟨goInt 0, by simp [Builtin.len_, run_underlying hu, hd], .refl rfl⟩
    · rename_i r hd
      split at ha
      · rename_i es clock hrow
        cases ha
        cases hx with
        | refl hs => simp [AE.simple] at hs
        | map hy =>
          obtain ⟨es', hob, her⟩ := h.mapObj hrow hy
          have hl : es.length = es'.size := by simpa using her.1
          exact ⟨goInt es'.size, by simp [Builtin.len_, run_underlying hu, hd, run_getObj_map hob], by rw [← hl]; exact .refl rfl⟩
      · cases ha
    · cases ha
  · cases ha
theorem minmax_sound {mx : Bool} {ts : Array TypeId} {ty : TypeId} {x y x' y' v : Value} (h : minmax mx x y = some v) (hx : VR σ x x') (hy : VR σ y y') (w : World) :
    (match mx with | true => Builtin.max_ ts ty #[x', y'] | false => Builtin.min_ ts ty #[x', y']).run P w = .ok v w ∧ simple v = true := by
  unfold minmax at h
  split at h
  · split at h
    · rename_i hk
      cases h
      obtain rfl := hx.simple_inv rfl; obtain rfl := hy.simple_inv rfl
      cases mx
      · exact ⟨run_min_int2 w ts ty _ _ _ _, rfl⟩
      · exact ⟨run_max_int2 w ts ty _ _ _ _, rfl⟩
    · cases h
  · cases h
end Go.AE
namespace Go.AE
open Go.RowKit
variable {E : Env} {P : Program} {w0 : World} {σ : Sg} {m : Mem} {w : World}
theorem sameKind_eq {a b : IntKind} (h : sameKind a b = true) : a = b := by cases a <;> cases b <;> first | rfl | (cases h; done)
/-- a cell is read -/
theorem cellA_sound (h : MR E w0 σ m w) {a : Addr} {v p' : Value} (hl : cellA a m = some v) (hp : VR σ (.pointer (some a)) p') :
    ∃ b o v' C e fz, p' = .pointer (some ⟨b, o, none⟩) ∧ w.heap[b]? = some (.cells C e fz) ∧ w.cell? ⟨b, o, none⟩ = some v' ∧ w.frozen? ⟨b, o, none⟩ = false ∧ VR σ v v' := by
  unfold cellA at hl
  split at hl
  · rename_i cells n e hrow
    split at hl
    · rename_i hle
      have hle' := Nat.le_of_ble_eq_true hle
      cases hp with
      | refl hs => simp [simple] at hs
      | ptr hx =>
        rename_i i' o x
        obtain ⟨C, fz, hB, hob, hf, hN, hn, _, hc⟩ := h.row hrow hx
        simp only at hle' hl
        obtain ⟨u, u', hu1, hu2, hr⟩ := hc o (by omega)
        rw [hl] at hu1
        cases hu1
        exact ⟨x.b, x.sh + o, u', C, e, fz, rfl, hob, by rw [cell?_of hob]; exact hu2, frozen?_of hob hf (by omega), hr⟩
    · cases hl
  · cases hl
theorem ptr_plain {a : Addr} {p' : Value} (h : VR σ (.pointer (some a)) p') : a = ⟨a.block, a.off, none⟩ := by
  cases h with
  | refl hs => simp [simple] at hs
  | ptr hx => rfl
theorem loadT_eq (t : Extern.Atomic.T) (a : Value) : Extern.Atomic.loadT t #[a] = (do Extern.Atomic.read t (← asAddr a)) := rfl
theorem storeT_eq (a v : Value) : Extern.Atomic.storeT #[a, v] = (do store (← asAddr a) v .atomic; pure Extern.Atomic.none_) := rfl
theorem update_eq (op : IntKind → Int → Int → Sem Value) (k : IntKind) (r : Bool) (addr y : Value) : Extern.Atomic.update op k r #[addr, y] = (do
    let a ← asAddr addr
    let old ← Extern.Atomic.read (.int k) a
    let new ← op k (← asInt old) (← asInt y)
    store a new .atomic
    pure (if r then new else old)) := rfl
theorem read_run {w : World} {b o : Nat} {k : IntKind} {n : Int} (hc : w.cell? ⟨b, o, none⟩ = some (.int k n)) : (Extern.Atomic.read (.int k) ⟨b, o, none⟩).run P w = .ok (.int k n) w := by
  simp [Extern.Atomic.read, load, Sem.run, hc, Bind.bind, Sem.bind, Pure.pure]
theorem touches_run {w : World} {b o : Nat} {C : Array Value} {e : TypeId} {fz : Nat × Nat} (h : w.heap[b]? = some (.cells C e fz)) (hz : w.frozen? ⟨b, o, none⟩ = false) : (Extern.Atomic.touchesFrozen ⟨b, o, none⟩).run P w = .ok false w := by
  have hs : (w.shape? b).isSome = true := by simp [World.shape?, h]
  have hv : (viewAt b).run P w = .ok none w := by
    simp [viewAt, shape, Sem.run, Bind.bind, Sem.bind, hs]
  simp only [Extern.Atomic.touchesFrozen, Sem.run_bind, hv, Result.andThen_ok]
  simp [frozen, Sem.run, hz]
theorem casT_eq (t : Extern.Atomic.T) (addr old new : Value) : Extern.Atomic.casT t #[addr, old, new] = (do
    let a ← asAddr addr
    if ← Extern.Atomic.touchesFrozen a then unsupported (.unsafePointer "a write to bytes that a string shares")
    let eq ← match t, ← Extern.Atomic.read t a, old with
      | _, .int _ x, .int _ y => pure (x == y)
      | .ptr, .pointer x, .pointer y => samePointer x y
      | .int _, .pointer (some _), .int _ 0 | .int _, .int _ 0, .pointer (some _) => pure false
      | .int _, .pointer (some _), _ | .int _, _, .pointer (some _) => unsupported .addressObserved
      | _, _, _ => stuck "atomic.CompareAndSwap: old is no T"
    if eq then store a new .atomic
    pure (.bool eq)) := rfl
theorem asAddr_eq (a : Addr) : asAddr (.pointer (some a)) = pure a := rfl
theorem asInt_eq (k : IntKind) (n : Int) : asInt (.int k n) = pure n := rfl
/-- one cell is written -/
theorem store_one (h : MR E w0 σ m w) {a : Addr} {v v' p' : Value} {m' : Mem} {b o : Nat} (hs : storeL ⟨a.block, a.off, none⟩ [v] m = some m') (hp : VR σ (.pointer (some a)) p') (hpe : p' = .pointer (some ⟨b, o, none⟩)) (hv : VR σ v v') {u : Value} (hc : w.cell? ⟨b, o, none⟩ = some u) :
    ∃ w', (store ⟨b, o, none⟩ v' .atomic).run P w = .ok () w' ∧ MR E w0 σ m' w' ∧ FG σ m w σ m' w' := by
  rw [← ptr_plain hp] at hs
  obtain ⟨a', w', h1, _, h2, h3, h4⟩ := storeL_sound (P := P) h hs hp (VRL.cons hv (VRL.nil σ))
  obtain rfl : a' = ⟨b, o, none⟩ := by rw [hpe] at h1; cases h1; rfl
  refine ⟨w', ?_, h3, h4⟩
  rw [← h2]
  simp only [storeCells, addr_add, Nat.add_zero]
  cases v' <;> simp [store, Sem.run, hc] <;> rfl
theorem extA_sound (h : MR E w0 σ m w) {x : Xtn} {args : List Value} {args' : Array Value} {out : Out} (ho : extA x args m = some out) (hl : VRL σ args args'.toList) :
    OutOK E P w0 σ m w (do pure (.value (← x.impl args'))) out := by
  have two : ∀ {a b : Value}, args = [a, b] → ∃ a' b', args' = #[a', b'] ∧ VR σ a a' ∧ VR σ b b' := by
    intro a b e
    subst e
    rcases args' with ⟨l⟩
    match l, hl with
    | [a', b'], hl => exact ⟨a', b', rfl, hl.head, hl.tail.head⟩
    | [], hl => exact absurd hl.1 (by simp)
    | [_], hl => exact absurd hl.1 (by simp)
    | _ :: _ :: _ :: _, hl => exact absurd hl.1 (by simp)
  unfold extA at ho
  split at ho
  · rename_i k a
    obtain ⟨a', rfl, ha⟩ : ∃ a', args' = #[a'] ∧ VR σ (.pointer (some a)) a' := by
      rcases args' with ⟨l⟩
      match l, hl with
      | [a'], hl => exact ⟨a', rfl, hl.head⟩
      | [], hl => exact absurd hl.1 (by simp)
      | _ :: _ :: _, hl => exact absurd hl.1 (by simp)
    split at ho
    · rename_i j n hcell
      split at ho
      · rename_i hk
        obtain rfl := sameKind_eq hk
        cases ho
        obtain ⟨b, o, v', C, e, fz, rfl, hob, hc, hz, hv⟩ := cellA_sound h hcell ha
        obtain rfl := hv.simple_inv rfl
        refine out_val (s0 := Xtn.impl (.load k) #[.pointer (some ⟨b, o, none⟩)]) rfl ?_ (.refl rfl)
        simp only [Xtn.impl, loadT_eq, asAddr_eq, Sem.run_bind, Sem.run_pure, Result.andThen_ok, read_run hc]
      · cases ho
    · cases ho
  · rename_i a v
    obtain ⟨a', v', rfl, ha, hv⟩ := two rfl
    split at ho
    · rename_i m' hb hs
      cases ho
      have hw : ∃ b o u, a' = .pointer (some ⟨b, o, none⟩) ∧ w.cell? ⟨b, o, none⟩ = some u := by
        unfold storeL at hs
        split at hs
        · rename_i cells n e hrow
          split at hs
          · rename_i hle _
            have hle' := Nat.le_of_ble_eq_true hle
            cases ha with
            | refl h => simp [simple] at h
            | ptr hx =>
              rename_i i o x
              obtain ⟨C, fz, hB, hob, hf, hN, hn, _, hc⟩ := h.row hrow hx
              simp only [List.length_cons, List.length_nil] at hle'
              obtain ⟨u, u', _, hu2, _⟩ := hc o (by omega)
              exact ⟨_, _, u', rfl, by rw [cell?_of hob]; exact hu2⟩
          · cases hs
        · cases hs
      obtain ⟨b, o, u, rfl, hc⟩ := hw
      obtain ⟨w', h1, h2, h3⟩ := store_one (P := P) h hs ha rfl hv hc
      refine out_eff (s0 := Xtn.impl .store #[.pointer (some ⟨b, o, none⟩), v']) rfl ?_ (VR.undef σ) h2 h3
      simp only [Xtn.impl, storeT_eq, asAddr_eq, Sem.run_bind, Sem.run_pure, Result.andThen_ok, h1]
      rfl
    · cases ho
  · rename_i k a j y
    obtain ⟨a', v', rfl, ha, hv⟩ := two rfl
    split at ho
    · rename_i i n hcell
      split at ho
      · rename_i m' hk hs
        obtain rfl := sameKind_eq hk
        cases ho
        obtain ⟨b, o, u, C, e, fz, rfl, hob, hc, hz, hu⟩ := cellA_sound h hcell ha
        obtain rfl := hu.simple_inv rfl
        obtain rfl := hv.simple_inv rfl
        obtain ⟨w', h1, h2, h3⟩ := store_one (P := P) h hs ha rfl (.refl (v := .int k (k.wrap (n + y))) rfl) hc
        refine out_eff (s0 := Xtn.impl (.add k) #[.pointer (some ⟨b, o, none⟩), .int j y]) rfl ?_ (.refl rfl) h2 h3
        simp only [Xtn.impl, update_eq, asAddr_eq, asInt_eq, Op.intArith, Sem.run_bind, Sem.run_pure, Result.andThen_ok, read_run hc, h1, if_true]
      · cases ho
    · cases ho
  · rename_i k a j y v
    obtain ⟨a', y', v', rfl, ha, hy, hv⟩ : ∃ a' y' v', args' = #[a', y', v'] ∧ VR σ (.pointer (some a)) a' ∧ VR σ (.int j y) y' ∧ VR σ v v' := by
      rcases args' with ⟨l⟩
      match l, hl with
      | [a', y', v'], hl => exact ⟨a', y', v', rfl, hl.head, hl.tail.head, hl.tail.tail.head⟩
      | [], hl => exact absurd hl.1 (by simp)
      | [_], hl => exact absurd hl.1 (by simp)
      | [_, _], hl => exact absurd hl.1 (by simp)
      | _ :: _ :: _ :: _ :: _, hl => exact absurd hl.1 (by simp)
    split at ho
    · rename_i i n hcell _
      split at ho
      · rename_i hk
        obtain rfl := sameKind_eq hk
        obtain ⟨b, o, u, C, e, fz, rfl, hob, hc, hz, hu⟩ := cellA_sound h hcell ha
        obtain rfl := hu.simple_inv rfl
        obtain rfl := hy.simple_inv rfl
        split at ho
        · rename_i hny
          split at ho
          · rename_i m' hs
            cases ho
            obtain ⟨w', h1, h2, h3⟩ := store_one (P := P) h hs ha rfl hv hc
            refine out_eff (s0 := Xtn.impl (.cas k) #[.pointer (some ⟨b, o, none⟩), .int j y, v']) rfl ?_ (.refl (v := .bool true) rfl) h2 h3
            simp only [Xtn.impl, casT_eq, asAddr_eq, Sem.run_bind, Sem.run_pure, Result.andThen_ok, read_run hc, touches_run hob hz, Bool.false_eq_true, if_false, hny, if_true, h1]
          · cases ho
        · rename_i hny
          cases ho
          refine out_val (s0 := Xtn.impl (.cas k) #[.pointer (some ⟨b, o, none⟩), .int j y, v']) rfl ?_ (.refl (v := .bool false) rfl)
          simp only [Xtn.impl, casT_eq, asAddr_eq, Sem.run_bind, Sem.run_pure, Result.andThen_ok, read_run hc, touches_run hob hz, Bool.false_eq_true, if_false, hny]
      · cases ho
    · cases ho
  · rename_i a b
    obtain ⟨a', b', rfl, ha, hb⟩ := two rfl
    obtain rfl := ha.simple_inv rfl
    obtain rfl := hb.simple_inv rfl
    cases ho
    exact out_val (s0 := Xtn.impl .cmps #[.string a, .string b]) rfl (Lib.run_compareString a b w) (.refl rfl)
  · rename_i q k
    cases ho
    exact out_val (s0 := Xtn.impl (.nop k) args') (v' := und) rfl rfl (VR.undef σ)
  · rename_i k a
    cases ho
    obtain ⟨a', rfl, ha⟩ : ∃ a', args' = #[a'] ∧ VR σ (.pointer (some a)) a' := by
      rcases args' with ⟨l⟩
      match l, hl with
      | [a'], hl => exact ⟨a', rfl, hl.head⟩
      | [], hl => exact absurd hl.1 (by simp)
      | _ :: _ :: _, hl => exact absurd hl.1 (by simp)
    cases ha with
    | refl h => simp [simple] at h
    | ptr hx => exact out_val (s0 := Xtn.impl (.markd k) _) (v' := und) rfl rfl (VR.undef σ)
  · cases ho
end Go.AE

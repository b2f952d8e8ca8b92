/- Operations: maps. -/
import Derived.Test.YtppdhckcempmnaaGreatDoorAEOps6
namespace Go.AE
open Go.RowKit
variable {E : Env} {P : Program} {w0 : World} {σ : Sg} {m : Mem} {w : World}
theorem basicT_run (hE : EOK E P) {t : TypeId} (h : basicT E t = true) (b : Bool) (n : Nat) (v : Value) (w : World) : (Instr.checkKey b (n + 1) t v).run P w = .ok () w := by
  unfold basicT at h
  split at h
  · rename_i ti hti
    obtain ⟨hu, _⟩ := hE.types t ti hti
    split at h
    · rename_i k hd; simp only [Instr.checkKey, Sem.run_bind, run_underlying hu, Result.andThen_ok, hd]; rfl
    · rename_i hd; simp only [Instr.checkKey, Sem.run_bind, run_underlying hu, Result.andThen_ok, hd]; rfl
    · rename_i hd; simp only [Instr.checkKey, Sem.run_bind, run_underlying hu, Result.andThen_ok, hd]; rfl
    · cases h
  · cases h
theorem keyOK_run (hE : EOK E P) {t : TypeId} {ti : TI} (hti : E.types.get t = some ti) {k k' : Value} (h : keyOK E ti.desc k = true) (hk : VR σ k k') (b : Bool) (n : Nat) (w : World) : (Instr.checkKey b (n + 2) t k').run P w = .ok () w := by
  obtain ⟨hu, _⟩ := hE.types t ti hti
  unfold keyOK at h
  split at h
  · rename_i hd; simp only [Instr.checkKey, Sem.run_bind, run_underlying hu, Result.andThen_ok, hd]; rfl
  · rename_i hd; simp only [Instr.checkKey, Sem.run_bind, run_underlying hu, Result.andThen_ok, hd]; rfl
  · rename_i fs cs hd
    obtain ⟨cs', rfl, hcs⟩ := hk.agg_inv
    have hb0 : ∀ {t : TypeId}, basicT E t = true → ∀ (v : Value) (w : World), (Instr.checkKey b (n + 1) t v).run P w = .ok () w := fun h v w => basicT_run hE h b n v w
    rw [Instr.checkKey]
    generalize Instr.checkKey b (n + 1) = g at hb0
    simp only [Sem.run_bind, run_underlying hu, Result.andThen_ok, hd]
    rw [← Array.forIn_toList]
    generalize fs.toList = l at h
    clear hd hk
    induction l with
    | nil => simp
    | cons f l ih =>
      simp only [keyFields] at h
      simp only [List.forIn_cons, Sem.run_bind, Sem.run_ite]
      split at h
      · rename_i hn
        rw [if_neg (by simpa using hn)]
        simpa using ih h
      · rename_i hn
        rw [if_pos (by simpa using hn)]
        split at h
        · rename_i v hb hp
          obtain ⟨v', hv1, hv2⟩ := partA_sound hE hp hcs w
          rw [hv1]
          simp only [Result.andThen_ok, hb0 hb]
          simpa using ih h
        · cases h
  · cases h
theorem sameNow_sound {d : TypeDesc} {a b a' b' : Value} {r : Bool} (h : sameNowA d a b = some r) (ha : VR σ a a') (hb : VR σ b b') : Instr.sameNow d a' b' = some r := by
  unfold sameNowA at h
  split at h
  · split at h
    · rename_i hk
      cases h
      obtain rfl := kcode_inj hk
      obtain rfl := ha.simple_inv rfl; obtain rfl := hb.simple_inv rfl
      simp [Instr.sameNow]
    · cases h
  · cases h
    obtain rfl := ha.simple_inv rfl; obtain rfl := hb.simple_inv rfl
    simp [Instr.sameNow, beq_toListBytes, toList_bytes]
  · cases h
def ERL (σ : Sg) (es : List MapEntry) (es' : List MapEntry) : Prop := es.length = es'.length ∧ ∀ (i : Nat) (a b : MapEntry), es[i]? = some a → es'[i]? = some b → a.born = b.born ∧ VR σ a.key b.key ∧ VR σ a.val b.val
theorem ERL.head {a b : MapEntry} {l l' : List MapEntry} (h : ERL σ (a :: l) (b :: l')) : a.born = b.born ∧ VR σ a.key b.key ∧ VR σ a.val b.val := h.2 0 a b rfl rfl
theorem ERL.tail {a b : MapEntry} {l l' : List MapEntry} (h : ERL σ (a :: l) (b :: l')) : ERL σ l l' := ⟨by simpa using h.1, fun i x y hx hy => h.2 (i + 1) x y (by simpa using hx) (by simpa using hy)⟩
theorem ERL.cons_inv {a : MapEntry} {l l' : List MapEntry} (h : ERL σ (a :: l) l') : ∃ b r, l' = b :: r := by
  cases l' with
  | nil => exact absurd h.1 (by simp)
  | cons b r => exact ⟨b, r, rfl⟩
theorem ERL.nil_inv {l' : List MapEntry} (h : ERL σ [] l') : l' = [] := List.eq_nil_of_length_eq_zero h.1.symm
theorem ERL.cons {a b : MapEntry} {l l' : List MapEntry} (h : a.born = b.born ∧ VR σ a.key b.key ∧ VR σ a.val b.val) (hl : ERL σ l l') : ERL σ (a :: l) (b :: l') :=
  ⟨by simp [hl.1], fun i x y hx hy => by
    cases i with
    | zero => cases hx; cases hy; exact h
    | succ i => exact hl.2 i x y (by simpa using hx) (by simpa using hy)⟩
theorem MR.mapObj (h : MR E w0 σ m w) {r : Nat} {es : List MapEntry} {clock : Nat} (hr : m.t.get r = some (.map es clock)) {x : Inf} (hx : σ r = some x) :
    ∃ es' : Array MapEntry, w.heap[x.b]? = some (.map es' clock) ∧ ERL σ es es'.toList := by
  obtain ⟨y, ob, hy, hB, hob, hor⟩ := h.obj r _ hr rfl
  obtain rfl : y = x := by rw [hx] at hy; exact (Option.some.inj hy).symm
  cases ob with
  | map es' c' =>
    obtain ⟨rfl, h2, h3⟩ := hor
    exact ⟨es', hob, by simpa using h2, fun i a b ha hb => h3 i a b ha (by simpa using hb)⟩
  | _ => exact hor.elim
/-- what is found -/
def FR (σ : Sg) : Option (Nat × Value) → Option (Nat × Value) → Prop
  | none, none => True
  | some (i, v), some (j, v') => i = j ∧ VR σ v v'
  | _, _ => False
theorem findNow_sound {t : TypeId} {d : TypeDesc} (hd : ∀ fs, d ≠ .struct fs) {k k' : Value} (hk : VR σ k k') : ∀ {es es' : List MapEntry} {i : Nat} {r : Option (Nat × Value)}, findA E t d k es i = some r → ERL σ es es' →
    ∃ r', Instr.findNow d k' es' i = some r' ∧ FR σ r r' := by
  intro es
  induction es with
  | nil =>
    intro es' i r h he
    obtain rfl := he.nil_inv
    simp [findA] at h; subst h
    exact ⟨none, rfl, trivial⟩
  | cons e es ih =>
    intro es' i r h he
    obtain ⟨e', es', rfl⟩ := he.cons_inv
    obtain ⟨_, hkk, hvv⟩ := he.head
    have hkq : keyEq E t d k e.key = sameNowA d k e.key := by
      unfold keyEq
      split
      · rename_i fs; exact absurd rfl (hd fs)
      · rfl
    simp only [findA, hkq] at h
    simp only [Instr.findNow]
    split at h
    · rename_i hs; cases h
      rw [sameNow_sound hs hk hkk]
      exact ⟨_, rfl, rfl, hvv⟩
    · rename_i hs
      rw [sameNow_sound hs hk hkk]
      exact ih h he.tail
    · cases h
theorem findAsk_sound (hE : EOK E P) {t : TypeId} {fs : Array Field} {k k' : Value} (hk : VR σ k k') : ∀ {es es' : List MapEntry} {i : Nat} {r : Option (Nat × Value)}, findA E t (.struct fs) k es i = some r → ERL σ es es' → ∀ w : World,
    ∃ r', (Instr.findAsking t k' es' i).run P w = .ok r' w ∧ FR σ r r' := by
  intro es
  induction es with
  | nil =>
    intro es' i r h he w
    obtain rfl := he.nil_inv
    simp [findA] at h; subst h
    exact ⟨none, rfl, trivial⟩
  | cons e es ih =>
    intro es' i r h he w
    obtain ⟨e', es', rfl⟩ := he.cons_inv
    obtain ⟨_, hkk, hvv⟩ := he.head
    simp only [findA, keyEq] at h
    simp only [Instr.findAsking, Sem.run_bind, Op.equal]
    split at h
    · rename_i hs; cases h
      rw [eqA_sound hE _ _ _ _ _ _ _ hs hk hkk Op.maxDepth (by decide) w]
      exact ⟨some (i, e'.val), by simp, rfl, hvv⟩
    · rename_i hs
      rw [eqA_sound hE _ _ _ _ _ _ _ hs hk hkk Op.maxDepth (by decide) w]
      obtain ⟨r', h1, h2⟩ := ih h he.tail w
      exact ⟨r', by simpa using h1, h2⟩
    · cases h
theorem findKey_sound (hE : EOK E P) {t : TypeId} {ti : TI} (hti : E.types.get t = some ti) {k k' : Value} (hk : VR σ k k') {es es' : List MapEntry} {r : Option (Nat × Value)} (h : findA E t ti.desc k es 0 = some r) (he : ERL σ es es') (w : World) :
    ∃ r', (Instr.findKey t k' es').run P w = .ok r' w ∧ FR σ r r' := by
  obtain ⟨hu, _⟩ := hE.types t ti hti
  by_cases hd : ∃ fs, ti.desc = .struct fs
  · obtain ⟨fs, hd⟩ := hd
    rw [hd] at h hu
    obtain ⟨r', h1, h2⟩ := findAsk_sound hE hk h he w
    unfold Instr.findKey
    simp only [Sem.run_bind, run_underlying hu, Result.andThen_ok]
    cases es' with
    | nil =>
      simp only [Instr.findNow, Sem.run_pure]
      simp only [Instr.findAsking, Sem.run_pure] at h1
      cases h1
      exact ⟨none, rfl, h2⟩
    | cons e es' =>
      have : Instr.findNow (.struct fs) k' (e :: es') 0 = none := by
        have h0 : Instr.sameNow (.struct fs) k' e.key = none := by
          cases k' <;> cases e.key <;> rfl
        simp [Instr.findNow, h0]
      rw [this]
      exact ⟨r', h1, h2⟩
  · obtain ⟨r', h1, h2⟩ := findNow_sound (fun fs e => hd ⟨fs, e⟩) hk h he
    refine ⟨r', ?_, h2⟩
    unfold Instr.findKey
    simp [run_underlying hu, h1]
theorem mapType_spec (hE : EOK E P) {t k : TypeId} {tk te : TI} (h : mapType E t = some (k, tk, te)) : ∃ e, P.underlying t = some (.map k e) ∧ E.types.get k = some tk ∧ E.types.get e = some te := by
  unfold mapType at h
  split at h
  · rename_i ti hti
    obtain ⟨hu, _⟩ := hE.types t ti hti
    split at h
    · rename_i k' e hd
      split at h
      · rename_i tk' te' h1 h2
        cases h
        exact ⟨e, by rw [hu, hd], h1, h2⟩
      · cases h
    · cases h
  · cases h
theorem zeroOf_sound (hE : EOK E P) {e : TypeId} {te : TI} (h : E.types.get e = some te) (w : World) : ∃ z, (zeroValue e).run P w = .ok z w ∧ VR σ (zeroOf te) z := by
  obtain ⟨hu, i, z, hi, hsz, hby, hz, hzc, hzl, hzs, hz1⟩ := hE.types e te h
  refine ⟨z, zeroValue_run hi hz w, ?_⟩
  cases hag : agg? te.desc with
  | false =>
    have h0 := hz1.1 hag
    have : zeroOf te = z := by
      unfold zeroOf
      rw [h0, hag]
    rw [this]
    exact .refl (hzs z (by rw [h0]; simp))
  | true =>
    have h0 := hz1.2 hag
    have : zeroOf te = .agg te.zero.toArray := by
      unfold zeroOf
      rw [hag]
    rw [h0, this]
    exact .agg_of (by simpa using VRL.simple hzs)
theorem run_getObj_map {w : World} {r : Nat} {es : Array MapEntry} {c : Nat} (h : w.heap[r]? = some (.map es c)) : (getObj r).run P w = .ok (.map es c) w := by
  simp [getObj, Sem.run, h]
theorem lookup_sound (hE : EOK E P) (h : MR E w0 σ m w) {t : TypeId} {x x' k k' v : Value} {ok : Bool} (ha : lookupA E t x k ok m = some v) (hx : VR σ x x') (hk : VR σ k k') : ∃ v', (Instr.lookup t x' k' ok).run P w = .ok v' w ∧ VR σ v v' := by
  unfold lookupA at ha
  split at ha
  · rename_i kt tk te hmt
    obtain ⟨e, hu, htk, hte⟩ := mapType_spec hE hmt
    split at ha
    · cases ha
    · rename_i hko
      obtain ⟨z, hz1, hz2⟩ := zeroOf_sound (σ := σ) hE hte w
      have hck : ∀ b, (Instr.checkKey b 10000 kt k').run P w = .ok () w := fun b => keyOK_run hE htk hko hk b 9998 w
      have tup : ∀ {a a' : Value} {b : Bool}, VR σ a a' → VR σ (.tuple #[a, .bool b]) (.tuple #[a', .bool b]) := fun ha => .tuple_of (VRL.cons ha (VRL.cons (.refl rfl) (VRL.nil σ)))
      split at ha
      · cases ha
        obtain rfl := hx.simple_inv rfl
        refine ⟨cond ok (.tuple #[z, .bool false]) z, ?_, by cases ok; exact hz2; exact tup hz2⟩
        have hf : (Instr.findKey kt k' []).run P w = .ok none w := by
          obtain ⟨r', h1, h2⟩ := findKey_sound (es := []) (es' := []) (r := none) hE htk hk rfl ⟨rfl, fun i a b ha => by simp at ha⟩ w
          cases r' with
          | none => exact h1
          | some _ => exact h2.elim
        simp only [Instr.lookup, Sem.run_bind, run_underlying hu, Result.andThen_ok, Sem.run_pure, hck, hf, hz1]
        cases ok <;> rfl
      · rename_i r
        split at ha
        · rename_i es clock hrow
          cases hx with
          | refl hs => simp [AE.simple] at hs
          | map hy =>
            obtain ⟨es', hob, her⟩ := h.mapObj hrow hy
            split at ha
            · rename_i i v0 hf
              cases ha
              obtain ⟨r', h1, h2⟩ := findKey_sound hE htk hk hf her w
              cases r' with
              | none => exact h2.elim
              | some q =>
                obtain ⟨j, v1⟩ := q
                obtain ⟨_, hv⟩ := h2
                refine ⟨cond ok (.tuple #[v1, .bool true]) v1, ?_, by cases ok; exact hv; exact tup hv⟩
                simp only [Instr.lookup, Sem.run_bind, run_underlying hu, Result.andThen_ok, run_getObj_map hob, Sem.run_pure, hck, h1]
                cases ok <;> rfl
            · rename_i hf
              cases ha
              obtain ⟨r', h1, h2⟩ := findKey_sound hE htk hk hf her w
              cases r' with
              | some _ => exact h2.elim
              | none =>
                refine ⟨cond ok (.tuple #[z, .bool false]) z, ?_, by cases ok; exact hz2; exact tup hz2⟩
                simp only [Instr.lookup, Sem.run_bind, run_underlying hu, Result.andThen_ok, run_getObj_map hob, Sem.run_pure, hck, h1, hz1]
                cases ok <;> rfl
            · cases ha
        · cases ha
      · cases ha
  · cases ha
end Go.AE

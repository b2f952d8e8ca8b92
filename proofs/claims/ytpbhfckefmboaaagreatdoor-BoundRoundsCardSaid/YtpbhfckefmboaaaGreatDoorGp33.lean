/- AEOps6, AEOps7: in one text. -/
import Derived.Laws.LoneSync
import Derived.Test.YtpbhfckefmboaaaGreatDoorGp32
import Derived.Laws.BytesArg
set_option linter.unusedVariables false
set_option linter.unusedSimpArgs false
set_option linter.unusedSectionVars false
namespace Go.AE
open Go.RowKit
variable {E : Env} {P : Program} {w0 : World} {σ : Sg} {m : Mem} {w : World}
theorem store_sound (hE : EOK E P) (h : MR E w0 σ m w) {t : TypeId} {a x a' x' : Value} {m' : Mem} (hs : storeA E t a x m = some m') (ha : VR σ a a') (hx : VR σ x x') :
    ∃ w', (Instr.storeAt t a' x').run P w = .ok () w' ∧ MR E w0 σ m' w' ∧ FG σ m w σ m' w' := by
  unfold storeA at hs
  split at hs
  · rename_i ad ti hti hnb
    obtain ⟨hu, i, z, hi, hsz, _⟩ := hE.types t ti hti
    split at hs
    · rename_i hb
      have hb' := Nat.eq_of_beq_eq_true hb
      have hnb' : x ≠ bad := by rintro rfl; simp [isBad, bad] at hnb
      have hcs := hx.cells hnb'
      cases ha with
      | refl h0 => simp [AE.simple] at h0
      | ptr hy =>
        rename_i j o y
        obtain ⟨a', w', ha', _, hrun, hm', hf'⟩ := storeL_sound (P := P) h hs (.ptr hy) hcs
        cases ha'
        refine ⟨w', ?_, hm', hf'⟩
        have hlen : x'.cells.size = i.size := by rw [hsz, ← hb', hcs.1]; simp
        simp [Instr.storeAt, Instr.sureAddr, storeVar, sizeOf_run hi, hlen, hrun]
    · cases hs
  · cases hs
theorem push_modify (a : Array Obj) (x : Obj) (f : Obj → Obj) : (a.push x).modify a.size f = a.push (f x) := by
  apply Array.ext
  · simp
  · intro i h1 h2
    simp only [Array.getElem_modify, Array.getElem_push]
    by_cases h : a.size = i
    · subst h
      simp
    · have hi : i < a.size := by simp at h1; omega
      simp [h, hi]
theorem freeze_alloc (w : World) (C : Array Value) (e : TypeId) (k : Nat) : (w.alloc (.cells C e)).freeze ⟨w.heap.size, k, none⟩ 1 = w.alloc (.cells C e (k, k + 1)) := by
  unfold World.freeze
  rw [if_neg (by decide)]
  show ({ w.alloc (.cells C e) with heap := (w.heap.push (.cells C e)).modify w.heap.size _ } : World) = _
  rw [push_modify]
  rfl
theorem heap_freeze (w : World) (a : Addr) (k : Nat) (h : k ≠ a.block) : (w.freeze a 1).heap[k]? = w.heap[k]? := by
  simp only [World.freeze]
  rw [if_neg (by decide)]
  simp only [Array.getElem?_modify]
  rw [if_neg (fun e => h e.symm)]
theorem heap_freeze_at {w : World} {b : Nat} {C : Array Value} {e : TypeId} {fz : Nat × Nat} (h : w.heap[b]? = some (.cells C e fz)) (k : Nat) :
    (w.freeze ⟨b, k, none⟩ 1).heap[b]? = some (.cells C e (if fz.1 == fz.2 then (k, k + 1) else (min fz.1 k, max fz.2 (k + 1)))) := by
  unfold World.freeze
  rw [if_neg (by decide)]
  simp [Array.getElem?_modify, h]
theorem freeze_os (w : World) (a : Addr) : (w.freeze a 1).os = w.os ∧ (w.freeze a 1).tape = w.tape ∧ (w.freeze a 1).output = w.output ∧ (w.freeze a 1).heap.size = w.heap.size := by
  unfold World.freeze
  rw [if_neg (by decide)]
  exact ⟨rfl, rfl, rfl, by simp⟩
theorem mapM_bytes {l : List Value} : ∀ {bs : List UInt8}, l.mapM (fun v => match v with | .int .u8 (.ofNat b) => some (UInt8.ofNat b) | _ => none) = some bs → ∀ {l' : List Value}, VRL σ l l' →
    ∃ ns : List Int, l' = ns.map (Value.int .u8) ∧ ns.map (fun n => UInt8.ofNat n.toNat) = bs := by
  induction l with
  | nil =>
    intro bs h l' hl
    simp at h; subst h
    have : l' = [] := List.eq_nil_of_length_eq_zero hl.1.symm
    subst this
    exact ⟨[], rfl, rfl⟩
  | cons v l ih =>
    intro bs h l' hl
    cases l' with
    | nil => exact absurd hl.1 (by simp)
    | cons v' l' =>
      simp only [List.mapM_cons, Option.bind_eq_bind, Option.bind_eq_some_iff, Option.pure_def, Option.some.injEq] at h
      obtain ⟨b, hb, r, hr, rfl⟩ := h
      split at hb
      · rename_i n
        cases hb
        obtain ⟨ns, rfl, hns⟩ := ih hr hl.tail
        obtain rfl := hl.head.simple_inv rfl
        exact ⟨Int.ofNat n :: ns, rfl, by simp [hns]⟩
      · cases hb
theorem convert_sound (hE : EOK E P) (h : MR E w0 σ m w) {src dst : TypeId} {x x' : Value} {out : Out} (ha : convertA E src dst x m = some out) (hx : VR σ x x') : OutOK E P w0 σ m w (do pure (.value (← convert src dst x'))) out := by
  unfold convertA at ha
  split at ha
  · rename_i ts td hts htd
    obtain ⟨hus, _⟩ := hE.types src ts hts
    obtain ⟨hud, _⟩ := hE.types dst td htd
    split at ha
    · rename_i k j n hd
      cases ha
      obtain rfl := hx.simple_inv rfl
      refine out_val rfl (v' := .int k (k.wrap n)) ?_ (.refl rfl)
      rw [hd] at hud
      unfold convert
      simp only [Sem.run_bind, run_underlying hus, run_underlying hud, Result.andThen_ok]
      cases ts.desc <;> rfl
    · rename_i s hd
      cases ha
      obtain rfl := hx.simple_inv rfl
      refine out_val rfl (v' := .string s) ?_ (.refl rfl)
      rw [hd] at hud
      unfold convert
      simp only [Sem.run_bind, run_underlying hus, run_underlying hud, Result.andThen_ok]
      cases ts.desc <;> rfl
    · rename_i e s hd
      split at ha
      · rename_i te hte
        obtain ⟨hue, i, z, hi, hsz, _⟩ := hE.types e te hte
        split at ha
        · rename_i hde hs1 hle
          have hle' := Nat.le_of_ble_eq_true hle
          cases ha
          obtain rfl := hx.simple_inv rfl
          rw [hd] at hud
          rw [hde] at hue
          have hss : s.size = s.data.toList.length := by cases s; rfl
          have hcap := grownCap_ge w s.size 0 e
          have hconv : (convert src dst (.string s)).run P w = (Conv.stringToBytes e s).run P w := by
            unfold convert
            simp only [Sem.run_bind, run_underlying hus, run_underlying hud, Result.andThen_ok]
            cases ts.desc <;> simp [run_underlying hue]
          have hrun : (Conv.stringToBytes e s).run P w = .ok (.slice (some ⟨w.heap.size, 0, none⟩) s.data.toList.length (grownCap w s.size 0 e))
              (w.drew.alloc (.cells ((s.data.toList.map fun b => Value.int .u8 b.toNat).toArray ++ (List.replicate (grownCap w s.size 0 e - s.size) (Value.int .u8 0)).toArray) e (grownCap w s.size 0 e, grownCap w s.size 0 e + 1))) := by
            have harr : (s.data.map fun b => Value.int .u8 b.toNat) ++ Array.replicate (grownCap w s.size 0 e - s.size) (Value.int .u8 0) = (s.data.toList.map fun b => Value.int .u8 b.toNat).toArray ++ (List.replicate (grownCap w s.size 0 e - s.size) (Value.int .u8 0)).toArray := by
              apply Array.ext'
              simp
            have hCs : ((s.data.toList.map fun b => Value.int .u8 b.toNat).toArray ++ (List.replicate (grownCap w s.size 0 e - s.size) (Value.int .u8 0)).toArray).size = grownCap w s.size 0 e := by
              simp only [List.append_toArray, List.size_toArray, List.length_append, List.length_map, List.length_replicate]
              omega
            generalize hC : (s.data.toList.map fun b => Value.int .u8 b.toNat).toArray ++ (List.replicate (grownCap w s.size 0 e - s.size) (Value.int .u8 0)).toArray = C at harr hCs
            have hsh : (w.drew.alloc (.cells C e)).shape? w.heap.size = some (e, C.size) := by
              have : (w.drew.alloc (.cells C e)).heap[w.heap.size]? = some (.cells C e) := by
                show (w.heap.push (.cells C e))[w.heap.size]? = _
                simp
              unfold World.shape?
              rw [this]
            have hfr := freeze_alloc w.drew C e C.size
            have hch : (Question.appendCap s.size 0 e).cut (w.tape w.drawn (.appendCap s.size 0 e)) = grownCap w s.size 0 e := rfl
            simp only [Conv.stringToBytes, Sem.run_bind, run_choose, Question.forced, Bool.false_eq_true, if_false, Result.andThen_ok, hch, harr, Go.newRow, run_newObj, Sem.run_pure, markStringish, run_shape, World.alloc_eq, World.drew_eq, World.size_drew]
            rw [hsh]
            simp only [run_freeze, Result.andThen_ok]
            rw [show (⟨w.heap.size, C.size, none⟩ : Addr) = ⟨w.drew.heap.size, C.size, none⟩ from rfl, hfr, hCs, hss]
          have hv : VRL σ (s.data.toList.map fun b => Value.int .u8 b.toNat) (s.data.toList.map fun b => Value.int .u8 b.toNat) := VRL.simple (fun v hv => by
            obtain ⟨b, _, rfl⟩ := List.mem_map.1 hv; rfl)
          have hor := OR.grown (E := E) hte hv w.drew.heap.size _ (rest := List.replicate (grownCap w s.size 0 e - s.size) (Value.int .u8 0)) rfl (grownCap w s.size 0 e, grownCap w s.size 0 e + 1) (.inr (by simp only [List.length_map, List.length_replicate]; omega))
          obtain ⟨hm', hf'⟩ := h.drew.new (id := m.n) (h.fresh m.n (Nat.le_refl _)) (n' := m.n + 1) (by omega) (by omega) (x := ⟨w.drew.heap.size, 0, _, te.size⟩) rfl hor
          have hf' := hf' (Nat.le_refl _)
          refine out_eff rfl (hconv.trans hrun) (.slice (x := ⟨w.drew.heap.size, 0, _, te.size⟩) (if_pos rfl) (fun hc => absurd hc (Nat.lt_irrefl _)) (fun _ => ⟨by omega, ?_⟩)) hm' ⟨hf'.ext, hf'.size, hf'.frame, hf'.grow, hf'.n, hf'.old⟩
          simp only [List.length_map, List.length_replicate, hs1]
          omega
        · cases ha
      · cases ha
    · rename_i e a n c hd
      split at ha
      · rename_i te cells k e' hte hbe hrow
        obtain rfl := Nat.eq_of_beq_eq_true hbe
        obtain ⟨hue, i, z, hi, hsz, _⟩ := hE.types e te hte
        split at ha
        · rename_i hde
          cases ha
          rw [hde] at hue
          rw [hd] at hud
          rcases hx.slice_inv with ⟨h1, _⟩ | ⟨j, o, y, c', h1, rfl, hy, hc1, hc2⟩
          · cases h1
          · cases h1
            obtain ⟨C, fz, hB, hob, hf, hN, hn, hti, hc⟩ := h.row hrow hy
            have hrun : (convert src src (.slice (some ⟨y.b, y.sh + o, none⟩) n c')).run P w = .ok (.slice (some ⟨y.b, y.sh + o, none⟩) n c') (w.freeze ⟨y.b, C.size, none⟩ 1) := by
              simp [convert, run_underlying hud, run_underlying hue, markStringish, World.shape?, hob]
            obtain ⟨f1, f2, f3, f4⟩ := freeze_os w ⟨y.b, C.size, none⟩
            have ht := h.turn (o := .row cells k e') (o' := .row cells k e') hrow rfl hy rfl (w' := w.freeze ⟨y.b, C.size, none⟩ 1) f4 (fun q hq => heap_freeze w _ q hq) f1 f2 f3 (heap_freeze_at hob C.size)
              ⟨rfl, by
                rcases hf with h2 | h2
                · rw [h2]; simp only [BEq.rfl, if_true]; exact .inr (Nat.le_refl _)
                · split
                  · exact .inr (Nat.le_refl _)
                  · exact .inr (by simp only; omega), hN, hn, hti, hc⟩
            have hm2 : MR E w0 σ m (w.freeze ⟨y.b, C.size, none⟩ 1) := by
              obtain ⟨t1, t2⟩ := ht
              have key : ∀ {q p}, m.t.get q = some p → (m.t.set j (.row cells k e')).get q = some p := by
                intro q p hq
                by_cases e : j = q
                · subst e; rw [T.get_set_same]; rw [hrow] at hq; exact hq
                · rw [T.get_set_ne _ _ e]; exact hq
              exact ⟨t1.below, fun q p hq hp => t1.obj q p (key hq) hp, h.inj, h.fresh⟩
            refine out_eff rfl hrun (.slice hy hc1 hc2) hm2 ⟨Ext.refl σ, by rw [f4]; exact Nat.le_refl _, fun b hb hl => heap_freeze w _ b (fun e => hl (e ▸ LiveB.of hrow rfl hy)), fun b hb => .inl hb, Nat.le_refl _, fun _ _ => rfl⟩
        · cases ha
      · cases ha
    · rename_i e a b hs hd
      split at ha
      · rename_i te hte
        obtain ⟨hue, _⟩ := hE.types e te hte
        split at ha
        · rename_i hde
          cases ha
          rw [hde] at hue; rw [hs] at hus; rw [hd] at hud
          obtain rfl := hx.simple_inv rfl
          exact out_val rfl (run_convert_bytes_nil w src e hus hue a b dst hud) (.refl rfl)
        · cases ha
      · cases ha
    · rename_i e a n c hs hd
      split at ha
      · rename_i te cells k e' hte hrow
        obtain ⟨hue, _⟩ := hE.types e te hte
        split at ha
        · rename_i hde hle
          have hle' := Nat.le_of_ble_eq_true hle
          split at ha
          · rename_i l hl
            split at ha
            · rename_i bs hbs
              cases ha
              rw [hde] at hue; rw [hs] at hus; rw [hd] at hud
              rcases hx.slice_inv with ⟨h1, _⟩ | ⟨j, o, y, c', h1, rfl, hy, hc1, hc2⟩
              · cases h1
              · cases h1
                obtain ⟨l', hrun, hv, hlen⟩ := run_cells (P := P) h hrow hy hle' hl
                obtain ⟨ns, rfl, hns⟩ := mapM_bytes hbs hv
                have h1 := run_bytesToString (P := P) w ⟨y.b, y.sh + o, none⟩ n c' ns hrun
                rw [foldl_push_bytes] at h1
                refine out_val rfl (v' := .string ⟨bs.toArray⟩) ?_ (.refl rfl)
                rw [run_convert_bytes_string w src dst e _ _ _ hus hue hud, h1, hns]
                simp [ByteArray.empty, ByteArray.emptyWithCapacity]
                rfl
            · cases ha
          · cases ha
        · cases ha
      · cases ha
    · rename_i e a hs hd
      split at ha
      · rename_i te cells n e' hte hrow
        split at ha
        · rename_i q hq hle
          have hle' := Nat.le_of_ble_eq_true hle
          cases ha
          obtain ⟨_, i, z, hi, hsz, _⟩ := hE.types e te hte
          rw [hs] at hus; rw [hd] at hud
          cases hx with
          | refl hs' => simp [simple] at hs'
          | ptr hy =>
            rename_i j o y
            obtain ⟨C, fz, hB, hob, hf, hN, hn, _, hc⟩ := h.row hrow hy
            simp only at hle'
            obtain ⟨u, u', hu1, hu2, hr⟩ := hc o (by omega)
            refine out_val rfl (run_convert_to_unsafe (t := e) hus hud ?_ ((cell?_of hob).trans hu2)) (.ptr hy)
            rw [hi]
            simp only [Option.map_some, hsz, hq]
            rfl
        · cases ha
      · cases ha
    · cases ha
  · cases ha
end Go.AE
namespace Go.AE
open Go.RowKit
variable {E : Env} {P : Program} {w0 : World} {σ : Sg} {m : Mem} {w : World}
theorem basicT_run (hE : EOK E P) {t : TypeId} (h : basicT E t = true) (b : Bool) (n : Nat) (v : Value) (w : World) : (Instr.checkKey b (n + 1) t v).run P w = .ok () w := by
  unfold basicT at h
  split at h
  · rename_i ti hti
    obtain ⟨hu, _⟩ := hE.types t ti hti
    split at h
    · rename_i k hd; simp only [Instr.checkKey, Sem.run_bind, run_underlying hu, Result.andThen_ok, hd]; rfl
    · rename_i hd; simp only [Instr.checkKey, Sem.run_bind, run_underlying hu, Result.andThen_ok, hd]; rfl
    · rename_i hd; simp only [Instr.checkKey, Sem.run_bind, run_underlying hu, Result.andThen_ok, hd]; rfl
    · cases h
  · cases h
theorem keyOK_run (hE : EOK E P) {t : TypeId} {ti : TI} (hti : E.types.get t = some ti) {k k' : Value} (h : keyOK E ti.desc k = true) (hk : VR σ k k') (b : Bool) (n : Nat) (w : World) : (Instr.checkKey b (n + 2) t k').run P w = .ok () w := by
  obtain ⟨hu, _⟩ := hE.types t ti hti
  unfold keyOK at h
  split at h
  · rename_i hd; simp only [Instr.checkKey, Sem.run_bind, run_underlying hu, Result.andThen_ok, hd]; rfl
  · rename_i hd; simp only [Instr.checkKey, Sem.run_bind, run_underlying hu, Result.andThen_ok, hd]; rfl
  · rename_i fs cs hd
    obtain ⟨cs', rfl, hcs⟩ := hk.agg_inv
    have hb0 : ∀ {t : TypeId}, basicT E t = true → ∀ (v : Value) (w : World), (Instr.checkKey b (n + 1) t v).run P w = .ok () w := fun h v w => basicT_run hE h b n v w
    rw [Instr.checkKey]
    generalize Instr.checkKey b (n + 1) = g at hb0
    simp only [Sem.run_bind, run_underlying hu, Result.andThen_ok, hd]
    rw [← Array.forIn_toList]
    generalize fs.toList = l at h
    clear hd hk
    induction l with
    | nil => simp
    | cons f l ih =>
      simp only [keyFields] at h
      simp only [List.forIn_cons, Sem.run_bind, Sem.run_ite]
      split at h
      · rename_i hn
        rw [if_neg (by simpa using hn)]
        simpa using ih h
      · rename_i hn
        rw [if_pos (by simpa using hn)]
        split at h
        · rename_i v hb hp
          obtain ⟨v', hv1, hv2⟩ := partA_sound hE hp hcs w
          rw [hv1]
          simp only [Result.andThen_ok, hb0 hb]
          simpa using ih h
        · cases h
  · cases h
theorem sameNow_sound {d : TypeDesc} {a b a' b' : Value} {r : Bool} (h : sameNowA d a b = some r) (ha : VR σ a a') (hb : VR σ b b') : Instr.sameNow d a' b' = some r := by
  unfold sameNowA at h
  split at h
  · split at h
    · rename_i hk
      cases h
      obtain rfl := kcode_inj hk
      obtain rfl := ha.simple_inv rfl; obtain rfl := hb.simple_inv rfl
      simp [Instr.sameNow]
    · cases h
  · cases h
    obtain rfl := ha.simple_inv rfl; obtain rfl := hb.simple_inv rfl
    simp [Instr.sameNow, beq_toListBytes, toList_bytes]
  · cases h
def ERL (σ : Sg) (es : List MapEntry) (es' : List MapEntry) : Prop := es.length = es'.length ∧ ∀ (i : Nat) (a b : MapEntry), es[i]? = some a → es'[i]? = some b → a.born = b.born ∧ VR σ a.key b.key ∧ VR σ a.val b.val
theorem ERL.head {a b : MapEntry} {l l' : List MapEntry} (h : ERL σ (a :: l) (b :: l')) : a.born = b.born ∧ VR σ a.key b.key ∧ VR σ a.val b.val := h.2 0 a b rfl rfl
theorem ERL.tail {a b : MapEntry} {l l' : List MapEntry} (h : ERL σ (a :: l) (b :: l')) : ERL σ l l' := ⟨by simpa using h.1, fun i x y hx hy => h.2 (i + 1) x y (by simpa using hx) (by simpa using hy)⟩
theorem ERL.cons_inv {a : MapEntry} {l l' : List MapEntry} (h : ERL σ (a :: l) l') : ∃ b r, l' = b :: r := by
  cases l' with
  | nil => exact absurd h.1 (by simp)
  | cons b r => exact ⟨b, r, rfl⟩
theorem ERL.nil_inv {l' : List MapEntry} (h : ERL σ [] l') : l' = [] := List.eq_nil_of_length_eq_zero h.1.symm
theorem ERL.cons {a b : MapEntry} {l l' : List MapEntry} (h : a.born = b.born ∧ VR σ a.key b.key ∧ VR σ a.val b.val) (hl : ERL σ l l') : ERL σ (a :: l) (b :: l') :=
  ⟨by simp [hl.1], fun i x y hx hy => by
    cases i with
    | zero => cases hx; cases hy; exact h
    | succ i => exact hl.2 i x y (by simpa using hx) (by simpa using hy)⟩
theorem MR.mapObj (h : MR E w0 σ m w) {r : Nat} {es : List MapEntry} {clock : Nat} (hr : m.t.get r = some (.map es clock)) {x : Inf} (hx : σ r = some x) :
    ∃ es' : Array MapEntry, w.heap[x.b]? = some (.map es' clock) ∧ ERL σ es es'.toList := by
  obtain ⟨y, ob, hy, hB, hob, hor⟩ := h.obj r _ hr rfl
  obtain rfl : y = x := by rw [hx] at hy; exact (Option.some.inj hy).symm
  cases ob with
  | map es' c' =>
    obtain ⟨rfl, h2, h3⟩ := hor
    exact ⟨es', hob, by simpa using h2, fun i a b ha hb => h3 i a b ha (by simpa using hb)⟩
  | _ => exact hor.elim
/-- what is found -/
def FR (σ : Sg) : Option (Nat × Value) → Option (Nat × Value) → Prop
  | none, none => True
  | some (i, v), some (j, v') => i = j ∧ VR σ v v'
  | _, _ => False
theorem findNow_sound {t : TypeId} {d : TypeDesc} (hd : ∀ fs, d ≠ .struct fs) {k k' : Value} (hk : VR σ k k') : ∀ {es es' : List MapEntry} {i : Nat} {r : Option (Nat × Value)}, findA E t d k es i = some r → ERL σ es es' →
    ∃ r', Instr.findNow d k' es' i = some r' ∧ FR σ r r' := by
  intro es
  induction es with
  | nil =>
    intro es' i r h he
    obtain rfl := he.nil_inv
    simp [findA] at h; subst h
    exact ⟨none, rfl, trivial⟩
  | cons e es ih =>
    intro es' i r h he
    obtain ⟨e', es', rfl⟩ := he.cons_inv
    obtain ⟨_, hkk, hvv⟩ := he.head
    have hkq : keyEq E t d k e.key = sameNowA d k e.key := by
      unfold keyEq
      split
      · rename_i fs; exact absurd rfl (hd fs)
      · rfl
    simp only [findA, hkq] at h
    simp only [Instr.findNow]
    split at h
    · rename_i hs; cases h
      rw [sameNow_sound hs hk hkk]
      exact ⟨_, rfl, rfl, hvv⟩
    · rename_i hs
      rw [sameNow_sound hs hk hkk]
      exact ih h he.tail
    · cases h
theorem findAsk_sound (hE : EOK E P) {t : TypeId} {fs : Array Field} {k k' : Value} (hk : VR σ k k') : ∀ {es es' : List MapEntry} {i : Nat} {r : Option (Nat × Value)}, findA E t (.struct fs) k es i = some r → ERL σ es es' → ∀ w : World,
    ∃ r', (Instr.findAsking t k' es' i).run P w = .ok r' w ∧ FR σ r r' := by
  intro es
  induction es with
  | nil =>
    intro es' i r h he w
    obtain rfl := he.nil_inv
    simp [findA] at h; subst h
    exact ⟨none, rfl, trivial⟩
  | cons e es ih =>
    intro es' i r h he w
    obtain ⟨e', es', rfl⟩ := he.cons_inv
    obtain ⟨_, hkk, hvv⟩ := he.head
    simp only [findA, keyEq] at h
    simp only [Instr.findAsking, Sem.run_bind, Op.equal]
    split at h
    · rename_i hs; cases h
      rw [eqA_sound hE _ _ _ _ _ _ _ hs hk hkk Op.maxDepth (by decide) w]
      exact ⟨some (i, e'.val), by simp, rfl, hvv⟩
    · rename_i hs
      rw [eqA_sound hE _ _ _ _ _ _ _ hs hk hkk Op.maxDepth (by decide) w]
      obtain ⟨r', h1, h2⟩ := ih h he.tail w
      exact ⟨r', by simpa using h1, h2⟩
    · cases h
theorem findKey_sound (hE : EOK E P) {t : TypeId} {ti : TI} (hti : E.types.get t = some ti) {k k' : Value} (hk : VR σ k k') {es es' : List MapEntry} {r : Option (Nat × Value)} (h : findA E t ti.desc k es 0 = some r) (he : ERL σ es es') (w : World) :
    ∃ r', (Instr.findKey t k' es').run P w = .ok r' w ∧ FR σ r r' := by
  obtain ⟨hu, _⟩ := hE.types t ti hti
  by_cases hd : ∃ fs, ti.desc = .struct fs
  · obtain ⟨fs, hd⟩ := hd
    rw [hd] at h hu
    obtain ⟨r', h1, h2⟩ := findAsk_sound hE hk h he w
    unfold Instr.findKey
    simp only [Sem.run_bind, run_underlying hu, Result.andThen_ok]
    cases es' with
    | nil =>
      simp only [Instr.findNow, Sem.run_pure]
      simp only [Instr.findAsking, Sem.run_pure] at h1
      cases h1
      exact ⟨none, rfl, h2⟩
    | cons e es' =>
      have : Instr.findNow (.struct fs) k' (e :: es') 0 = none := by
        have h0 : Instr.sameNow (.struct fs) k' e.key = none := by
          cases k' <;> cases e.key <;> rfl
        simp [Instr.findNow, h0]
      rw [this]
      exact ⟨r', h1, h2⟩
  · obtain ⟨r', h1, h2⟩ := findNow_sound (fun fs e => hd ⟨fs, e⟩) hk h he
    refine ⟨r', ?_, h2⟩
    unfold Instr.findKey
    simp [run_underlying hu, h1]
theorem mapType_spec (hE : EOK E P) {t k : TypeId} {tk te : TI} (h : mapType E t = some (k, tk, te)) : ∃ e, P.underlying t = some (.map k e) ∧ E.types.get k = some tk ∧ E.types.get e = some te := by
  unfold mapType at h
  split at h
  · rename_i ti hti
    obtain ⟨hu, _⟩ := hE.types t ti hti
    split at h
    · rename_i k' e hd
      split at h
      · rename_i tk' te' h1 h2
        cases h
        exact ⟨e, by rw [hu, hd], h1, h2⟩
      · cases h
    · cases h
  · cases h
theorem zeroOf_sound (hE : EOK E P) {e : TypeId} {te : TI} (h : E.types.get e = some te) (w : World) : ∃ z, (zeroValue e).run P w = .ok z w ∧ VR σ (zeroOf te) z := by
  obtain ⟨hu, i, z, hi, hsz, hby, hz, hzc, hzl, hzs, hz1⟩ := hE.types e te h
  refine ⟨z, zeroValue_run hi hz w, ?_⟩
  cases hag : agg? te.desc with
  | false =>
    have h0 := hz1.1 hag
    have : zeroOf te = z := by
      unfold zeroOf
      rw [h0, hag]
    rw [this]
    exact .refl (hzs z (by rw [h0]; simp))
  | true =>
    have h0 := hz1.2 hag
    have : zeroOf te = .agg te.zero.toArray := by
      unfold zeroOf
      rw [hag]
    rw [h0, this]
    exact .agg_of (by simpa using VRL.simple hzs)
theorem run_getObj_map {w : World} {r : Nat} {es : Array MapEntry} {c : Nat} (h : w.heap[r]? = some (.map es c)) : (getObj r).run P w = .ok (.map es c) w := by
  simp [getObj, Sem.run, h]
theorem lookup_sound (hE : EOK E P) (h : MR E w0 σ m w) {t : TypeId} {x x' k k' v : Value} {ok : Bool} (ha : lookupA E t x k ok m = some v) (hx : VR σ x x') (hk : VR σ k k') : ∃ v', (Instr.lookup t x' k' ok).run P w = .ok v' w ∧ VR σ v v' := by
  unfold lookupA at ha
  split at ha
  · rename_i kt tk te hmt
    obtain ⟨e, hu, htk, hte⟩ := mapType_spec hE hmt
    split at ha
    · cases ha
    · rename_i hko
      obtain ⟨z, hz1, hz2⟩ := zeroOf_sound (σ := σ) hE hte w
      have hck : ∀ b, (Instr.checkKey b 10000 kt k').run P w = .ok () w := fun b => keyOK_run hE htk hko hk b 9998 w
      have tup : ∀ {a a' : Value} {b : Bool}, VR σ a a' → VR σ (.tuple #[a, .bool b]) (.tuple #[a', .bool b]) := fun ha => .tuple_of (VRL.cons ha (VRL.cons (.refl rfl) (VRL.nil σ)))
      split at ha
      · cases ha
        obtain rfl := hx.simple_inv rfl
        refine ⟨cond ok (.tuple #[z, .bool false]) z, ?_, by cases ok; exact hz2; exact tup hz2⟩
        have hf : (Instr.findKey kt k' []).run P w = .ok none w := by
          obtain ⟨r', h1, h2⟩ := findKey_sound (es := []) (es' := []) (r := none) hE htk hk rfl ⟨rfl, fun i a b ha => by simp at ha⟩ w
          cases r' with
          | none => exact h1
          | some _ => exact h2.elim
        simp only [Instr.lookup, Sem.run_bind, run_underlying hu, Result.andThen_ok, Sem.run_pure, hck, hf, hz1]
        cases ok <;> rfl
      · rename_i r
        split at ha
        · rename_i es clock hrow
          cases hx with
          | refl hs => simp [AE.simple] at hs
          | map hy =>
            obtain ⟨es', hob, her⟩ := h.mapObj hrow hy
            split at ha
            · rename_i i v0 hf
              cases ha
              obtain ⟨r', h1, h2⟩ := findKey_sound hE htk hk hf her w
              cases r' with
              | none => exact h2.elim
              | some q =>
                obtain ⟨j, v1⟩ := q
                obtain ⟨_, hv⟩ := h2
                refine ⟨cond ok (.tuple #[v1, .bool true]) v1, ?_, by cases ok; exact hv; exact tup hv⟩
                simp only [Instr.lookup, Sem.run_bind, run_underlying hu, Result.andThen_ok, run_getObj_map hob, Sem.run_pure, hck, h1]
                cases ok <;> rfl
            · rename_i hf
              cases ha
              obtain ⟨r', h1, h2⟩ := findKey_sound hE htk hk hf her w
              cases r' with
              | some _ => exact h2.elim
              | none =>
                refine ⟨cond ok (.tuple #[z, .bool false]) z, ?_, by cases ok; exact hz2; exact tup hz2⟩
                simp only [Instr.lookup, Sem.run_bind, run_underlying hu, Result.andThen_ok, run_getObj_map hob, Sem.run_pure, hck, h1, hz1]
                cases ok <;> rfl
            · cases ha
        · cases ha
      · cases ha
  · cases ha
end Go.AE

/- Operations: conversions, maps, lengths, calls; and all of them together. -/
import Derived.Laws.LoneSync
import Derived.Test.YtppdhckcempmnaaGreatDoorAEOps5
import Derived.Laws.BytesArg
namespace Go.AE
open Go.RowKit
variable {E : Env} {P : Program} {w0 : World} {σ : Sg} {m : Mem} {w : World}
theorem store_sound (hE : EOK E P) (h : MR E w0 σ m w) {t : TypeId} {a x a' x' : Value} {m' : Mem} (hs : storeA E t a x m = some m') (ha : VR σ a a') (hx : VR σ x x') :
    ∃ w', (Instr.storeAt t a' x').run P w = .ok () w' ∧ MR E w0 σ m' w' ∧ FG σ m w σ m' w' := by
  unfold storeA at hs
  split at hs
  · rename_i ad ti hti hnb
    obtain ⟨hu, i, z, hi, hsz, _⟩ := hE.types t ti hti
    split at hs
    · rename_i hb
      have hb' := Nat.eq_of_beq_eq_true hb
      have hnb' : x ≠ bad := by rintro rfl; simp [isBad, bad] at hnb
      have hcs := hx.cells hnb'
      cases ha with
      | refl h0 => simp [AE.simple] at h0
      | ptr hy =>
        rename_i j o y
        obtain ⟨a', w', ha', _, hrun, hm', hf'⟩ := storeL_sound (P := P) h hs (.ptr hy) hcs
        cases ha'
        refine ⟨w', ?_, hm', hf'⟩
        have hlen : x'.cells.size = i.size := by rw [hsz, ← hb', hcs.1]; simp
        simp [Instr.storeAt, Instr.sureAddr, storeVar, sizeOf_run hi, hlen, hrun]
    · cases hs
  · cases hs
theorem push_modify (a : Array Obj) (x : Obj) (f : Obj → Obj) : (a.push x).modify a.size f = a.push (f x) := by
  apply Array.ext
  · simp
  · intro i h1 h2
    simp only [Array.getElem_modify, Array.getElem_push]
    by_cases h : a.size = i
    · subst h
      simp
    · have hi : i < a.size := by simp at h1; omega
      simp [h, hi]
theorem freeze_alloc (w : World) (C : Array Value) (e : TypeId) (k : Nat) : (w.alloc (.cells C e)).freeze ⟨w.heap.size, k, none⟩ 1 = w.alloc (.cells C e (k, k + 1)) := by
  unfold World.freeze
  rw [if_neg (by decide)]
  show ({ w.alloc (.cells C e) with heap := (w.heap.push (.cells C e)).modify w.heap.size _ } : World) = _
  rw [push_modify]
  rfl
theorem heap_freeze (w : World) (a : Addr) (k : Nat) (h : k ≠ a.block) : (w.freeze a 1).heap[k]? = w.heap[k]? := by
  simp only [World.freeze]
  rw [if_neg (by decide)]
  simp only [Array.getElem?_modify]
  rw [if_neg (fun e => h e.symm)]
theorem heap_freeze_at {w : World} {b : Nat} {C : Array Value} {e : TypeId} {fz : Nat × Nat} (h : w.heap[b]? = some (.cells C e fz)) (k : Nat) :
    (w.freeze ⟨b, k, none⟩ 1).heap[b]? = some (.cells C e (if fz.1 == fz.2 then (k, k + 1) else (min fz.1 k, max fz.2 (k + 1)))) := by
  unfold World.freeze
  rw [if_neg (by decide)]
  simp [Array.getElem?_modify, h]
theorem freeze_os (w : World) (a : Addr) : (w.freeze a 1).os = w.os ∧ (w.freeze a 1).tape = w.tape ∧ (w.freeze a 1).output = w.output ∧ (w.freeze a 1).heap.size = w.heap.size := by
  unfold World.freeze
  rw [if_neg (by decide)]
  exact ⟨rfl, rfl, rfl, by simp⟩
theorem mapM_bytes {l : List Value} : ∀ {bs : List UInt8}, l.mapM (fun v => match v with | .int .u8 (.ofNat b) => some (UInt8.ofNat b) | _ => none) = some bs → ∀ {l' : List Value}, VRL σ l l' →
    ∃ ns : List Int, l' = ns.map (Value.int .u8) ∧ ns.map (fun n => UInt8.ofNat n.toNat) = bs := by
  induction l with
  | nil =>
    intro bs h l' hl
    simp at h; subst h
    have : l' = [] := List.eq_nil_of_length_eq_zero hl.1.symm
    subst this
    exact ⟨[], rfl, rfl⟩
  | cons v l ih =>
    intro bs h l' hl
    cases l' with
    | nil => exact absurd hl.1 (by simp)
    | cons v' l' =>
      simp only [List.mapM_cons, Option.bind_eq_bind, Option.bind_eq_some_iff, Option.pure_def, Option.some.injEq] at h
      obtain ⟨b, hb, r, hr, rfl⟩ := h
      split at hb
      · rename_i n
        cases hb
        obtain ⟨ns, rfl, hns⟩ := ih hr hl.tail
        obtain rfl := hl.head.simple_inv rfl
        exact ⟨Int.ofNat n :: ns, rfl, by simp [hns]⟩
      · cases hb
theorem convert_sound (hE : EOK E P) (h : MR E w0 σ m w) {src dst : TypeId} {x x' : Value} {out : Out} (ha : convertA E src dst x m = some out) (hx : VR σ x x') : OutOK E P w0 σ m w (do pure (.value (← convert src dst x'))) out := by
  unfold convertA at ha
  split at ha
  · rename_i ts td hts htd
    obtain ⟨hus, _⟩ := hE.types src ts hts
    obtain ⟨hud, _⟩ := hE.types dst td htd
    split at ha
    · rename_i k j n hd
      cases ha
      obtain rfl := hx.simple_inv rfl
      refine out_val rfl (v' := .int k (k.wrap n)) ?_ (.refl rfl)
      rw [hd] at hud
      unfold convert
      simp only [Sem.run_bind, run_underlying hus, run_underlying hud, Result.andThen_ok]
      cases ts.desc <;> rfl
    · rename_i s hd
      cases ha
      obtain rfl := hx.simple_inv rfl
      refine out_val rfl (v' := .string s) ?_ (.refl rfl)
      rw [hd] at hud
      unfold convert
      simp only [Sem.run_bind, run_underlying hus, run_underlying hud, Result.andThen_ok]
      cases ts.desc <;> rfl
    · rename_i e s hd
      split at ha
      · rename_i te hte
        obtain ⟨hue, i, z, hi, hsz, _⟩ := hE.types e te hte
        split at ha
        · rename_i hde hs1 hle
          have hle' := Nat.le_of_ble_eq_true hle
          cases ha
          obtain rfl := hx.simple_inv rfl
          rw [hd] at hud
          rw [hde] at hue
          have hss : s.size = s.data.toList.length := by cases s; rfl
          have hcap := grownCap_ge w s.size 0 e
          have hconv : (convert src dst (.string s)).run P w = (Conv.stringToBytes e s).run P w := by
            unfold convert
            simp only [Sem.run_bind, run_underlying hus, run_underlying hud, Result.andThen_ok]
            cases ts.desc <;> simp [run_underlying hue]
          have hrun : (Conv.stringToBytes e s).run P w = .ok (.slice (some ⟨w.heap.size, 0, none⟩) s.data.toList.length (grownCap w s.size 0 e))
              (w.drew.alloc (.cells ((s.data.toList.map fun b => Value.int .u8 b.toNat).toArray ++ (List.replicate (grownCap w s.size 0 e - s.size) (Value.int .u8 0)).toArray) e (grownCap w s.size 0 e, grownCap w s.size 0 e + 1))) := by
            have harr : (s.data.map fun b => Value.int .u8 b.toNat) ++ Array.replicate (grownCap w s.size 0 e - s.size) (Value.int .u8 0) = (s.data.toList.map fun b => Value.int .u8 b.toNat).toArray ++ (List.replicate (grownCap w s.size 0 e - s.size) (Value.int .u8 0)).toArray := by
              apply Array.ext'
              simp
            have hCs : ((s.data.toList.map fun b => Value.int .u8 b.toNat).toArray ++ (List.replicate (grownCap w s.size 0 e - s.size) (Value.int .u8 0)).toArray).size = grownCap w s.size 0 e := by
              simp only [List.append_toArray, List.size_toArray, List.length_append, List.length_map, List.length_replicate]
              omega
            generalize hC : (s.data.toList.map fun b => Value.int .u8 b.toNat).toArray ++ (List.replicate (grownCap w s.size 0 e - s.size) (Value.int .u8 0)).toArray = C at harr hCs
            have hsh : (w.drew.alloc (.cells C e)).shape? w.heap.size = some (e, C.size) := by
              have : (w.drew.alloc (.cells C e)).heap[w.heap.size]? = some (.cells C e) := by
                show (w.heap.push (.cells C e))[w.heap.size]? = _
                simp
              unfold World.shape?
              rw [this]
            have hfr := freeze_alloc w.drew C e C.size
            have hch : (Question.appendCap s.size 0 e).cut (w.tape w.drawn (.appendCap s.size 0 e)) = grownCap w s.size 0 e := rfl
            simp only [Conv.stringToBytes, Sem.run_bind, run_choose, Question.forced, Bool.false_eq_true, if_false, Result.andThen_ok, hch, harr, Go.newRow, run_newObj, Sem.run_pure, markStringish, run_shape, World.alloc_eq, World.drew_eq, World.size_drew]
            rw [hsh]
            simp only [run_freeze, Result.andThen_ok]
            rw [show (⟨w.heap.size, C.size, none⟩ : Addr) = ⟨w.drew.heap.size, C.size, none⟩ from rfl, hfr, hCs, hss]
          have hv : VRL σ (s.data.toList.map fun b => Value.int .u8 b.toNat) (s.data.toList.map fun b => Value.int .u8 b.toNat) := VRL.simple (fun v hv => by
            obtain ⟨b, _, rfl⟩ := List.mem_map.1 hv; rfl)
          have hor := OR.grown (E := E) hte hv w.drew.heap.size _ (rest := List.replicate (grownCap w s.size 0 e - s.size) (Value.int .u8 0)) rfl (grownCap w s.size 0 e, grownCap w s.size 0 e + 1) (.inr (by simp only [List.length_map, List.length_replicate]; omega))
          obtain ⟨hm', hf'⟩ := h.drew.new (id := m.n) (h.fresh m.n (Nat.le_refl _)) (n' := m.n + 1) (by omega) (by omega) (x := ⟨w.drew.heap.size, 0, _, te.size⟩) rfl hor
          have hf' := hf' (Nat.le_refl _)
          refine out_eff rfl (hconv.trans hrun) (.slice (x := ⟨w.drew.heap.size, 0, _, te.size⟩) (if_pos rfl) (fun hc => absurd hc (Nat.lt_irrefl _)) (fun _ => ⟨by omega, ?_⟩)) hm' ⟨hf'.ext, hf'.size, hf'.frame, hf'.grow, hf'.n, hf'.old⟩
          simp only [List.length_map, List.length_replicate, hs1]
          omega
        · cases ha
      · cases ha
    · rename_i e a n c hd
      split at ha
      · rename_i te cells k e' hte hbe hrow
        obtain rfl := Nat.eq_of_beq_eq_true hbe
        obtain ⟨hue, i, z, hi, hsz, _⟩ := hE.types e te hte
        split at ha
        · rename_i hde
          cases ha
          rw [hde] at hue
          rw [hd] at hud
          rcases hx.slice_inv with ⟨h1, _⟩ | ⟨j, o, y, c', h1, rfl, hy, hc1, hc2⟩
          · cases h1
          · cases h1
            obtain ⟨C, fz, hB, hob, hf, hN, hn, hti, hc⟩ := h.row hrow hy
            have hrun : (convert src src (.slice (some ⟨y.b, y.sh + o, none⟩) n c')).run P w = .ok (.slice (some ⟨y.b, y.sh + o, none⟩) n c') (w.freeze ⟨y.b, C.size, none⟩ 1) := by
              simp [convert, run_underlying hud, run_underlying hue, markStringish, World.shape?, hob]
            obtain ⟨f1, f2, f3, f4⟩ := freeze_os w ⟨y.b, C.size, none⟩
            have ht := h.turn (o := .row cells k e') (o' := .row cells k e') hrow rfl hy rfl (w' := w.freeze ⟨y.b, C.size, none⟩ 1) f4 (fun q hq => heap_freeze w _ q hq) f1 f2 f3 (heap_freeze_at hob C.size)
              ⟨rfl, by
                rcases hf with h2 | h2
                · rw [h2]; simp only [BEq.rfl, if_true]; exact .inr (Nat.le_refl _)
                · split
                  · exact .inr (Nat.le_refl _)
                  · exact .inr (by simp only; omega), hN, hn, hti, hc⟩
            have hm2 : MR E w0 σ m (w.freeze ⟨y.b, C.size, none⟩ 1) := by
              obtain ⟨t1, t2⟩ := ht
              have key : ∀ {q p}, m.t.get q = some p → (m.t.set j (.row cells k e')).get q = some p := by
                intro q p hq
                by_cases e : j = q
                · subst e; rw [T.get_set_same]; rw [hrow] at hq; exact hq
                · rw [T.get_set_ne _ _ e]; exact hq
              exact ⟨t1.below, fun q p hq hp => t1.obj q p (key hq) hp, h.inj, h.fresh⟩
            refine out_eff rfl hrun (.slice hy hc1 hc2) hm2 ⟨Ext.refl σ, by rw [f4]; exact Nat.le_refl _, fun b hb hl => heap_freeze w _ b (fun e => hl (e ▸ LiveB.of hrow rfl hy)), fun b hb => .inl hb, Nat.le_refl _, fun _ _ => rfl⟩
        · cases ha
      · cases ha
    · rename_i e a b hs hd
      split at ha
      · rename_i te hte
        obtain ⟨hue, _⟩ := hE.types e te hte
        split at ha
        · rename_i hde
          cases ha
          rw [hde] at hue; rw [hs] at hus; rw [hd] at hud
          obtain rfl := hx.simple_inv rfl
          exact out_val rfl (run_convert_bytes_nil w src e hus hue a b dst hud) (.refl rfl)
        · cases ha
      · cases ha
    · rename_i e a n c hs hd
      split at ha
      · rename_i te cells k e' hte hrow
        obtain ⟨hue, _⟩ := hE.types e te hte
        split at ha
        · rename_i hde hle
          have hle' := Nat.le_of_ble_eq_true hle
          split at ha
          · rename_i l hl
            split at ha
            · rename_i bs hbs
              cases ha
              rw [hde] at hue; rw [hs] at hus; rw [hd] at hud
              rcases hx.slice_inv with ⟨h1, _⟩ | ⟨j, o, y, c', h1, rfl, hy, hc1, hc2⟩
              · cases h1
              · cases h1
                obtain ⟨l', hrun, hv, hlen⟩ := run_cells (P := P) h hrow hy hle' hl
                obtain ⟨ns, rfl, hns⟩ := mapM_bytes hbs hv
                have h1 := run_bytesToString (P := P) w ⟨y.b, y.sh + o, none⟩ n c' ns hrun
                rw [foldl_push_bytes] at h1
                refine out_val rfl (v' := .string ⟨bs.toArray⟩) ?_ (.refl rfl)
                rw [run_convert_bytes_string w src dst e _ _ _ hus hue hud, h1, hns]
                simp [ByteArray.empty, ByteArray.emptyWithCapacity]
                rfl
            · cases ha
          · cases ha
        · cases ha
      · cases ha
    · rename_i e a hs hd
      split at ha
      · rename_i te cells n e' hte hrow
        split at ha
        · rename_i q hq hle
          have hle' := Nat.le_of_ble_eq_true hle
          cases ha
          obtain ⟨_, i, z, hi, hsz, _⟩ := hE.types e te hte
          rw [hs] at hus; rw [hd] at hud
          cases hx with
          | refl hs' => simp [simple] at hs'
          | ptr hy =>
            rename_i j o y
            obtain ⟨C, fz, hB, hob, hf, hN, hn, _, hc⟩ := h.row hrow hy
            simp only at hle'
            obtain ⟨u, u', hu1, hu2, hr⟩ := hc o (by omega)
            refine out_val rfl (run_convert_to_unsafe (t := e) hus hud ?_ ((cell?_of hob).trans hu2)) (.ptr hy)
            rw [hi]
            simp only [Option.map_some, hsz, hq]
            rfl
        · cases ha
      · cases ha
    · cases ha
  · cases ha
end Go.AE

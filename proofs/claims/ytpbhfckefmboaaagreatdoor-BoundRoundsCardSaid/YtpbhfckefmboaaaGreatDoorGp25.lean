/- A writer is made. -/
import Derived.Test.YtpbhfckefmboaaaGreatDoorGp24
set_option linter.unusedVariables false
set_option linter.unusedSimpArgs false
set_option linter.unusedSectionVars false
namespace Go.Proofs.YtpbhfckefmboaaaGreatDoor.Sy
open Go Go.RowKit Go.Lib Go.AS Go.Base Go.Pr Go.Proofs.YtpbhfckefmboaaaGreatDoor.Ba
theorem arT2 {j n : Nat} (h : n ≤ 64) (hj : j ≤ n) : IntKind.i64.wrap ((j : Int) + 1) = (j : Int) + 1 := by rw [IntKind.wrap_i64]; omega
theorem wr0_fr {w : World} {b : Nat} {l : Lg} {v : Value} {tr : Int} (h : w.heap[b]? = some (.cells (wr0C l v tr) 142)) : w.frozen? ⟨b, 1, none⟩ = false ∧ w.frozen? ⟨b, 2, none⟩ = false := by
  unfold wr0C at h
  refine ⟨?_, ?_⟩ <;> simp [World.frozen?, h]
section
variable {l : Lg} {q : Nat} {W : World} {acts : List OpN} {la : Option Addr} {lc : Nat} {tries : Int}
set_option maxRecDepth 1000000 in
set_option maxHeartbeats 3200000 in
theorem write_made (hw : l.ok) (hops : OpsAt W (fun k => k < W.heap.size) (.slice la acts.length lc) acts) (hd : ∀ o ∈ acts, (∀ x ∈ o.data, x < 256) ∧ o.data.length ≤ 1000) (hlen : acts.length ≤ 64) {m : Nat} (hm : min (m : Int) 64 = (acts.length : Int)) (hm2 : m ≤ 1000) (ht : -9223372036854775808 ≤ tries ∧ tries < 9223372036854775808) (hq : q ≤ 1500) :
    Calls Tryz.prog 32 #[l.val, .slice la m lc, .int .i64 tries] W fun e w' => ∃ b K', e = .returned (.pointer (some ⟨b, 0, none⟩)) ∧ Below W.heap.size W w' ∧ (∀ k, K' k → W.heap.size ≤ k) ∧ WR l (writeT (lgN l) ((max tries 0).toNat + acts.length) acts (max tries 0) 1 []) q w' b K' := by
  obtain ⟨hlc, hrow⟩ : acts.length ≤ lc ∧ ∀ (j : Nat) (o : OpN), acts[j]? = some o → ∃ g go ba bc, la = some ⟨g, go, none⟩ ∧ g < W.heap.size ∧ W.cell? ⟨g, go + 2 * j, none⟩ = some (.int .i64 o.kind) ∧ W.cell? ⟨g, go + 2 * j + 1, none⟩ = some (.slice ba o.data.length bc) ∧ RowK W [] noTau (fun k => k < W.heap.size) ba o.data := by
    obtain ⟨la', ln, lc', e, h1, h2, h3⟩ := hops
    injection e with e1 e2 e3
    subst e1 e3
    exact ⟨by omega, h3⟩
  obtain ⟨X, hX⟩ : ∃ X, W.heap.size = X := ⟨_, rfl⟩
  obtain ⟨i0, hi67, iz0, iz1, iz2⟩ := info_parts Tryz_info53
  obtain ⟨t0, hmax⟩ : ∃ t, max tries 0 = t := ⟨_, rfl⟩
  rw [hmax]
  have hif : (if tries < 0 then (0 : Int) else tries) = t0 := by rw [← hmax]; split <;> omega
  have h00 : 0 ≤ t0 ∧ t0 < 9223372036854775808 := by omega
  have HO := Lib.hid (And.intro hops hrow)
  clear hops hrow
  unfold Lg.val
  have hcase : m = acts.length ∨ (64 < m ∧ acts.length = 64) := by omega
  rcases hcase with rfl | ⟨hm64, hA⟩
  · have hmin : min (acts.length : Int) 64 = (acts.length : Int) := by omega
    go_enter Tryz.func32, Tryz.ntmps32
    go_wp2_with (fail)
    go_loopw [21] (fun jv wr => ∃ j : Nat, jv = .int .i64 (j : Int) ∧ j ≤ acts.length ∧ Hid (LS W X l t0 acts wr j)) (fun jv _ => (1000 - intOf jv).toNat)
    case atStart =>
      refine ⟨0, rfl, Nat.zero_le _, Lib.hid ⟨?_, ?_, .slice none 0 0, ?_, LeftK.nil⟩⟩
      · rw [← hX]; exact ((Below.refl _ _).alloc (Nat.le_refl _) _).alloc (by simp) _
      · simp; omega
      · rw [show X + 1 = (W.alloc (.cells #[.int .i64 l.base, .int .i64 l.term, .int .i64 l.mtu, .int .i64 l.subs, .int .i32 l.ini, .int .i32 l.ses, .int .i32 l.str] 23)).heap.size by simp [hX]]; exact heap_new _ _
    case round =>
      obtain ⟨j, rfl, hj, H⟩ := hrel
      by_cases hlt : j < acts.length
      · obtain ⟨o, ho⟩ : ∃ o, acts[j]? = some o := ⟨acts[j], List.getElem?_eq_getElem hlt⟩
        obtain ⟨bl, sz, v, hT, hL⟩ := H.out
        obtain ⟨g, go, ba, bc, rfl, hg, g0, g1, hrow⟩ := HO.out.2 j o ho
        have hdo := hd o (List.mem_of_getElem? ho)
        have gk : wr.heap[g]? = W.heap[g]? := bl.block g (by omega)
        obtain ⟨kd, hkd⟩ : ∃ kd, o.kind = kd := ⟨_, rfl⟩
        rw [hkd] at g0
        have g0' : wr.cell? ⟨g, go + j * 2, none⟩ = some (.int .i64 kd) := by rw [Nat.mul_comm j 2]; exact (cell_same gk).trans g0
        have g1' : wr.cell? ⟨g, go + j * 2 + 1, none⟩ = some (.slice ba o.data.length bc) := by rw [Nat.mul_comm j 2]; exact (cell_same gk).trans g1
        obtain ⟨Y, hY⟩ : ∃ Y, wr.heap.size = Y := ⟨_, rfl⟩
        obtain ⟨W1, hW1⟩ : ∃ W1, wr.alloc (.cells #[.int .i64 kd, .slice ba o.data.length bc] 53) = W1 := ⟨_, rfl⟩
        have b1 : Below Y wr W1 := by rw [← hW1, ← hY]; exact (Below.refl _ _).alloc (Nat.le_refl _) _
        have r1 : W1.heap[Y]? = some (.cells #[.int .i64 kd, .slice ba o.data.length bc] 53) := by rw [← hW1, ← hY]; exact heap_new _ _
        have k0 : W1.cell? ⟨Y, 0, none⟩ = some (.int .i64 kd) := by simp [World.cell?, r1]
        have k1 : W1.cell? ⟨Y, 1, none⟩ = some (.slice ba o.data.length bc) := by simp [World.cell?, r1]
        have hT1 : W1.heap[X + 1]? = some (.cells (wr0C l v t0) 142) := (b1.block (X + 1) (by omega)).trans hT
        obtain ⟨ps0, hps0, hown0, hrow0⟩ := hL.ex
        obtain ⟨ca, cc, rfl⟩ := own_slice hown0
        have hlen2 : (acts.take j).length = j := by rw [List.length_take]; omega
        rw [hlen2] at hown0 hL hT hT1 hrow0
        have hTu := hT1
        unfold wr0C at hTu
        obtain ⟨f0, f1, f2, f3, f4, f5, f6, f7, f8, f9, f10, f11, f12, f13, f14, z0, z3, z11, -⟩ := blk15 hTu
        have cC : ∀ V', Below W1.heap.size W1 V' → Calls Tryz.prog 62 #[.slice ba o.data.length bc] V' fun e w' => ∃ pa pc, e = .returned (.slice pa o.data.length pc) ∧ Below Y wr w' ∧ Below W1.heap.size W1 w' ∧ RowK w' [] noTau (fun k => Y ≤ k) pa o.data := fun V' hV' => by
          have b2 : Below Y wr V' := b1.trans (hV'.mono b1.size |>.mono (by have := b1.size; omega))
          refine (cloneAny ba bc o.data hdo.2 hdo.1 V' fun i x hx => ?_).mono ?_
          · obtain ⟨bb, bo, e, _, hk, hc⟩ := hrow i x hx
            exact ⟨bb, bo, e, (cell_same ((b2.block bb (by omega)).trans (bl.block bb (by omega)))).trans hc⟩
          · rintro e w' ⟨pa, pc, rfl, _, hb, hr⟩
            have hs2 := b2.size
            have hs3 := hV'.size
            have hs4 := hb.size
            exact ⟨pa, pc, rfl, b2.trans (hb.mono (by omega)), hV'.trans (hb.mono (by omega)), hr.move (fun _ _ => rfl) fun k hk => by omega⟩
        have HB := Lib.hid (And.intro hT1 r1)
        have HW := Lib.hid hown0
        have HQ := Lib.hid hrow0
        clear hrow0
        have HR := Lib.hid (And.intro bl (And.intro sz (And.intro hT (And.intro hL b1))))
        clear bl sz hT hL hT1 hown0 hTu hrow g0 g1 gk r1 b1
        have q1 := arT hlen hj
        have q2 := arU hlt
        go_wp2_with (fail)
        refine onlyN_of ?_
        refine region5 hi67 iz0 iz1 iz2 hX hY hlt hj hlen ho hkd hps0 hlen2 cC HB HW HQ (Lib.hid ⟨HR.out.1, HR.out.2.1, HR.out.2.2.1⟩) _ ?_
        intro x25 x26 x27 x28 x29 x30 x31 x32 x33 x34 x35 x36 x37 x38 x39 w' hLS
        have HN := Lib.hid hLS
        have hj2 := arE hlt
        have hms := arN hlen hlt
        clear hLS cC HB HW HQ HR HO hps0 hlen2 hd f0 f1 f2 f3 f4 f5 f6 f7 f8 f9 f10 f11 f12 f13 f14 z0 z3 z11 k0 k1 ho hkd g0' g1' hW1 hY hdo
        have q9 : IntKind.i64.wrap ((j : Int) + 1) = (j : Int) + 1 := arT2 hlen hj
        go_step
        go_wp2
        go_roundw
        case measure =>
          simp only [intOf]
          exact hms
        case rel => exact ⟨j + 1, by simp, hj2, HN⟩
      · obtain rfl : j = acts.length := by omega
        obtain ⟨bl, sz, v, hT, hL⟩ := H.out
        rw [List.take_length] at hL
        obtain ⟨g1, g2⟩ := wr0_fr hT
        obtain ⟨V, hV⟩ : ∃ V, (wr.setCell ⟨X + 1, 1, none⟩ (.func (.func 63) #[.pointer (some ⟨X + 1, 0, none⟩)] #[])).setCell ⟨X + 1, 2, none⟩ (.func (.func 64) #[.pointer (some ⟨X + 1, 0, none⟩)] #[]) = V := ⟨_, rfl⟩
        have o1 : Only (X + 1) wr V := by rw [← hV]; exact (Only.set _ _ _).trans (Only.set _ _ _)
        have hTV : V.heap[X + 1]? = some (.cells (wrC (X + 1) .nilIface false l v t0 0 (.slice none 0 0)) 142) := by rw [← hV]; exact setc (setc hT 1 _) 2 _
        have hsz : X + 2 ≤ V.heap.size := Nat.le_trans sz o1.size
        have hLV := hL.move (w' := V) fun k h1 h2 => o1.block k h2 (by omega)
        have hWI : WI l V (X + 1) (fun k => X + 1 ≤ k ∧ k < V.heap.size) false .nilIface acts t0 0 [] :=
          ⟨fun k hk => hk.2, ⟨Nat.le_refl _, by omega⟩, v, .slice none 0 0, hTV, ⟨hLV.ops fun k h1 h2 => ⟨⟨by omega, h2⟩, by omega, id, by simp [Value.ownBlock]⟩, World.ownsRow_nil _ _ _ _, fun k hk => by simp [Value.ownBlock] at hk⟩⟩
        have hR : Rest l (writeT (lgN l) (t0.toNat + acts.length) acts t0 1 []) (t0.toNat + acts.length) q acts t0 0 [] (t0.toNat + acts.length + 1) :=
          ⟨hd, by simp; omega, h00, ⟨by omega, by omega⟩, hq, Nat.le_refl _, by omega, rfl⟩
        have cS := chain_start hw hWI hR
        have hTu := hT
        unfold wr0C at hTu
        obtain ⟨f0, f1, f2, f3, f4, f5, f6, f7, f8, f9, f10, f11, f12, f13, f14, z0, z3, z11, -⟩ := blk15 hTu
        have HE := Lib.hid (And.intro bl (And.intro o1 hsz))
        have hst : ∀ (a : Addr) (g : FuncId) (u v : Array Value) (m : Mode) (w : World), (store a (.func (.func g) u v) m).run Tryz.prog w = stored Tryz.prog w a (.func (.func g) u v) m := fun a g u v m w => run_store Tryz.prog w a _ m rfl
        clear hTu hT hL bl sz o1 hTV hsz hLV hWI hR HO hd H
        go_wp2_with (fail)
        refine cS.mono ?_
        clear cS
        rintro e w' ⟨K', rfl, hk, hr⟩
        have HK := Lib.hid (And.intro hk hr)
        clear hk hr
        go_wp2
        refine bodyPost_ret (v := .pointer (some ⟨X + 1, 0, none⟩)) (by simp [results, Tryz.results32, go_sem]) rfl ⟨X + 1, K', rfl, ?_, ?_, HK.out.2⟩
        · have h1 := HE.out.1
          have h2 := HE.out.2.1
          have h3 := HK.out.1.frm
          rw [hX]
          exact ⟨h3.os.trans (h2.os.trans h1.os), h3.tape.trans (h2.tape.trans h1.tape), h3.output.trans (h2.output.trans h1.output), Nat.le_trans h1.size (Nat.le_trans h2.size h3.size), fun b hb => (h3.block b (by have := h1.size; have := h2.size; omega) (fun hh => by omega)).trans ((h2.block b (by have := h1.size; omega) (by omega)).trans (h1.block b hb))⟩
        · intro k hk
          rcases HK.out.1.new k hk with h | h
          · omega
          · have := HE.out.2.2; omega
  · have hmin : min (m : Int) 64 = 64 := by omega
    have hml : (64 : Int) ≤ (lc : Int) := by omega
    have hml2 : ¬ (m : Int) ≤ 64 := by omega
    clear hm
    go_enter Tryz.func32, Tryz.ntmps32
    go_wp2_with (fail)
    rw [show (64 : Nat) = acts.length from hA.symm, show (64 : Int) = (acts.length : Int) by omega]
    clear hmin hml hml2 hm64 hA
    go_loopw [21] (fun jv wr => ∃ j : Nat, jv = .int .i64 (j : Int) ∧ j ≤ acts.length ∧ Hid (LS W X l t0 acts wr j)) (fun jv _ => (1000 - intOf jv).toNat)
    case atStart =>
      refine ⟨0, rfl, Nat.zero_le _, Lib.hid ⟨?_, ?_, .slice none 0 0, ?_, LeftK.nil⟩⟩
      · rw [← hX]; exact ((Below.refl _ _).alloc (Nat.le_refl _) _).alloc (by simp) _
      · simp; omega
      · rw [show X + 1 = (W.alloc (.cells #[.int .i64 l.base, .int .i64 l.term, .int .i64 l.mtu, .int .i64 l.subs, .int .i32 l.ini, .int .i32 l.ses, .int .i32 l.str] 23)).heap.size by simp [hX]]; exact heap_new _ _
    case round =>
      obtain ⟨j, rfl, hj, H⟩ := hrel
      by_cases hlt : j < acts.length
      · obtain ⟨o, ho⟩ : ∃ o, acts[j]? = some o := ⟨acts[j], List.getElem?_eq_getElem hlt⟩
        obtain ⟨bl, sz, v, hT, hL⟩ := H.out
        obtain ⟨g, go, ba, bc, rfl, hg, g0, g1, hrow⟩ := HO.out.2 j o ho
        have hdo := hd o (List.mem_of_getElem? ho)
        have gk : wr.heap[g]? = W.heap[g]? := bl.block g (by omega)
        obtain ⟨kd, hkd⟩ : ∃ kd, o.kind = kd := ⟨_, rfl⟩
        rw [hkd] at g0
        have g0' : wr.cell? ⟨g, go + j * 2, none⟩ = some (.int .i64 kd) := by rw [Nat.mul_comm j 2]; exact (cell_same gk).trans g0
        have g1' : wr.cell? ⟨g, go + j * 2 + 1, none⟩ = some (.slice ba o.data.length bc) := by rw [Nat.mul_comm j 2]; exact (cell_same gk).trans g1
        obtain ⟨Y, hY⟩ : ∃ Y, wr.heap.size = Y := ⟨_, rfl⟩
        obtain ⟨W1, hW1⟩ : ∃ W1, wr.alloc (.cells #[.int .i64 kd, .slice ba o.data.length bc] 53) = W1 := ⟨_, rfl⟩
        have b1 : Below Y wr W1 := by rw [← hW1, ← hY]; exact (Below.refl _ _).alloc (Nat.le_refl _) _
        have r1 : W1.heap[Y]? = some (.cells #[.int .i64 kd, .slice ba o.data.length bc] 53) := by rw [← hW1, ← hY]; exact heap_new _ _
        have k0 : W1.cell? ⟨Y, 0, none⟩ = some (.int .i64 kd) := by simp [World.cell?, r1]
        have k1 : W1.cell? ⟨Y, 1, none⟩ = some (.slice ba o.data.length bc) := by simp [World.cell?, r1]
        have hT1 : W1.heap[X + 1]? = some (.cells (wr0C l v t0) 142) := (b1.block (X + 1) (by omega)).trans hT
        obtain ⟨ps0, hps0, hown0, hrow0⟩ := hL.ex
        obtain ⟨ca, cc, rfl⟩ := own_slice hown0
        have hlen2 : (acts.take j).length = j := by rw [List.length_take]; omega
        rw [hlen2] at hown0 hL hT hT1 hrow0
        have hTu := hT1
        unfold wr0C at hTu
        obtain ⟨f0, f1, f2, f3, f4, f5, f6, f7, f8, f9, f10, f11, f12, f13, f14, z0, z3, z11, -⟩ := blk15 hTu
        have cC : ∀ V', Below W1.heap.size W1 V' → Calls Tryz.prog 62 #[.slice ba o.data.length bc] V' fun e w' => ∃ pa pc, e = .returned (.slice pa o.data.length pc) ∧ Below Y wr w' ∧ Below W1.heap.size W1 w' ∧ RowK w' [] noTau (fun k => Y ≤ k) pa o.data := fun V' hV' => by
          have b2 : Below Y wr V' := b1.trans (hV'.mono b1.size |>.mono (by have := b1.size; omega))
          refine (cloneAny ba bc o.data hdo.2 hdo.1 V' fun i x hx => ?_).mono ?_
          · obtain ⟨bb, bo, e, _, hk, hc⟩ := hrow i x hx
            exact ⟨bb, bo, e, (cell_same ((b2.block bb (by omega)).trans (bl.block bb (by omega)))).trans hc⟩
          · rintro e w' ⟨pa, pc, rfl, _, hb, hr⟩
            have hs2 := b2.size
            have hs3 := hV'.size
            have hs4 := hb.size
            exact ⟨pa, pc, rfl, b2.trans (hb.mono (by omega)), hV'.trans (hb.mono (by omega)), hr.move (fun _ _ => rfl) fun k hk => by omega⟩
        have HB := Lib.hid (And.intro hT1 r1)
        have HW := Lib.hid hown0
        have HQ := Lib.hid hrow0
        clear hrow0
        have HR := Lib.hid (And.intro bl (And.intro sz (And.intro hT (And.intro hL b1))))
        clear bl sz hT hL hT1 hown0 hTu hrow g0 g1 gk r1 b1
        have q1 := arT hlen hj
        have q2 := arU hlt
        go_wp2_with (fail)
        refine onlyN_of ?_
        refine region5 hi67 iz0 iz1 iz2 hX hY hlt hj hlen ho hkd hps0 hlen2 cC HB HW HQ (Lib.hid ⟨HR.out.1, HR.out.2.1, HR.out.2.2.1⟩) _ ?_
        intro x25 x26 x27 x28 x29 x30 x31 x32 x33 x34 x35 x36 x37 x38 x39 w' hLS
        have HN := Lib.hid hLS
        have hj2 := arE hlt
        have hms := arN hlen hlt
        clear hLS cC HB HW HQ HR HO hps0 hlen2 hd f0 f1 f2 f3 f4 f5 f6 f7 f8 f9 f10 f11 f12 f13 f14 z0 z3 z11 k0 k1 ho hkd g0' g1' hW1 hY hdo
        have q9 : IntKind.i64.wrap ((j : Int) + 1) = (j : Int) + 1 := arT2 hlen hj
        go_step
        go_wp2
        go_roundw
        case measure =>
          simp only [intOf]
          exact hms
        case rel => exact ⟨j + 1, by simp, hj2, HN⟩
      · obtain rfl : j = acts.length := by omega
        obtain ⟨bl, sz, v, hT, hL⟩ := H.out
        rw [List.take_length] at hL
        obtain ⟨g1, g2⟩ := wr0_fr hT
        obtain ⟨V, hV⟩ : ∃ V, (wr.setCell ⟨X + 1, 1, none⟩ (.func (.func 63) #[.pointer (some ⟨X + 1, 0, none⟩)] #[])).setCell ⟨X + 1, 2, none⟩ (.func (.func 64) #[.pointer (some ⟨X + 1, 0, none⟩)] #[]) = V := ⟨_, rfl⟩
        have o1 : Only (X + 1) wr V := by rw [← hV]; exact (Only.set _ _ _).trans (Only.set _ _ _)
        have hTV : V.heap[X + 1]? = some (.cells (wrC (X + 1) .nilIface false l v t0 0 (.slice none 0 0)) 142) := by rw [← hV]; exact setc (setc hT 1 _) 2 _
        have hsz : X + 2 ≤ V.heap.size := Nat.le_trans sz o1.size
        have hLV := hL.move (w' := V) fun k h1 h2 => o1.block k h2 (by omega)
        have hWI : WI l V (X + 1) (fun k => X + 1 ≤ k ∧ k < V.heap.size) false .nilIface acts t0 0 [] :=
          ⟨fun k hk => hk.2, ⟨Nat.le_refl _, by omega⟩, v, .slice none 0 0, hTV, ⟨hLV.ops fun k h1 h2 => ⟨⟨by omega, h2⟩, by omega, id, by simp [Value.ownBlock]⟩, World.ownsRow_nil _ _ _ _, fun k hk => by simp [Value.ownBlock] at hk⟩⟩
        have hR : Rest l (writeT (lgN l) (t0.toNat + acts.length) acts t0 1 []) (t0.toNat + acts.length) q acts t0 0 [] (t0.toNat + acts.length + 1) :=
          ⟨hd, by simp; omega, h00, ⟨by omega, by omega⟩, hq, Nat.le_refl _, by omega, rfl⟩
        have cS := chain_start hw hWI hR
        have hTu := hT
        unfold wr0C at hTu
        obtain ⟨f0, f1, f2, f3, f4, f5, f6, f7, f8, f9, f10, f11, f12, f13, f14, z0, z3, z11, -⟩ := blk15 hTu
        have HE := Lib.hid (And.intro bl (And.intro o1 hsz))
        have hst : ∀ (a : Addr) (g : FuncId) (u v : Array Value) (m : Mode) (w : World), (store a (.func (.func g) u v) m).run Tryz.prog w = stored Tryz.prog w a (.func (.func g) u v) m := fun a g u v m w => run_store Tryz.prog w a _ m rfl
        clear hTu hT hL bl sz o1 hTV hsz hLV hWI hR HO hd H
        go_wp2_with (fail)
        refine cS.mono ?_
        clear cS
        rintro e w' ⟨K', rfl, hk, hr⟩
        have HK := Lib.hid (And.intro hk hr)
        clear hk hr
        go_wp2
        refine bodyPost_ret (v := .pointer (some ⟨X + 1, 0, none⟩)) (by simp [results, Tryz.results32, go_sem]) rfl ⟨X + 1, K', rfl, ?_, ?_, HK.out.2⟩
        · have h1 := HE.out.1
          have h2 := HE.out.2.1
          have h3 := HK.out.1.frm
          rw [hX]
          exact ⟨h3.os.trans (h2.os.trans h1.os), h3.tape.trans (h2.tape.trans h1.tape), h3.output.trans (h2.output.trans h1.output), Nat.le_trans h1.size (Nat.le_trans h2.size h3.size), fun b hb => (h3.block b (by have := h1.size; have := h2.size; omega) (fun hh => by omega)).trans ((h2.block b (by have := h1.size; omega) (by omega)).trans (h1.block b hb))⟩
        · intro k hk
          rcases HK.out.1.new k hk with h | h
          · omega
          · have := HE.out.2.2; omega
end
end Go.Proofs.YtpbhfckefmboaaaGreatDoor.Sy

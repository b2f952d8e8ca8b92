/- The document's Watch over a tape, whatever the log; the watcher made. -/
import Derived.Test.YtlaogoehmndcjaaGreatDoorTpM
import Derived.Test.YtlaogoehmndcjaaGreatDoorWtE
set_option linter.unusedVariables false
namespace Go.Proofs.YtlaogoehmndcjaaGreatDoor.Sy
open Go Go.RowKit Go.Lib Go.Base Go.Pr Go.Proofs.YtlaogoehmndcjaaGreatDoor.Ba
set_option maxRecDepth 1000000 in
set_option maxHeartbeats 1600000 in
theorem watch_no (l : Lg) (hw : l.wf) (hl : ¬ l.ok) (timeout times : Int) (hti : 0 ≤ times ∧ times ≤ 65536) (w : World) (tb : Nat) (ga ca : Option Addr) (cap n cc : Nat) (L : List Tld) (h : TpS w tb ga cap L 0 none) :
    Calls Tryz.prog 16 #[.pointer (some ⟨tb, 0, none⟩), .slice ca n cc, l.val, .int .i64 timeout, .int .i64 times] w fun e w' => e = .returned (.tuple #[.int .i64 0, .int .i64 0, .int .i64 0]) ∧ TpK w w' tb ga cap L 0 none := by
  have c38 := fun W => rightR_any l hw W
  rw [decide_eq_false hl] at c38
  obtain ⟨base, term, mtu, subs, ini, ses, str⟩ := l
  unfold Lg.val at c38 ⊢
  dsimp only at c38 ⊢
  obtain ⟨X, hX⟩ : ∃ X, w.heap.size = X := ⟨_, rfl⟩
  obtain ⟨W1, hW1⟩ : ∃ W1, w.alloc (.cells #[.int .i64 base, .int .i64 term, .int .i64 mtu, .int .i64 subs, .int .i32 ini, .int .i32 ses, .int .i32 str] 23) = W1 := ⟨_, rfl⟩
  have HX := Lib.hid (hW1 ▸ UB.new (base := base) (term := term) (mtu := mtu) (subs := subs) (ini := ini) (ses := ses) (str := str) h hX)
  have hs1 : W1.heap.size = X + 1 := by rw [← hW1, ← hX]; simp
  have hmin : (if 65536 < times then 65536 else times) = times := by split <;> omega
  clear hl h hw
  obtain ⟨m0, m1, m2, m3, m4, m5, m6⟩ := HX.out.cells
  go_enter Tryz.func16, Tryz.ntmps16
  go_wp2
  by_cases hlt : 0 < times
  · go_loopw [13, 14, 15, 16] (fun s la si ii wr => s = .int .i64 0 ∧ ii = .int .i64 0 ∧ Hid (UB w wr X base term mtu subs ini ses str tb ga cap L 0 none)) (fun _ _ _ ii _ => 0)
    case atStart => exact ⟨rfl, rfl, HX⟩
    case round =>
      obtain ⟨rfl, rfl, H⟩ := hrel
      clear HX m0 m1 m2 m3 m4 m5 m6
      have HX := H
      obtain ⟨m0, m1, m2, m3, m4, m5, m6⟩ := HX.out.cells
      go_wp2_with (first | (go_at_call 38; refine (c38 _).mono ?_; rintro e v38 ⟨rfl, hB⟩; replace HX := Lib.hid (HX.out.below hB); clear hB; clear m0 m1 m2 m3 m4 m5 m6; obtain ⟨m0, m1, m2, m3, m4, m5, m6⟩ := HX.out.cells))
      refine bodyPost_ret (v := .tuple #[.int .i64 0, .int .i64 0, .int .i64 0]) (by simp [results, Tryz.results16, go_sem]) rfl ⟨rfl, HX.out.tp⟩
  · obtain rfl : times = 0 := by omega
    go_loopw [13, 14, 15, 16] (fun s la si ii wr => s = .int .i64 0 ∧ ii = .int .i64 0 ∧ Hid (UB w wr X base term mtu subs ini ses str tb ga cap L 0 none)) (fun _ _ _ ii _ => 0)
    case atStart => exact ⟨rfl, rfl, HX⟩
    case round =>
      obtain ⟨rfl, rfl, H⟩ := hrel
      clear HX m0 m1 m2 m3 m4 m5 m6
      have HX := H
      obtain ⟨m0, m1, m2, m3, m4, m5, m6⟩ := HX.out.cells
      go_wp2
      refine bodyPost_ret (v := .tuple #[.int .i64 0, .int .i64 0, .int .i64 0]) (by simp [results, Tryz.results16, go_sem]) rfl ⟨rfl, HX.out.tp⟩
/-- the watcher's tree -/
def treeOf (l : Lg) (timeout times : Int) : Pr Tld WO := if l.ok then watchT (Lgn l) timeout times.toNat ⟨0, 0, 0, false⟩ else .done (0, 0, 0)
/-- numbers of four bytes, with their sign -/
structure I32s (l : Lg) : Prop where
  i : -2147483648 ≤ l.ini ∧ l.ini < 2147483648
  s : -2147483648 ≤ l.ses ∧ l.ses < 2147483648
  t : -2147483648 ≤ l.str ∧ l.str < 2147483648
theorem watchR (l : Lg) (hw : l.wf) (hi : I32s l) (timeout times : Int) (hto : -1099511627776 ≤ timeout ∧ timeout ≤ 1099511627776) (hti : 0 ≤ times ∧ times ≤ 65536) (w : World) (tb : Nat) (ga ca : Option Addr) (cap cc : Nat) (L : List Tld) (h : TpS w tb ga cap L 0 none) (hc : ClR w tb ca L) :
    Calls Tryz.prog 16 #[.pointer (some ⟨tb, 0, none⟩), .slice ca L.length cc, l.val, .int .i64 timeout, .int .i64 times] w fun e w' => ∃ x y z : Int, e = .returned (.tuple #[.int .i64 x, .int .i64 y, .int .i64 z]) ∧ (x = ((treeOf l timeout times).run L).obs.1 ∧ z = ((treeOf l timeout times).run L).obs.2.2 ∧ (z > 0 → y = ((treeOf l timeout times).run L).obs.2.1)) ∧ ∃ b, TpK w w' tb ga cap L b ((treeOf l timeout times).run L).want := by
  unfold treeOf
  by_cases hl : l.ok
  · rw [if_pos hl]
    refine (watch_any l.base l.term l.mtu l.subs l.ini l.ses l.str hl hi.i hi.s hi.t timeout times hto hti w tb ga ca cap cc L h hc).mono ?_
    rintro e w' ⟨v, rfl, ⟨x, y, z, rfl, h1, h2, h3⟩, hK⟩
    exact ⟨x, y, z, rfl, ⟨h1, h2, h3⟩, _, hK⟩
  · rw [if_neg hl]
    refine (watch_no l hw hl timeout times hti w tb ga ca cap L.length cc L h).mono ?_
    rintro e w' ⟨rfl, hK⟩
    rw [Pr.run_done]
    exact ⟨0, 0, 0, rfl, ⟨rfl, rfl, fun h => absurd h (by omega)⟩, _, hK⟩
theorem rep_new (l : Lg) (hw : l.wf) (timeout tms : Int) (ht : 0 ≤ tms ∧ tms ≤ 255) (w : World) (hTw : TabAt 0 Lib.deBruijn64tab w) :
    Calls Tryz.prog 15 #[l.val, .int .i64 timeout, .int .i64 tms] w fun e w' => ∃ τ O, e = .returned (.pointer (some ⟨(τ 0).1, (τ 0).2 + 0, none⟩)) ∧ Rep l timeout 0 0 (treeOf l timeout tms) w' τ O ∧ Fr (fun _ => False) O w w' := by
  have e0 : ¬ 65536 < tms := by omega
  have ht' : 0 ≤ tms ∧ tms ≤ 1000000 := by omega
  unfold treeOf
  by_cases hl : l.ok
  · rw [if_pos hl]
    have hb := hl.bounds
    by_cases e1 : tms < 1
    · refine (wa_new1 l timeout tms hl ht' e0 e1 w hTw).mono ?_
      rintro e w' ⟨τ', rfl, hS, hM⟩
      exact ⟨τ', own wa_A11 τ', rfl, .s11 hS (fun i h => ⟨i, h, rfl⟩) (by omega) (by rw [show tms.toNat = 0 by omega]; rfl), fr_of hM (fun i h => absurd h (Nat.not_lt_zero _))⟩
    · refine (wa_new2 l timeout tms hl ht' e0 e1 w hTw).mono ?_
      rintro e w' ⟨τ', rfl, hS, hM⟩
      exact ⟨τ', own wa_A0 τ', rfl, .s0 hS (fun i h => ⟨i, h, rfl⟩) hl ⟨by omega, by omega, by omega, by omega, by omega⟩ ⟨by omega, by omega⟩ ⟨rfl, rfl⟩ (look_on e1 (Lgn_subs l hl) 0), fr_of hM (fun i h => absurd h (Nat.not_lt_zero _))⟩
  · rw [if_neg hl]
    refine (wa_new4 l timeout tms hw hl ht' e0 w hTw).mono ?_
    rintro e w' ⟨τ', rfl, hS, hM⟩
    exact ⟨τ', own wa_A11 τ', rfl, .s11 hS (fun i h => ⟨i, h, rfl⟩) (by omega) rfl, fr_of hM (fun i h => absurd h (Nat.not_lt_zero _))⟩
end Go.Proofs.YtlaogoehmndcjaaGreatDoor.Sy

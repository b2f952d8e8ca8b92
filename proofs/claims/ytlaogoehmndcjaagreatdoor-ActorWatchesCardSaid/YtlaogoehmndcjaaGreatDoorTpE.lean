/- The document's search of what was not begun. -/
import Derived.Test.YtlaogoehmndcjaaGreatDoorTpX
import Derived.Test.YtlaogoehmndcjaaGreatDoorProg
set_option linter.unusedVariables false
namespace Go.Proofs.YtlaogoehmndcjaaGreatDoor.Sy
open Go Go.RowKit Go.Lib Go.Base Go.Pr Go.Proofs.YtlaogoehmndcjaaGreatDoor.Ba
/-- what find answers -/
def findV : Pr Tld Int → Value
  | .done n => .tuple #[.int .i64 n, .bool true]
  | .ask .. => .tuple #[.int .i64 0, .bool false]
theorem drop_len {A : Type} {L l : List A} {a : Nat} (h : L.drop a = l) (ha : a ≤ L.length) : L.length - l.length = a := by
  rw [← h, List.length_drop]; omega
set_option maxRecDepth 1000000 in
set_option maxHeartbeats 3200000 in
theorem find_any (u : US) (hp : 0 ≤ u.part ∧ u.part ≤ 1000000) (ho : 0 ≤ u.off ∧ u.off ≤ 10000) (hf : u.off < u.fin ∧ u.fin ≤ 9000) (w : World) (tb : Nat) (ga : Option Addr) (cap : Nat) (L : List Tld) (a : Nat) (ha : a ≤ L.length) (h : TpS w tb ga cap L a none) :
    Calls Tryz.prog 74 #[.pointer (some ⟨tb, 0, none⟩), .int .i64 u.part, .int .i64 u.off, .int .i64 u.fin] w fun e w' => e = .returned (findV ((aheadF u 300 (u.off + 32)).run (L.drop a))) ∧ TpK w w' tb ga cap L (L.length - ((aheadF u 300 (u.off + 32)).left (L.drop a)).length) ((aheadF u 300 (u.off + 32)).run (L.drop a)).want := by
  obtain ⟨T, hT⟩ : ∃ T, aheadF u 300 (u.off + 32) = T := ⟨_, rfl⟩
  obtain ⟨l0, hl0⟩ : ∃ l0, L.drop a = l0 := ⟨_, rfl⟩
  have H0 := Lib.hid (And.intro h (And.intro hT hl0))
  rw [hT, hl0]
  obtain ⟨l, part, off, fin, to, trm⟩ := u
  dsimp only at *
  have k1 : IntKind.i64.wrap (off + 32) = off + 32 := by rw [IntKind.wrap_i64]; omega
  clear h hT hl0
  go_enter Tryz.func74, Tryz.ntmps74
  go_wp2
  go_loopw [10, 11, 12] (fun x y z wr => ∃ (A : Int) (k b : Nat) (m : List Tld), x = .int .i64 A ∧ (off < A ∧ A ≤ 20000) ∧ b ≤ L.length ∧ Hid ((A < fin → fin - A < 32 * (k : Int)) ∧ TpK w wr tb ga cap L b none ∧ L.drop b = m ∧ at2 T l0 (aheadF ⟨l, part, off, fin, to, trm⟩ k A) m)) (fun x _ _ _ => (fin + 32 - intOf x).toNat)
  case atStart =>
    obtain ⟨h, hT, hl0⟩ := H0.out
    exact ⟨off + 32, 300, a, l0, rfl, by omega, ha, Lib.hid ⟨by omega, h.refl, hl0, by rw [← hT]; exact ⟨rfl, rfl⟩⟩⟩
  case round =>
    obtain ⟨A, k, b, m, rfl, hA, hb, H⟩ := hrel
    have q1 : IntKind.i64.wrap (part + A) = part + A := by rw [IntKind.wrap_i64]; omega
    have q2 : IntKind.i64.wrap (A + 32) = A + 32 := by rw [IntKind.wrap_i64]; omega
    by_cases hlt : A < fin
    · obtain ⟨k, rfl⟩ : ∃ j, k = j + 1 := ⟨k - 1, by have := H.out.1 hlt; omega⟩
      rcases m with _ | ⟨X, m⟩
      · have c := load_nil (part + A) 4 H.out.2.1.1 H.out.2.2.1
        go_wp2_with (go_at_call 39; refine c.mono ?_; clear c; rintro e w1 ⟨rfl, hK⟩; have H1 := Lib.hid hK; clear hK)
        go_ret2
        obtain ⟨⟨K, e1⟩, e2⟩ := aheadF_wait (u := ⟨l, part, off, fin, to, trm⟩) (by show ¬ A ≥ fin; omega) H.out.2.2.2
        rw [e1, e2]
        have hK := H.out.2.1.trans H1.out
        refine ⟨rfl, ?_⟩
        have hd := drop_nil H.out.2.2.1
        obtain rfl : b = L.length := by omega
        exact hK
      · have c := load_cons (part + A) 4 H.out.2.1.1 H.out.2.2.1
        obtain ⟨hX, hlt2, hdr⟩ := drop_cons H.out.2.2.1
        have HD := Lib.hid hdr
        by_cases hz : X.v = 0
        · rw [hz] at c
          have HZ := Lib.hid hz
          clear hdr hX hz
          go_wp2_with (go_at_call 39; refine c.mono ?_; clear c; rintro e w1 ⟨rfl, hK⟩; have H1 := Lib.hid hK; clear hK)
          go_roundw
          case rel => exact ⟨A + 32, k, b + 1, m, rfl, by omega, by omega, Lib.hid ⟨by have := H.out.1 hlt; omega, H.out.2.1.trans H1.out, HD.out, aheadF_more (by show ¬ A ≥ fin; omega) HZ.out H.out.2.2.2⟩⟩
          case measure => simp [intOf]; omega
        · obtain ⟨V, hV⟩ : ∃ V, X.v = V := ⟨_, rfl⟩
          rw [hV] at c hz
          have HZ := Lib.hid (And.intro hV hz)
          clear hdr hX hV
          have km : IntKind.i64.wrap (A - 32) = A - 32 := by rw [IntKind.wrap_i64]; omega
          go_wp2_with (first | (go_at_call 39; refine c.mono ?_; clear c; rintro e w1 ⟨rfl, hK⟩; have H1 := Lib.hid hK; clear hK))
          have HS := Lib.hid (show b + 1 ≤ L.length ∧ TpK w w1 tb ga cap L (b + 1) none ∧ L.drop (b + 1) = m ∧ at2 T l0 (backF ⟨l, part, off, fin, to, trm⟩ A 300 (A - 32)) m from ⟨by omega, H.out.2.1.trans H1.out, HD.out, aheadF_found (by show ¬ A ≥ fin; omega) (by rw [HZ.out.1]; exact HZ.out.2) H.out.2.2.2⟩)
          clear H H1 HD HZ
          go_loopw [13, 14, 15] (fun x y z wr => ∃ (B : Int) (k b : Nat) (m : List Tld), x = .int .i64 B ∧ (-1000 ≤ B ∧ B ≤ 20000) ∧ b ≤ L.length ∧ Hid ((¬ B < off → B - off < 32 * (k : Int)) ∧ TpK w wr tb ga cap L b none ∧ L.drop b = m ∧ at2 T l0 (backF ⟨l, part, off, fin, to, trm⟩ A k B) m)) (fun x _ _ _ => (intOf x + 2000).toNat)
          case atStart =>
            have hS := HS.out
            exact ⟨A - 32, 300, _, _, rfl, by omega, hS.1, Lib.hid ⟨by omega, hS.2.1, hS.2.2.1, hS.2.2.2⟩⟩
          case round =>
            obtain ⟨B, k, b2, m2, rfl, hB, hb2, H2⟩ := hrel
            have q3 : IntKind.i64.wrap (part + B) = part + B := by rw [IntKind.wrap_i64]; omega
            have q4 : IntKind.i64.wrap (B - 32) = B - 32 := by rw [IntKind.wrap_i64]; omega
            have q5 : IntKind.i64.wrap (A - off) = A - off := by rw [IntKind.wrap_i64]; omega
            by_cases hge : B ≥ off
            · obtain ⟨k, rfl⟩ : ∃ j, k = j + 1 := ⟨k - 1, by have := H2.out.1 (by omega); omega⟩
              rcases m2 with _ | ⟨X2, m2⟩
              · have c := load_nil (part + B) 4 H2.out.2.1.1 H2.out.2.2.1
                go_wp2_with (go_at_call 39; refine c.mono ?_; clear c; rintro e w2 ⟨rfl, hK⟩; have H3 := Lib.hid hK; clear hK)
                go_ret2
                obtain ⟨⟨K, e1⟩, e2⟩ := backF_wait (u := ⟨l, part, off, fin, to, trm⟩) (by simpa using hge) H2.out.2.2.2
                rw [e1, e2]
                have hK := H2.out.2.1.trans H3.out
                refine ⟨rfl, ?_⟩
                have hd := drop_nil H2.out.2.2.1
                obtain rfl : b2 = L.length := by omega
                exact hK
              · have c := load_cons (part + B) 4 H2.out.2.1.1 H2.out.2.2.1
                obtain ⟨hX, hlt2, hdr⟩ := drop_cons H2.out.2.2.1
                have HD := Lib.hid hdr
                by_cases hz : X2.v = 0
                · rw [hz] at c
                  have HZ := Lib.hid hz
                  clear hdr hX hz
                  go_wp2_with (go_at_call 39; refine c.mono ?_; clear c; rintro e w2 ⟨rfl, hK⟩; have H3 := Lib.hid hK; clear hK)
                  go_roundw
                  case rel => first | exact ⟨B - 32, k, b2 + 1, m2, rfl, by omega, by omega, Lib.hid ⟨by have := H2.out.1 (by omega); omega, H2.out.2.1.trans H3.out, HD.out, backF_more (by simpa using hge) HZ.out H2.out.2.2.2⟩⟩ | exact ⟨_, _, _, ⟨B - 32, rfl, by omega, k, b2 + 1, by omega, m2, Lib.hid ⟨by have := H2.out.1 (by omega); omega, H2.out.2.1.trans H3.out, HD.out, backF_more (by simpa using hge) HZ.out H2.out.2.2.2⟩⟩, rfl, rfl, rfl⟩
                  case measure => simp [intOf]; omega
                · obtain ⟨V, hV⟩ : ∃ V, X2.v = V := ⟨_, rfl⟩
                  rw [hV] at c hz
                  have HZ := Lib.hid (And.intro hV hz)
                  clear hdr hX hV
                  go_wp2_with (go_at_call 39; refine c.mono ?_; clear c; rintro e w2 ⟨rfl, hK⟩; have H3 := Lib.hid hK; clear hK)
                  go_ret2
                  obtain ⟨e1, e2⟩ := backF_found (u := ⟨l, part, off, fin, to, trm⟩) (by simpa using hge) (by rw [HZ.out.1]; exact HZ.out.2) H2.out.2.2.2
                  rw [e1, e2, drop_len HD.out (by omega)]
                  exact ⟨rfl, H2.out.2.1.trans H3.out⟩
            · go_wp2
              go_ret2
              obtain ⟨e1, e2⟩ := backF_done (u := ⟨l, part, off, fin, to, trm⟩) (by show B < off; omega) H2.out.2.2.2
              rw [e1, e2, drop_len H2.out.2.2.1 hb2]
              exact ⟨rfl, H2.out.2.1⟩
    · have hge0 : fin ≤ A := by omega
      have km : IntKind.i64.wrap (fin - 32) = fin - 32 := by rw [IntKind.wrap_i64]; omega
      rcases (show fin = A ∨ fin < A by omega) with rfl | hgt
      all_goals go_wp2
      all_goals (
        have HS := Lib.hid (show b ≤ L.length ∧ TpK w wr tb ga cap L b none ∧ L.drop b = m ∧ at2 T l0 (backF ⟨l, part, off, fin, to, trm⟩ fin 300 (fin - 32)) m from ⟨hb, H.out.2.1, H.out.2.2.1, by have := H.out.2.2.2; rwa [aheadF_end (by show _ ≥ fin; omega)] at this⟩)
        clear H
        go_loopw [13, 14, 15] (fun x y z wr => ∃ (B : Int) (k b : Nat) (m : List Tld), x = .int .i64 B ∧ (-1000 ≤ B ∧ B ≤ 20000) ∧ b ≤ L.length ∧ Hid ((¬ B < off → B - off < 32 * (k : Int)) ∧ TpK w wr tb ga cap L b none ∧ L.drop b = m ∧ at2 T l0 (backF ⟨l, part, off, fin, to, trm⟩ fin k B) m)) (fun x _ _ _ => (intOf x + 2000).toNat)
        case atStart =>
          have hS := HS.out
          exact ⟨fin - 32, 300, _, _, rfl, by omega, hS.1, Lib.hid ⟨by omega, hS.2.1, hS.2.2.1, hS.2.2.2⟩⟩
        case round =>
          obtain ⟨B, k, b2, m2, rfl, hB, hb2, H2⟩ := hrel
          have q3 : IntKind.i64.wrap (part + B) = part + B := by rw [IntKind.wrap_i64]; omega
          have q4 : IntKind.i64.wrap (B - 32) = B - 32 := by rw [IntKind.wrap_i64]; omega
          have q5 : IntKind.i64.wrap (fin - off) = fin - off := by rw [IntKind.wrap_i64]; omega
          by_cases hge : B ≥ off
          · obtain ⟨k, rfl⟩ : ∃ j, k = j + 1 := ⟨k - 1, by have := H2.out.1 (by omega); omega⟩
            rcases m2 with _ | ⟨X2, m2⟩
            · have c := load_nil (part + B) 4 H2.out.2.1.1 H2.out.2.2.1
              go_wp2_with (go_at_call 39; refine c.mono ?_; clear c; rintro e w2 ⟨rfl, hK⟩; have H3 := Lib.hid hK; clear hK)
              go_ret2
              obtain ⟨⟨K, e1⟩, e2⟩ := backF_wait (u := ⟨l, part, off, fin, to, trm⟩) (by simpa using hge) H2.out.2.2.2
              rw [e1, e2]
              have hK := H2.out.2.1.trans H3.out
              refine ⟨rfl, ?_⟩
              have hd := drop_nil H2.out.2.2.1
              obtain rfl : b2 = L.length := by omega
              exact hK
            · have c := load_cons (part + B) 4 H2.out.2.1.1 H2.out.2.2.1
              obtain ⟨hX, hlt2, hdr⟩ := drop_cons H2.out.2.2.1
              have HD := Lib.hid hdr
              by_cases hz : X2.v = 0
              · rw [hz] at c
                have HZ := Lib.hid hz
                clear hdr hX hz
                go_wp2_with (go_at_call 39; refine c.mono ?_; clear c; rintro e w2 ⟨rfl, hK⟩; have H3 := Lib.hid hK; clear hK)
                go_roundw
                case rel => first | exact ⟨B - 32, k, b2 + 1, m2, rfl, by omega, by omega, Lib.hid ⟨by have := H2.out.1 (by omega); omega, H2.out.2.1.trans H3.out, HD.out, backF_more (by simpa using hge) HZ.out H2.out.2.2.2⟩⟩ | exact ⟨_, _, _, ⟨B - 32, rfl, by omega, k, b2 + 1, by omega, m2, Lib.hid ⟨by have := H2.out.1 (by omega); omega, H2.out.2.1.trans H3.out, HD.out, backF_more (by simpa using hge) HZ.out H2.out.2.2.2⟩⟩, rfl, rfl, rfl⟩
                case measure => simp [intOf]; omega
              · obtain ⟨V, hV⟩ : ∃ V, X2.v = V := ⟨_, rfl⟩
                rw [hV] at c hz
                have HZ := Lib.hid (And.intro hV hz)
                clear hdr hX hV
                go_wp2_with (go_at_call 39; refine c.mono ?_; clear c; rintro e w2 ⟨rfl, hK⟩; have H3 := Lib.hid hK; clear hK)
                go_ret2
                obtain ⟨e1, e2⟩ := backF_found (u := ⟨l, part, off, fin, to, trm⟩) (by simpa using hge) (by rw [HZ.out.1]; exact HZ.out.2) H2.out.2.2.2
                rw [e1, e2, drop_len HD.out (by omega)]
                exact ⟨rfl, H2.out.2.1.trans H3.out⟩
          · go_wp2
            go_ret2
            obtain ⟨e1, e2⟩ := backF_done (u := ⟨l, part, off, fin, to, trm⟩) (by show B < off; omega) H2.out.2.2.2
            rw [e1, e2, drop_len H2.out.2.2.1 hb2]
            exact ⟨rfl, H2.out.2.1⟩)
end Go.Proofs.YtlaogoehmndcjaaGreatDoor.Sy

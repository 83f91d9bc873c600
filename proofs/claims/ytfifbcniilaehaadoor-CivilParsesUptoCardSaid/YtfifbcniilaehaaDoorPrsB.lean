/- The contract of the reference's Parse; the walks of the laws CivilParses and CivilBack. -/
import Derived.Test.YtfifbcniilaehaaDoorPrsA
import Derived.Outline
namespace Go.Proofs.YtfifbcniilaehaaDoor
open Go.RowKit

theorem idx_str (s : ByteArray) (k x : Nat) (hk : k < s.size) (hx : x = s[k].toNat) (w : World) : (Instr.index 9 (.string s) (.int .i64 (k : Int))).run Tryd.prog w = .ok (.int .u8 (x : Int)) w := by
  rw [run_index_string (h := Tryd.underlying9)]
  subst hx
  simp [hk]
theorem dval_lt9 {l : List UInt8} (h : Prs.digs l = true) (hl : l.length ≤ 8) : Prs.dval 0 l < 100000000 := by
  have h1 := Prs.dval_bound l h
  have h2 : (10 : Nat) ^ l.length ≤ 10 ^ 8 := Nat.pow_le_pow_right (by omega) hl
  have h3 : (10 : Nat) ^ 8 = 100000000 := by decide
  omega
theorem digs_take {l : List UInt8} (h : Prs.digs l = true) (k : Nat) : Prs.digs (l.take k) = true := by
  unfold Prs.digs at h ⊢
  rw [List.all_eq_true] at h ⊢
  exact fun x hx => h x (List.mem_of_mem_take hx)
set_option maxHeartbeats 400000 in
theorem rnum_any (s : ByteArray) (hd : Prs.digs s.data.toList = true) (h8 : s.size ≤ 8) (n : Nat) (hn : n = Prs.dval 0 s.data.toList) (w : World) :
    Calls Tryd.prog 28 #[.string s] w fun e w' => e = .returned (.int .i64 (n : Int)) ∧ w' = w := by
  have HD := Lib.hid hd; clear hd
  have HN := Lib.hid hn; clear hn
  go_enter Tryd.func28, Tryd.ntmps28
  go_wp2
  go_loop [3, 4] (fun v i => ∃ k m : Nat, k ≤ s.size ∧ i = .int .i64 (k : Int) ∧ v = .int .i64 (m : Int) ∧ Hid (m = Prs.dval 0 (s.data.toList.take k))) (fun _ i => s.size - (intOf i).toNat)
  case atStart => exact ⟨0, 0, by omega, rfl, rfl, Lib.hid rfl⟩
  case round =>
    obtain ⟨k, m, hk, rfl, rfl, HM⟩ := hrel
    by_cases hlt : k < s.size
    · have hm := HM.out
      have hb : m < 100000000 := by
        rw [hm]; exact dval_lt9 (digs_take HD.out k) (by rw [List.length_take]; simp; omega)
      have hdg : Prs.dig s[k] = true := by
        have := List.all_eq_true.1 HD.out s[k] (by
          rw [List.mem_iff_getElem]; exact ⟨k, by simpa using hlt, rfl⟩)
        exact this
      have h48 := Prs.dig_iff.1 hdg
      have hnext : Hid (m * 10 + (s[k].toNat - 48) = Prs.dval 0 (s.data.toList.take (k + 1))) := Lib.hid (by
        rw [List.take_succ_eq_append_getElem (by simpa using hlt), Prs.dval_snoc, ← hm]; rfl)
      clear hm hdg
      obtain ⟨x, hx⟩ : ∃ x, x = s[k].toNat := ⟨_, rfl⟩
      rw [← hx] at h48 hnext
      have h48' : (48 : Int) ≤ (x : Int) := by omega
      have h57' : (x : Int) ≤ 57 := by omega
      have hix : ∀ w : World, (Instr.index 9 (.string s) (.int .i64 (k : Int))).run Tryd.prog w = .ok (.int .u8 (x : Int)) w := idx_str s k x hlt hx
      clear hx h48
      go_wp2
      go_round
      case rel => exact ⟨k + 1, m * 10 + (x - 48), by omega, by go_num, by go_num, hnext⟩
      case measure => simp [intOf]; omega
    · have hE : m = n := by
        rw [HM.out, HN.out, List.take_of_length_le (by simp; omega)]
      have HE := Lib.hid hE; clear hE
      go_wp2
      go_ret
      exact ⟨ret_int (by rw [HE.out]), rfl⟩
theorem below_row0 (w : World) (k : Nat) : Below w.heap.size w (w.drewN k) := ⟨rfl, rfl, rfl, Nat.le_refl _, fun _ _ => rfl⟩
theorem rdays_of (a b c : Int) (w : World) : Calls Tryd.prog 27 #[.int .i64 a, .int .i64 b, .int .i64 c] w fun e w' => e = .returned (.tuple #[.int .i64 (if Cal.Valid a b c then Cal.num a b c else 0), .int .i64 (if Cal.Valid a b c then 0 else 1)]) ∧ w' = w := by
  by_cases hv : Cal.Valid a b c
  · refine (rdays_yes a b c hv w).mono ?_
    rintro e w' ⟨rfl, rfl⟩
    rw [if_pos hv, if_pos hv]; exact ⟨rfl, rfl⟩
  · refine (rdays_no a b c hv w).mono ?_
    rintro e w' ⟨rfl, rfl⟩
    rw [if_neg hv, if_neg hv]; exact ⟨rfl, rfl⟩
set_option maxHeartbeats 1000000 in
set_option maxRecDepth 100000 in
theorem rparse_any (s : ByteArray) (w : World) (hm : s.size ≤ 9223372036854775807) :
    Calls Tryd.prog 16 #[.string s] w fun e w' => ParseOf s.data.toList e ∧ Below w.heap.size w w' := by
  by_cases h10 : s.size = 10
  · have hl : s.data.toList.length = 10 := by simpa using h10
    have HL := Lib.hid hl; clear hl
    have hsz1 : ((s.size : Int) == 10) = true := by simp; omega
    have hsz2 : ((s.size : Int) != 10) = false := by simp; omega
    have hsz : s.size ≤ 10 := by omega
    have hsz3 : 10 ≤ s.size := by omega
    clear h10
    go_enter Tryd.func16, Tryd.ntmps16
    go_wp2
    go_loop [4, 5] (fun i _ => ∃ k : Nat, k ≤ 10 ∧ i = .int .i64 (k : Int) ∧ Hid (∀ j, j < k → Prs.okAt s.data.toList j)) (fun i _ => 10 - (intOf i).toNat)
    case atStart => exact ⟨0, by omega, rfl, Lib.hid (fun j hj => by omega)⟩
    case round =>
      obtain ⟨k, hk, rfl, HO⟩ := hrel
      by_cases hlt : k < 10
      · obtain ⟨x, hx⟩ : ∃ x, x = (s[k]'(by omega)).toNat := ⟨_, rfl⟩
        have hix := idx_str s k x (by omega) hx
        have hx9 : x < 256 := by rw [hx]; exact UInt8.toNat_lt _
        have hgk : s.data.toList[k]? = some (s[k]'(by omega)) := by
          rw [List.getElem?_eq_getElem (by simp; omega)]; rfl
        have HG := Lib.hid hgk; clear hgk
        have HX := Lib.hid hx; clear hx
        have hno : ¬ Prs.okAt s.data.toList k → ∀ p q r, ¬ Prs.Fields s.data.toList p q r := fun h p q r hf => h (Prs.fields_ok hf k hlt)
        by_cases hd4 : k = 4 ∨ k = 7
        · have hb5 : (((k : Int) == 4) || ((k : Int) == 7)) = true := by simp; omega
          by_cases h45 : x = 45
          · have hok : Prs.okAt s.data.toList k := ⟨_, HG.out, (fun _ => UInt8.toNat_inj.1 (by rw [← HX.out, h45]; rfl)), fun h => absurd hd4 h⟩
            have HK : Hid (∀ j, j < k + 1 → Prs.okAt s.data.toList j) := Lib.hid (fun j hj => by
              rcases Nat.lt_or_eq_of_le (Nat.le_of_lt_succ hj) with h | rfl
              · exact HO.out j h
              · exact hok)
            clear hno hok
            subst h45
            clear hx9
            rcases hd4 with rfl | rfl
            · have hix4 : ∀ w : World, (Instr.index 9 (.string s) (.int .i64 4)).run Tryd.prog w = .ok (.int .u8 45) w := hix
              clear hix
              go_wp2
              go_round
              case rel => exact ⟨5, by omega, by first | rfl | go_num, HK⟩
              case measure => simp [intOf]
            · have hix4 : ∀ w : World, (Instr.index 9 (.string s) (.int .i64 7)).run Tryd.prog w = .ok (.int .u8 45) w := hix
              clear hix
              go_wp2
              go_round
              case rel => exact ⟨8, by omega, by first | rfl | go_num, HK⟩
              case measure => simp [intOf]
          · have hbad : ¬ Prs.okAt s.data.toList k := by
              rintro ⟨c, h1, h2, _⟩
              rw [HG.out] at h1
              injection h1 with h1
              have := h2 hd4
              rw [← h1] at this
              exact h45 (by rw [HX.out, this]; rfl)
            have HN := Lib.hid (hno hbad)
            have hx1 : ((x : Int) == 45) = false := by simp; omega
            have hx2 : ((x : Int) != 45) = true := by simp; omega
            clear hno hbad h45
            rcases hd4 with rfl | rfl
            · have hix4 : ∀ w : World, (Instr.index 9 (.string s) (.int .i64 4)).run Tryd.prog w = .ok (.int .u8 (x : Int)) w := hix
              clear hix
              go_wp2
              go_ret2
              exact ⟨parseOf_no HN.out, Below.refl _ _⟩
            · have hix4 : ∀ w : World, (Instr.index 9 (.string s) (.int .i64 7)).run Tryd.prog w = .ok (.int .u8 (x : Int)) w := hix
              clear hix
              go_wp2
              go_ret2
              exact ⟨parseOf_no HN.out, Below.refl _ _⟩
        · have hk4 : ((k : Int) == 4) = false := by simp; omega
          have hk7 : ((k : Int) == 7) = false := by simp; omega
          by_cases hdg : 48 ≤ x ∧ x ≤ 57
          · have hok : Prs.okAt s.data.toList k := ⟨_, HG.out, (fun h => absurd h hd4), fun _ => Prs.dig_iff.2 (by rw [← HX.out]; exact hdg)⟩
            have HK : Hid (∀ j, j < k + 1 → Prs.okAt s.data.toList j) := Lib.hid (fun j hj => by
              rcases Nat.lt_or_eq_of_le (Nat.le_of_lt_succ hj) with h | rfl
              · exact HO.out j h
              · exact hok)
            have g1 : ¬ (x : Int) < 48 := by omega
            have g2 : ¬ 57 < (x : Int) := by omega
            clear hno hok hdg hd4
            go_wp2
            go_round
            case rel => exact ⟨k + 1, by omega, by go_num, HK⟩
            case measure => simp [intOf]; omega
          · have hbad : ¬ Prs.okAt s.data.toList k := by
              rintro ⟨c, h1, _, h2⟩
              rw [HG.out] at h1
              injection h1 with h1
              have := Prs.dig_iff.1 (h2 hd4)
              rw [← h1, ← HX.out] at this
              exact hdg this
            have HN := Lib.hid (hno hbad)
            clear hno hbad hd4
            by_cases g1 : (x : Int) < 48
            · clear hdg
              go_wp2
              go_ret2
              exact ⟨parseOf_no HN.out, Below.refl _ _⟩
            · have g2 : 57 < (x : Int) := by omega
              clear hdg
              go_wp2
              go_ret2
              exact ⟨parseOf_no HN.out, Below.refl _ _⟩
      · have hF := Prs.ok_fields HL.out (fun i hi => HO.out i (by omega))
        have d1 : (s.extract 0 4).data.toList = s.data.toList.take 4 := by rw [Lib.extract_data]; simp
        have d2 : (s.extract 5 7).data.toList = (s.data.toList.drop 5).take 2 := by rw [Lib.extract_data]
        have d3 : (s.extract 8 s.size).data.toList = s.data.toList.drop 8 := by rw [Lib.extract_to_end]
        have hF2 := hF
        obtain ⟨_, l1, l2, l3, g1, g2, g3⟩ := hF2
        rw [← d1] at g1
        rw [← d2] at g2
        rw [← d3] at g3
        obtain ⟨y, hy⟩ : ∃ y, y = Prs.dval 0 (s.extract 0 4).data.toList := ⟨_, rfl⟩
        obtain ⟨m, hmm⟩ : ∃ m, m = Prs.dval 0 (s.extract 5 7).data.toList := ⟨_, rfl⟩
        obtain ⟨d, hd⟩ : ∃ d, d = Prs.dval 0 (s.extract 8 s.size).data.toList := ⟨_, rfl⟩
        have C1 := Lib.hid (rnum_any (s.extract 0 4) g1 (by simp; omega) y hy)
        have C2 := Lib.hid (rnum_any (s.extract 5 7) g2 (by simp; omega) m hmm)
        have C3 := Lib.hid (rnum_any (s.extract 8 s.size) g3 (by simp; omega) d hd)
        rw [d1] at hy
        rw [d2] at hmm
        rw [d3] at hd
        have C4 := Lib.hid (rdays_of (y : Int) (m : Int) (d : Int))
        have HF := Lib.hid hF
        have HY := Lib.hid hy
        have HM := Lib.hid hmm
        have HD := Lib.hid hd
        clear d1 d2 d3 l1 l2 l3 g1 g2 g3 hy hmm hd hF
        by_cases hv : Cal.Valid (y : Int) (m : Int) (d : Int)
        · have e1 : (if Cal.Valid (y : Int) (m : Int) (d : Int) then Cal.num (y : Int) (m : Int) (d : Int) else 0) = Cal.num (y : Int) (m : Int) (d : Int) := if_pos hv
          have e2 : (if Cal.Valid (y : Int) (m : Int) (d : Int) then (0 : Int) else 1) = 0 := if_pos hv
          have HR : Hid (ParseOf s.data.toList (.returned (.tuple #[.int .i64 (Cal.num (y : Int) (m : Int) (d : Int)), .int .i64 0]))) := Lib.hid (.inl ⟨_, _, _, HF.out, by unfold V; rw [← HY.out, ← HM.out, ← HD.out]; exact hv, by rw [← HY.out, ← HM.out, ← HD.out]⟩)
          have C5 : Hid (∀ w : World, Calls Tryd.prog 27 #[.int .i64 (y : Int), .int .i64 (m : Int), .int .i64 (d : Int)] w fun e w' => e = .returned (.tuple #[.int .i64 (Cal.num (y : Int) (m : Int) (d : Int)), .int .i64 0]) ∧ w' = w) := Lib.hid (fun w => by have := C4.out w; rw [e1, e2] at this; exact this)
          clear hv e1 e2 C4
          go_wp2
          go_quiet ((first
            | (go_at_call 28; with_reducible exact Calls.quiet_of_same (C1.out _))
            | (go_at_call 28; with_reducible exact Calls.quiet_of_same (C2.out _))
            | (go_at_call 28; with_reducible exact Calls.quiet_of_same (C3.out _))
            | (go_at_call 27; with_reducible exact Calls.quiet_of_same (C5.out _))))
          go_wp2
          go_ret2
          exact ⟨HR.out, below_row0 w _⟩
        · have e1 : (if Cal.Valid (y : Int) (m : Int) (d : Int) then Cal.num (y : Int) (m : Int) (d : Int) else 0) = 0 := if_neg hv
          have e2 : (if Cal.Valid (y : Int) (m : Int) (d : Int) then (0 : Int) else 1) = 1 := if_neg hv
          have HR : Hid (ParseOf s.data.toList (.returned (.tuple #[.int .i64 0, .int .i64 3]))) := Lib.hid (.inr ⟨fun p q r hf => by
            obtain ⟨rfl, rfl, rfl⟩ := Prs.fields_same hf HF.out
            unfold V; rw [← HY.out, ← HM.out, ← HD.out]; exact hv, rfl⟩)
          have C5 : Hid (∀ w : World, Calls Tryd.prog 27 #[.int .i64 (y : Int), .int .i64 (m : Int), .int .i64 (d : Int)] w fun e w' => e = .returned (.tuple #[.int .i64 0, .int .i64 1]) ∧ w' = w) := Lib.hid (fun w => by have := C4.out w; rw [e1, e2] at this; exact this)
          clear hv e1 e2 C4
          go_wp2
          go_quiet ((first
            | (go_at_call 28; with_reducible exact Calls.quiet_of_same (C1.out _))
            | (go_at_call 28; with_reducible exact Calls.quiet_of_same (C2.out _))
            | (go_at_call 28; with_reducible exact Calls.quiet_of_same (C3.out _))
            | (go_at_call 27; with_reducible exact Calls.quiet_of_same (C5.out _))))
          go_wp2
          go_ret2
          exact ⟨HR.out, below_row0 w _⟩
  · have hno : ∀ p q r, ¬ Prs.Fields s.data.toList p q r := fun p q r hf => h10 (by have := (Prs.fields_count hf).2.2; simpa using this)
    have HN := Lib.hid hno; clear hno
    have hsz1 : ((s.size : Int) == 10) = false := by simp; omega
    have hsz2 : ((s.size : Int) != 10) = true := by simp; omega
    clear h10
    go_enter Tryd.func16, Tryd.ntmps16
    go_wp2
    go_ret2
    exact ⟨parseOf_no HN.out, Below.refl _ _⟩
end Go.Proofs.YtfifbcniilaehaaDoor

/- Parts of the proof, one behind the other: Contracts: engine.Open, of a new store. -/
import Derived.Test.YtekbdedpombgcaaGreatDoorMrg48
import Derived.OrdersHeld
namespace Go.Proofs.YtekbdedpombgcaaGreatDoor
open Go.RowKit Go.Maps

namespace Eng
theorem four_cells {w W : World} {bx : Nat} {a b c d : Value} {T : TypeId} (h : w.heap[bx]? = some (.cells #[a, b, c, d] T)) (hb : Below w.heap.size w W) : W.cell? ⟨bx, 0, none⟩ = some a ∧ W.cell? ⟨bx, 1, none⟩ = some b ∧ W.cell? ⟨bx, 2, none⟩ = some c ∧ W.cell? ⟨bx, 3, none⟩ = some d ∧ Below w.heap.size w W := by
  have e := (hb.block bx (Array.getElem?_eq_some_iff.1 h).1).trans h
  exact ⟨by rw [cell_of_row W bx 0 _ _ (0, 0) e]; rfl, by rw [cell_of_row W bx 1 _ _ (0, 0) e]; rfl, by rw [cell_of_row W bx 2 _ _ (0, 0) e]; rfl, by rw [cell_of_row W bx 3 _ _ (0, 0) e]; rfl, hb⟩
/-- The log and the last moment are put down. -/
theorem At.logged {w0 w : World} {base g : Nat} {a b c d : Int} {bx ge tm hm : Nat} {hd : Nd} {bk : Option Addr} {s : Sto.St} {m : Sto.Mem} {l : Wal.Lg} {x : Wal.Lm} (h : At w0 base g a b c d bx ge tm hm hd none bk 0 w) (hl : Wal.LS w base g s m l x) (p : Option Addr) :
    (At w0 base g a b c d bx ge tm hm hd p bk 0 ((w.setCell ⟨ge, 5, none⟩ (.pointer p)).setCell ⟨ge, 9, none⟩ (.int .i64 0)) ∧ Wal.LS ((w.setCell ⟨ge, 5, none⟩ (.pointer p)).setCell ⟨ge, 9, none⟩ (.int .i64 0)) base g s m l x) ∧
    (At w0 base g a b c d bx ge tm hm hd p bk 0 ((w.setCell ⟨ge, 9, none⟩ (.int .i64 0)).setCell ⟨ge, 5, none⟩ (.pointer p)) ∧ Wal.LS ((w.setCell ⟨ge, 9, none⟩ (.int .i64 0)).setCell ⟨ge, 5, none⟩ (.pointer p)) base g s m l x) := by
  have h1 : At w0 base g a b c d bx ge tm hm hd p bk 0 (w.setCell ⟨ge, 5, none⟩ (.pointer p)) := h.turn (by have e := h.en; unfold enObj at e; exact (en_set e _).1) h.book
  have h2 : At w0 base g a b c d bx ge tm hm hd none bk 0 (w.setCell ⟨ge, 9, none⟩ (.int .i64 0)) := h.turn (by have e := h.en; unfold enObj at e; exact (en_set e _).2.2.1) h.book
  have l1 := hl.other h.en alE (by decide) (by decide) 5 (.pointer p)
  have l2 := hl.other h.en alE (by decide) (by decide) 9 (.int .i64 0)
  exact ⟨⟨h1.turn (by have e := h1.en; unfold enObj at e; exact (en_set e _).2.2.1) h1.book, l1.other h1.en alE (by decide) (by decide) 9 (.int .i64 0)⟩, ⟨h2.turn (by have e := h2.en; unfold enObj at e; exact (en_set e _).1) h2.book, l2.other h2.en alE (by decide) (by decide) 5 (.pointer p)⟩⟩
set_option maxHeartbeats 4000000 in
set_option maxRecDepth 100000 in
theorem eopen_new {w : World} {base g : Nat} {m : Sto.Mem} (a b c d : Int) (hok : setOk a b c d = true) (h : Sto.StAt w base g (Sto.new 10000) m) (ht : TabU base w) :
    Calls Tryz.prog 6 #[.pointer (some ⟨g, 0, none⟩), .agg #[.int .i64 a, .int .i64 b, .int .i64 c, .int .i64 d]] w fun e w' => ∃ (bx ge tm hm : Nat) (hd : Nd) (gk : Nat) (m' : Sto.Mem) (x : Wal.Lm), e = .returned (.tuple #[.pointer (some ⟨ge, 0, none⟩), .int .i64 0]) ∧ At w base g a b c d bx ge tm hm hd (some ⟨x.lb, 0, none⟩) (some ⟨gk, 0, none⟩) 0 w' ∧ Wal.LS w' base g s2 m' ⟨a.toNat, 1, 0, 1, [], false⟩ x := by
  rw [setOk_eq] at hok
  simp only [Bool.and_eq_true] at hok
  obtain ⟨⟨⟨ha, hb⟩, hc⟩, hd⟩ := hok
  have HLIM : Hid (1 ≤ a ∧ a ≤ 65536) := Lib.hid (by unfold okA at ha; simpa using ha)
  have KA := Lib.hid (fun w => ewithin_any a 1 65536 w)
  have KB := Lib.hid (fun w => ewithin_any b 64 32768 w)
  have KC := Lib.hid (fun w => ewithin_any c 1 32 w)
  have KD := Lib.hid (fun w => ewithin_any d 1 20000 w)
  unfold okA at ha
  unfold okB at hb
  unfold okC at hc
  unfold okD at hd
  rw [ha] at KA
  rw [hb] at KB
  rw [hc] at KC
  rw [hd] at KD
  have hx := heap_alloc_new w (.cells #[.int .i64 a, .int .i64 b, .int .i64 c, .int .i64 d] 22)
  have hbz : base ≤ w.heap.size := Nat.le_trans (h.r.mut_ge (.inl rfl)).1 (Nat.le_of_lt (h.r.mut_ge (.inl rfl)).2)
  have c0 : (w.alloc (.cells #[.int .i64 a, .int .i64 b, .int .i64 c, .int .i64 d] 22)).cell? ⟨w.heap.size, 0, none⟩ = some (.int .i64 a) := by rw [cell_of_row _ _ 0 _ _ (0, 0) hx]; rfl
  have c1 : (w.alloc (.cells #[.int .i64 a, .int .i64 b, .int .i64 c, .int .i64 d] 22)).cell? ⟨w.heap.size, 1, none⟩ = some (.int .i64 b) := by rw [cell_of_row _ _ 1 _ _ (0, 0) hx]; rfl
  have c2 : (w.alloc (.cells #[.int .i64 a, .int .i64 b, .int .i64 c, .int .i64 d] 22)).cell? ⟨w.heap.size, 2, none⟩ = some (.int .i64 c) := by rw [cell_of_row _ _ 2 _ _ (0, 0) hx]; rfl
  have c3 : (w.alloc (.cells #[.int .i64 a, .int .i64 b, .int .i64 c, .int .i64 d] 22)).cell? ⟨w.heap.size, 3, none⟩ = some (.int .i64 d) := by rw [cell_of_row _ _ 3 _ _ (0, 0) hx]; rfl
  have HX := Lib.hid hx
  have HBZ := Lib.hid hbz
  have HST := Lib.hid h
  have HT := Lib.hid ht
  clear hx ha hb hc hd h ht hbz
  go_enter Tryz.func6, Tryz.ntmps6
  go_wp2_with fail
  refine (KA.out _).mono ?_
  rintro e w1 ⟨rfl, rfl⟩
  go_wp2_with fail
  refine (KB.out _).mono ?_
  rintro e w1 ⟨rfl, rfl⟩
  go_wp2_with fail
  refine (KC.out _).mono ?_
  rintro e w1 ⟨rfl, rfl⟩
  go_wp2_with fail
  refine (KD.out _).mono ?_
  rintro e w1 ⟨rfl, rfl⟩
  clear KA KB KC KD c0 c1 c2 c3
  go_upto_region 3 with fail
  obtain ⟨W, hW⟩ : ∃ W, W = w.alloc (.cells #[.int .i64 a, .int .i64 b, .int .i64 c, .int .i64 d] 22) := ⟨_, rfl⟩
  have HB : Hid (Below w.heap.size w W) := Lib.hid (by rw [hW]; exact (Below.refl _ _).alloc (Nat.le_refl _) _)
  have HXW : Hid (W.heap[w.heap.size]? = some (.cells #[.int .i64 a, .int .i64 b, .int .i64 c, .int .i64 d] 22)) := Lib.hid (by rw [hW]; exact HX.out)
  rw [← hW]
  clear hW HX
  go_cut [6] from 48 to 54 (fun v wx => ∃ (ge tm hm : Nat) (hd : Nd), v = .pointer (some ⟨ge, 0, none⟩) ∧ Hid (At w base g a b c d w.heap.size ge tm hm hd none none 0 wx ∧ Below w.heap.size w wx))
  case first =>
    have hmm := @run_makeMap Tryz.prog
    go_region_held (fun W' => W'.cell? ⟨w.heap.size, 0, none⟩ = some (.int .i64 a) ∧ W'.cell? ⟨w.heap.size, 1, none⟩ = some (.int .i64 b) ∧ W'.cell? ⟨w.heap.size, 2, none⟩ = some (.int .i64 c) ∧ W'.cell? ⟨w.heap.size, 3, none⟩ = some (.int .i64 d) ∧ Below W.heap.size W W')
      (first | exact four_cells HXW.out (Below.refl _ _).drew | exact four_cells HXW.out hbw | exact four_cells HXW.out (Below.alloc (by go_split_ands; assumption) (by go_split_ands; exact Below.size (by assumption)) _))
      (first | (go_at_call 11; (with_reducible refine (snew_any _).mono ?_); rintro e w2 ⟨hd, rfl, hsk, hb2⟩; have hbw := Below.trans (b := _) (by go_split_ands; assumption : Below W.heap.size W _) (hb2.mono (by go_split_ands; exact Below.size (by assumption)))))
    all_goals (
      go_wp2_with fail
      go_meet
      exact ⟨_, _, _, hd, rfl, Lib.hid (At.made HBZ.out HB.out HB.out.size (by first | exact (Below.refl _ _).drew | exact (Below.refl _ _).drew.alloc (by simp) _ | exact ((Below.refl _ _).drew.alloc (by simp) _).alloc (by simp <;> omega) _) hsk hb2
        (by first | exact Below.refl _ _ | exact (Below.refl _ _).alloc (Nat.le_refl _) _ | exact ((Below.refl _ _).alloc (Nat.le_refl _) _).alloc (by simp) _) (by first | rfl | simp) HXW.out)⟩)
  case rest =>
    obtain ⟨ge, tm, hm, hd, rfl, HA⟩ := hcut
    have HS1 := Lib.hid (HST.out.below HA.out.2)
    have HT1 := Lib.hid (HT.out.keep HA.out.1.bel)
    have KO := Lib.hid (Ver.open_new wc base g m (Sto.new 10000) HS1.out HT1.out rfl (by show (0 : Nat) ≤ 800000; decide) (by show (0 : Nat) ≤ 800000; decide) (by decide +kernel) pB rfl pB_facts.1 pB_facts.2.1 (by have := pB_facts.2.2.1; unfold s1 at this; omega))
    go_wp2_with fail
    refine KO.out.mono ?_
    rintro e w2 ⟨gk, m2, rfl, hgk, hst2, haf, hbk⟩
    have HA2 := Lib.hid (HA.out.1.aft0 HS1.out (Aft0.of_aft haf))
    have HS2 := Lib.hid hst2
    have HBK := Lib.hid hbk
    have f6 := HA2.out.frozen 6
    have c6 := HA2.out.cells.2.1
    clear hgk hst2 haf hbk KO HS1 HT1
    go_wp2_with fail
    clear f6 c6
    have HA3 : Hid (At w base g a b c d w.heap.size ge tm hm hd none (some ⟨gk, 0, none⟩) 0 (w2.setCell ⟨ge, 6, none⟩ (.pointer (some ⟨gk, 0, none⟩)))) := Lib.hid (HA2.out.turn (by have e := HA2.out.en; unfold enObj at e; exact (en_set e _).2.1) (fun k e => by cases e; exact HBK.out))
    have HS3 := Lib.hid (HA2.out.st_turn HS2.out 6 (.pointer (some ⟨gk, 0, none⟩)))
    obtain ⟨W3, hW3⟩ : ∃ W3, W3 = w2.setCell ⟨ge, 6, none⟩ (.pointer (some ⟨gk, 0, none⟩)) := ⟨_, rfl⟩
    rw [← hW3] at HA3 HS3 ⊢
    have KST := Lib.hid (Ver.state_any W3 W3.heap.size g gk pB.2 none 0 [] 0 1 false (HA3.out.book gk rfl) (OwV.nil _ _) (by simp) (fun v hv => by cases hv))
    clear hW3
    refine KST.out.mono ?_
    rintro e w4 ⟨A', c', l', rfl, hl', -, hb4⟩
    obtain rfl : l' = [] := by simpa using hl'
    have HA4 := Lib.hid (HA3.out.below hb4)
    have HS4 := Lib.hid (HS3.out.below hb4)
    clear hl' hb4 KST
    go_wp2_with fail
    refine wp_loop_rounds 1 ?_
    rw [rounds_succ]
    obtain ⟨W5, hW5⟩ : ∃ W5, W5 = w4.alloc (.cells #[.slice A' 0 c', .int .i64 0, .int .i64 1] 63) := ⟨_, rfl⟩
    have hb5 : Below w4.heap.size w4 W5 := by rw [hW5]; exact (Below.refl _ _).alloc (Nat.le_refl _) _
    have hx5 : W5.heap[w4.heap.size]? = some (.cells #[.slice A' 0 c', .int .i64 0, .int .i64 1] 63) := by rw [hW5]; exact heap_alloc_new w4 _
    have HA5 := Lib.hid (HA4.out.below hb5)
    have HS5 := Lib.hid (HS4.out.below hb5)
    have HX5 := Lib.hid hx5
    have HT5 := Lib.hid (HT.out.keep HA5.out.bel)
    have KW := Lib.hid (Wal.opens_any HS5.out HT5.out HA5.out.sk.size a (by have := pB_facts.2.2.2.1; unfold s1 at this; omega) (by have := pB_facts.2.2.1; unfold s1 at this; omega))
    have eo := opens_s1 a HLIM.out.1 HLIM.out.2
    unfold s1 at eo
    rw [eo] at KW
    have c0 := (four_cells HA5.out.box (Below.refl _ _)).1
    try rw [← hW5]
    clear hb5 hx5 hW5 eo
    go_wp2_with fail
    refine KW.out.mono ?_
    rintro e w6 h6
    rcases h6 with ⟨h6, _⟩ | ⟨l, bs, lb, A, c6, Y, m6, h6, _, rfl, hls, haf, hlb, hY, hYs⟩
    · cases h6
    injection h6 with h6
    injection h6 with h6 h7
    subst h6 h7
    obtain rfl : Y = [] := by simpa using hY
    have HA6 := Lib.hid (HA5.out.aft0 HS5.out haf)
    have HX6 := Lib.hid (aft0_tag HS5.out haf HX5.out alS)
    have HL6 := Lib.hid hls
    clear hls haf hlb hY hYs KW c0
    obtain ⟨q0, q1, q2⟩ : w6.cell? ⟨w4.heap.size, 0, none⟩ = some (.slice A' 0 c') ∧ w6.cell? ⟨w4.heap.size, 1, none⟩ = some (.int .i64 0) ∧ w6.cell? ⟨w4.heap.size, 2, none⟩ = some (.int .i64 1) := ⟨by rw [cell_of_row w6 _ 0 _ _ (0, 0) HX6.out]; rfl, by rw [cell_of_row w6 _ 1 _ _ (0, 0) HX6.out]; rfl, by rw [cell_of_row w6 _ 2 _ _ (0, 0) HX6.out]; rfl⟩
    go_upto_region 22 with fail
    have hne : ge ≠ w4.heap.size := Sto.Tag.ne ⟨_, _, HA6.out.en⟩ ⟨_, _, HX6.out⟩ (by decide)
    have hne2 : w4.heap.size ≠ ge := fun e => hne e.symm
    have f5 := HA6.out.frozen 5
    have f9 := HA6.out.frozen 9
    obtain ⟨c5, -, -, c9, -, -⟩ := HA6.out.cells
    go_cut [] from 114 to 122 (fun wx => Hid (At w base g a b c d w.heap.size ge tm hm hd (some ⟨lb, 0, none⟩) (some ⟨gk, 0, none⟩) 0 wx ∧ Wal.LS wx base g s2 m6 ⟨a.toNat, 1, 0, 1, [], false⟩ ⟨lb, none, 0, []⟩))
    case first =>
      go_region
      all_goals (go_wp2_with fail; go_meet)
      have L := (HA6.out.logged HL6.out (some ⟨lb, 0, none⟩)).1
      exact Lib.hid ⟨L.1.below (Below.refl _ _).drew, L.2.below (Below.refl _ _).drew⟩
    case rest =>
      have HC := hcut
      clear hcut c5 c9 f5 f9 hne hne2 q0 q1 q2
      go_wp2_with fail
      refine wp_loop_rounds 1 ?_
      rw [rounds_succ]
      obtain ⟨-, -, -, c9, -, -⟩ := HC.out.1.cells
      go_wp2_with fail
      have KS := Wal.skip_any HC.out.2 1
      have e1 : Wal.skip ⟨a.toNat, 1, 0, 1, [], false⟩ 1 = (0, ⟨a.toNat, 1, 0, 1, [], false⟩) := rfl
      rw [e1] at KS
      refine KS.mono ?_
      rintro e w7 ⟨rfl, m7, hl7, ha7⟩
      have HF : Hid (At w base g a b c d w.heap.size ge tm hm hd (some ⟨lb, 0, none⟩) (some ⟨gk, 0, none⟩) 0 w7 ∧ Wal.LS w7 base g s2 m7 ⟨a.toNat, 1, 0, 1, [], false⟩ ⟨lb, none, 0, []⟩) := Lib.hid ⟨HC.out.1.laft HC.out.2 ha7, hl7⟩
      clear hl7 ha7 KS c9 HC
      go_wp2_with fail
      go_ret2
      exact ⟨_, ge, tm, hm, hd, gk, m7, ⟨lb, none, 0, []⟩, rfl, HF.out.1, HF.out.2⟩
end Eng
end Go.Proofs.YtekbdedpombgcaaGreatDoor

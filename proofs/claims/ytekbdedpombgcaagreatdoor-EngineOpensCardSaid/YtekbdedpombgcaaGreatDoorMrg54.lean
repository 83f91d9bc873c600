/- Parts of the proof, one behind the other: Contracts: engine.Get, behind one op.; The walk of EngineOpens.; The walk of EngineOpens. -/
import Derived.Test.YtekbdedpombgcaaGreatDoorMrg50
import Derived.Test.YtekbdedpombgcaaGreatDoorMrg51
import Derived.Test.YtekbdedpombgcaaGreatDoorMrg45
import Derived.Test.YtekbdedpombgcaaGreatDoorMrg53
import Derived.Lib.SlBytesConst
namespace Go.Proofs.YtekbdedpombgcaaGreatDoor
open Go.RowKit Go.Maps

namespace Eng
theorem alO : Wal.Alien 36 := ⟨by decide, by decide, by decide, by decide, by decide, by decide⟩
theorem alOs : Wal.Alien 37 := ⟨by decide, by decide, by decide, by decide, by decide, by decide⟩
/-- One batch of one op, apart from the log. -/
structure OpL (w : World) (g : Nat) (m : Sto.Mem) (x : Wal.Lm) (lk ob : Nat) (kA : Option Addr) (kc : Nat) (k : List UInt8) (vA : Option Addr) (vc : Nat) (v : List UInt8) : Prop where
  row : w.heap[lk]? = some (.cells #[.slice (some ⟨ob, 0, none⟩) 1 1] 37)
  op : OpAt w ob kA kc k vA vc v
  ka : ∀ q, blk kA = some q → q < w.heap.size ∧ ¬ Wal.LMut g m x q
  va : ∀ q, blk vA = some q → q < w.heap.size ∧ ¬ Wal.LMut g m x q
section
variable {w0 w w' : World} {base g : Nat} {s : Sto.St} {m m' : Sto.Mem} {l : Wal.Lg} {x x' : Wal.Lm} {lk ob kc vc : Nat} {kA vA : Option Addr} {k v : List UInt8}
theorem OpL.below (h : OpL w g m x lk ob kA kc k vA vc v) (hb : Below w.heap.size w w') : OpL w' g m x lk ob kA kc k vA vc v :=
  ⟨(hb.block lk (Array.getElem?_eq_some_iff.1 h.row).1).trans h.row, h.op.below hb, fun q e => ⟨Nat.lt_of_lt_of_le (h.ka q e).1 hb.size, (h.ka q e).2⟩, fun q e => ⟨Nat.lt_of_lt_of_le (h.va q e).1 hb.size, (h.va q e).2⟩⟩
theorem OpL.laft (h : OpL w g m x lk ob kA kc k vA vc v) (hs : Wal.LS w base g s m l x) (ha : Wal.LAft w w' g m x m' x') : OpL w' g m' x' lk ob kA kc k vA vc v :=
  ⟨Wal.laft_tag hs ha h.row alOs (by decide) (by decide), ⟨Wal.laft_tag hs ha h.op.row alO (by decide) (by decide), rdB_keepS h.op.kr ha.size (fun q e _ => ha.block q (h.ka q e).1 (h.ka q e).2), rdB_keepS h.op.vr ha.size (fun q e _ => ha.block q (h.va q e).1 (h.va q e).2)⟩,
    fun q e => ⟨Nat.lt_of_lt_of_le (h.ka q e).1 ha.size, fun hm => (h.ka q e).2 (ha.turn q (h.ka q e).1 hm)⟩, fun q e => ⟨Nat.lt_of_lt_of_le (h.va q e).1 ha.size, fun hm => (h.va q e).2 (ha.turn q (h.va q e).1 hm)⟩⟩
theorem OpL.cell (h : OpL w g m x lk ob kA kc k vA vc v) : w.cell? ⟨lk, 0, none⟩ = some (.slice (some ⟨ob, 0, none⟩) 1 1) := by
  rw [cell_of_row w lk 0 _ _ (0, 0) h.row]; rfl
end
set_option maxHeartbeats 4000000 in
set_option maxRecDepth 100000 in
theorem group_one {w0 w : World} {base g : Nat} {b c d : Int} {bx ge tm hm gk : Nat} {hd : Nd} {m : Sto.Mem} {x : Wal.Lm} (h : At w0 base g 1000 b c d bx ge tm hm hd (some ⟨x.lb, 0, none⟩) (some ⟨gk, 0, none⟩) 0 w) (hl : Wal.LS w base g s2 m ⟨1000, 1, 0, 1, [], false⟩ x) (ht : TabU base w0) {lk ob kc vc : Nat} {kA vA : Option Addr} (ho : OpL w g m x lk ob kA kc [97] vA vc [1]) :
    Calls Tryz.prog 21 #[.pointer (some ⟨ge, 0, none⟩), .slice (some ⟨lk, 0, none⟩) 1 1, .int .i64 0] w fun e w' => e = .returned (.tuple #[.int .i64 1, .int .i64 0]) ∧ ∃ lg, At1 w0 base g 1000 b c d ge tm hm hd lg gk ([97], 1, false, [1]) w' := by
  have KW : Hid (∀ w, Calls Tryz.prog 10 #[.int .i64 1, .int .i64 1, .int .i64 50] w fun e w' => e = .returned (.bool true) ∧ w' = w) := Lib.hid (fun w => by simpa using ewithin_any 1 1 50 w)
  have eb : enc1 [97] [1] = bt := by decide +kernel
  have KE := Lib.hid (encoded_one ho.op (by decide) (by decide) (by rw [eb]; decide))
  rw [eb] at KE
  have H := Lib.hid h
  have HL := Lib.hid hl
  have HO := Lib.hid ho
  have HT := Lib.hid ht
  have c11 := h.cells.2.2.2.2.1
  have r0 := ho.cell
  clear h hl ho ht eb
  go_enter Tryz.func21, Tryz.ntmps21
  go_wp2_with fail
  refine wp_loop_rounds 2 ?_
  rw [rounds_succ]
  go_wp2_with fail
  refine KE.out.mono ?_
  rintro e w1 ⟨A, cA, rfl, hoA, hb1⟩
  have H1 := Lib.hid (H.out.below hb1)
  have HL1 := Lib.hid (HL.out.below hb1)
  have HO1 := Lib.hid (HO.out.below hb1)
  have HA1 := Lib.hid hoA
  obtain ⟨W, hW⟩ : ∃ W, W = w1.alloc (.cells #[.slice A bt.length cA] 34) := ⟨_, rfl⟩
  have hrd := rd_yv_new w1 ⟨A, cA, bt⟩
  simp only at hrd
  have hzW : W.heap.size = w1.heap.size + 1 := by rw [hW]; simp
  have hbW : Below w1.heap.size w1 W := by rw [hW]; exact (Below.refl _ _).alloc (Nat.le_refl _) _
  rw [← hW] at hrd
  have HRD := Lib.hid hrd
  have HBW := Lib.hid hbW
  have hbl : bt.length = 6 := rfl
  rw [hbl] at hW ⊢
  clear hoA hb1 c11 r0 KE hrd hbW
  go_wp2_with (at_builtin; rw [← hW]; refine wpList_append_s _ rfl _ _ yvT rfl 0 none 0 [] rfl (OwnS.nil _ _ _) (w1.heap.size + 1) (some ⟨w1.heap.size, 0, none⟩) 1 1 [⟨A, cA, bt⟩] rfl rfl HRD.out (by simp) (by unfold maxLen; simp) (Nat.zero_le _) ?_; intro A8 c8 L8 w8 hl8 ho8 hg8 hat8)
  obtain rfl : L8 = [⟨A, cA, bt⟩] := hl8
  have hb8 : Below W.heap.size W w8 := ⟨hg8.os, hg8.tape, hg8.output, hg8.size, fun q hq => hg8.block q hq (fun e => by cases e)⟩
  have hb18 : Below w1.heap.size w1 w8 := HBW.out.trans (hb8.mono HBW.out.size)
  have H8 := Lib.hid (H1.out.below hb18)
  have HL8 := Lib.hid (HL1.out.below hb18)
  have HO8 := Lib.hid (HO1.out.below hb18)
  have HA8 := Lib.hid (HA1.out.below hb18)
  obtain ⟨b8, o8, rfl, hlt8, hc8⟩ := RdS.row (f := Yv.cells) (n := 1) (fun _ => rfl) (by omega) ho8.rd (by simp)
  have r8 := hc8 0 (by simp) 0 _ rfl
  simp only [Nat.zero_mul, Nat.add_zero, List.getElem_cons_zero] at r8
  rw [hbl] at r8
  have c5 := H8.out.cells.1
  clear hg8 hat8 ho8 hb8 hb18 hlt8 hc8 HRD HBW hW hzW H1 HL1 HO1 HA1
  rw [rounds_succ]
  go_wp2_with fail
  refine (KW.out _).mono ?_
  rintro e w9 ⟨rfl, he⟩
  rw [he]
  clear he w9
  go_wp2_with fail
  refine wp_loop_rounds 2 ?_
  rw [rounds_succ]
  go_wp2_with fail
  have KA := Wal.add_any HL8.out A cA bt HA8.out.rd (by decide)
  rw [add_l0] at KA
  refine KA.mono ?_
  rintro e w9 ⟨he, m9, x9, hl9, ha9⟩
  obtain rfl : e = .returned (.tuple #[.int .i64 1, .int .i64 0]) := he
  have HL9 : Hid (Wal.LS w9 base g s2 m9 l1 x9) := Lib.hid hl9
  have H9 := Lib.hid (H8.out.laft HL8.out ha9)
  have HO9 := Lib.hid (HO8.out.laft HL8.out ha9)
  have KC := Lib.hid (Wal.commit_any HL9.out (HT.out.keep H9.out.bel) (by have := pB_facts.2.2.2.2.2.2.2.2.2; omega) (by have := pB_facts.2.2.2.2.2.2.2.2.1; omega) (by decide))
  rw [ha9.lb] at KC
  obtain ⟨r, hr⟩ : ∃ r, r = Wal.commit s2 l1 := ⟨_, rfl⟩
  have h0 : r.1 = 0 := by rw [hr]; exact commit_l1
  rw [← hr, h0] at KC
  clear c5 r8 hl9 ha9 KA H8 HL8 HO8 HA8 hr h0
  have c5 := H9.out.cells.1
  go_wp2_with fail
  rw [rounds_succ]
  go_wp2_with fail
  refine KC.out.mono ?_
  rintro e w10 ⟨x10, rfl, m10, hl10, ha10⟩
  have H10 := Lib.hid (H9.out.laft HL9.out ha10)
  have HO10 := Lib.hid (HO9.out.laft HL9.out ha10)
  clear KC hl10 ha10 c5 H9 HL9 HO9
  have c9 := H10.out.cells.2.2.2.1
  have r0 := HO10.out.cell
  go_wp2_with fail
  refine wp_loop_rounds 2 ?_
  rw [rounds_succ]
  go_wp2_with fail
  refine (remember_one H10.out HO10.out.op (by decide) (by decide)).mono ?_
  rintro e w11 ⟨rfl, h11⟩
  have H11 := Lib.hid h11
  clear c9 r0 h11
  have c9 : w11.cell? ⟨ge, 9, none⟩ = some (.int .i64 1) := by
    have e := H11.out.en
    unfold enObj at e
    rw [cell_of_row w11 ge 9 _ _ (0, 0) e]; rfl
  go_wp2_with fail
  rw [rounds_succ]
  go_wp2_with fail
  go_ret2
  exact ⟨rfl, _, H11.out⟩
set_option maxRecDepth 100000 in
theorem write_one {w0 w : World} {base g : Nat} {b c d : Int} {bx ge tm hm gk : Nat} {hd : Nd} {m : Sto.Mem} {x : Wal.Lm} (h : At w0 base g 1000 b c d bx ge tm hm hd (some ⟨x.lb, 0, none⟩) (some ⟨gk, 0, none⟩) 0 w) (hl : Wal.LS w base g s2 m ⟨1000, 1, 0, 1, [], false⟩ x) (ht : TabU base w0) {ob kc vc : Nat} {kA vA : Option Addr} (ho : OpAt w ob kA kc [97] vA vc [1])
    (hka : ∀ q, blk kA = some q → q < w.heap.size ∧ ¬ Wal.LMut g m x q) (hva : ∀ q, blk vA = some q → q < w.heap.size ∧ ¬ Wal.LMut g m x q) :
    Calls Tryz.prog 8 #[.pointer (some ⟨ge, 0, none⟩), .slice (some ⟨ob, 0, none⟩) 1 1, .int .i64 0] w fun e w' => e = .returned (.tuple #[.int .i64 1, .int .i64 0]) ∧ ∃ lg, At1 w0 base g 1000 b c d ge tm hm hd lg gk ([97], 1, false, [1]) w' := by
  obtain ⟨W, hW⟩ : ∃ W, W = w.alloc (.cells #[.slice (some ⟨ob, 0, none⟩) 1 1] 37) := ⟨_, rfl⟩
  have hb : Below w.heap.size w W := by rw [hW]; exact (Below.refl _ _).alloc (Nat.le_refl _) _
  have KG := Lib.hid (group_one (h.below hb) (hl.below hb) ht (lk := w.heap.size) ⟨by rw [hW]; exact heap_alloc_new w _, ho.below hb, fun q e => ⟨Nat.lt_of_lt_of_le (hka q e).1 hb.size, (hka q e).2⟩, fun q e => ⟨Nat.lt_of_lt_of_le (hva q e).1 hb.size, (hva q e).2⟩⟩)
  rw [hW] at KG
  clear h hl ht ho hka hva hb hW
  go_enter Tryz.func8, Tryz.ntmps8
  go_wp2_with fail
  refine KG.out.mono ?_
  rintro e w1 ⟨rfl, h1⟩
  have H1 := Lib.hid h1
  clear h1 KG
  go_wp2_with fail
  go_ret2
  exact ⟨rfl, H1.out⟩
end Eng
end Go.Proofs.YtekbdedpombgcaaGreatDoor
namespace Go.Proofs.YtekbdedpombgcaaGreatDoor
open Go.RowKit Go.Maps

namespace Eng
section
variable {w0 w w' : World} {base g : Nat} {a b c d : Int} {ge tm hm gk : Nat} {hd : Nd} {lg : Option Addr} {rc : List UInt8 × Int × Bool × List UInt8}
theorem At1.below (h : At1 w0 base g a b c d ge tm hm hd lg gk rc w) (hb : Below w.heap.size w w') : At1 w0 base g a b c d ge tm hm hd lg gk rc w' := by
  obtain ⟨n, hn, hs⟩ := h.sk
  exact ⟨(hb.block ge (Array.getElem?_eq_some_iff.1 h.en).1).trans h.en, (hb.block gk (Array.getElem?_eq_some_iff.1 h.book).1).trans h.book, ⟨n, hn, hs.call hb⟩, h.geb, h.bel.trans (hb.mono hs.size)⟩
theorem At1.cells (h : At1 w0 base g a b c d ge tm hm hd lg gk rc w) : w.cell? ⟨ge, 6, none⟩ = some (.pointer (some ⟨gk, 0, none⟩)) ∧ w.cell? ⟨ge, 7, none⟩ = some (.pointer (some ⟨hd.g, 0, none⟩)) ∧ w.cell? ⟨ge, 9, none⟩ = some (.int .i64 1) ∧ w.cell? ⟨ge, 12, none⟩ = some (.int .i64 0) ∧ w.frozen? ⟨ge, 12, none⟩ = false := by
  have e := h.en
  have f := frozen_of_row w ge 12 _ _ h.en
  unfold enObj at e
  refine ⟨?_, ?_, ?_, ?_, f⟩
  all_goals (rw [cell_of_row w ge _ _ _ (0, 0) e]; rfl)
end
set_option maxHeartbeats 4000000 in
set_option maxRecDepth 100000 in
theorem get_one {w0 w : World} {base g : Nat} {a b c d : Int} {ge tm hm gk : Nat} {hd : Nd} {lg : Option Addr} (h : At1 w0 base g a b c d ge tm hm hd lg gk ([97], 1, false, [1]) w) (qA : Option Addr) (qc : Nat) (hq : RdB w w.heap.size qA [97]) :
    Calls Tryz.prog 9 #[.pointer (some ⟨ge, 0, none⟩), .slice qA 1 qc, .int .i64 1] w fun e w' => ∃ A n, e = .returned (.tuple #[.slice A 1 n, .bool true, .int .i64 0]) ∧ Below base w w' := by
  have KW : Hid (∀ w, Calls Tryz.prog 10 #[.int .i64 1, .int .i64 0, .int .i64 1] w fun e w' => e = .returned (.bool true) ∧ w' = w) := Lib.hid (fun w => by simpa using ewithin_any 1 0 1 w)
  obtain ⟨n, hn, hsk⟩ := h.sk
  obtain ⟨-, c7, c9, -, -⟩ := h.cells
  have H := Lib.hid h
  have HBZ := Lib.hid hsk.size
  have hk : n.r.k = [97] := congrArg (·.1) hn
  have hse : n.r.seq = 1 := congrArg (·.2.1) hn
  have KG := Lib.hid (sget_any base hd [n] qA qc [97] 1 0 (Nat.zero_le _) w hsk hq (fun i hi => by
    obtain rfl : i = 0 := by simp at hi; omega
    simp only [List.getElem_cons_zero, hk, hse]
    decide +kernel))
  have HN := Lib.hid hn
  have HK := Lib.hid hk
  clear h hsk hn hk hse hq
  go_enter Tryz.func9, Tryz.ntmps9
  go_wp2_with fail
  refine (KW.out _).mono ?_
  rintro e w1 ⟨rfl, he⟩
  rw [he]
  clear he w1
  go_wp2_with fail
  refine KG.out.mono ?_
  rintro e w1 ⟨hb1, h1⟩
  rcases h1 with ⟨_, h1⟩ | ⟨dn, r', h1, h2, h3, rfl, ho1, ho2⟩
  · exact absurd HK.out (h1 n rfl)
  obtain rfl : n = dn := Option.some.inj h1
  obtain ⟨rkA, rkc, rk, rs, rd, rvA, rvc, rv⟩ := r'
  rw [HN.out] at h3
  simp only [Rv.core, Prod.mk.injEq] at h3
  obtain ⟨rfl, rfl, rfl, rfl⟩ := h3
  simp only [Rv.val]
  have H1 := Lib.hid (H.out.below hb1)
  have HB1 := Lib.hid hb1
  clear h1 h2 ho1 ho2 hb1 KG c7 c9
  obtain ⟨W, hW⟩ : ∃ W, W = w1.alloc (.cells #[.slice rkA 1 rkc, .int .i64 1, .bool false, .slice rvA 1 rvc] 83) := ⟨_, rfl⟩
  have hbW : Below w1.heap.size w1 W := by rw [hW]; exact (Below.refl _ _).alloc (Nat.le_refl _) _
  have HX : Hid (W.heap[w1.heap.size]? = some (.cells #[.slice rkA 1 rkc, .int .i64 1, .bool false, .slice rvA 1 rvc] 83)) := Lib.hid (by rw [hW]; exact heap_alloc_new w1 _)
  have H2 := Lib.hid (H1.out.below hbW)
  have HB2 := Lib.hid (HB1.out.trans (hbW.mono HB1.out.size))
  have KS := Lib.hid (Ver.state_any W W.heap.size g gk pB.2 none 0 [] 0 1 false H2.out.book (OwV.nil _ _) (by simp) (fun v hv => by cases hv))
  obtain ⟨c6, -, -, -, -⟩ := H2.out.cells
  rw [hW] at KS c6
  go_wp2_with fail
  refine KS.out.mono ?_
  rw [← hW]
  rintro e w4 ⟨A', c', l', rfl, hl', -, hb4⟩
  obtain rfl : l' = [] := by simpa using hl'
  have H4 := Lib.hid (H2.out.below hb4)
  have HB4 := Lib.hid (HB2.out.trans (hb4.mono HB2.out.size))
  have HX4 : Hid (w4.heap[w1.heap.size]? = some (.cells #[.slice rkA 1 rkc, .int .i64 1, .bool false, .slice rvA 1 rvc] 83)) := Lib.hid ((hb4.block _ (Array.getElem?_eq_some_iff.1 HX.out).1).trans HX.out)
  have hfd : ∀ w : World, (Instr.field 63 (.agg #[.slice A' 0 c', .int .i64 0, .int .i64 1]) 0).run Tryz.prog w = .ok (.slice A' 0 c') w := fun _ => by kernel_rfl
  simp only [List.length_nil]
  clear hl' hb4 KS c6 hW hbW
  go_wp2_with fail
  refine wp_loop_rounds 1 ?_
  rw [rounds_succ]
  obtain ⟨-, -, -, c12, f12⟩ := H4.out.cells
  have KL := Lib.hid (looked_any ge 0 w4 c12 f12)
  go_wp2_with fail
  refine KL.out.mono ?_
  rintro e w5 ⟨z, rfl, he⟩
  have hx5 : w5.heap[w1.heap.size]? = some (.cells #[.slice rkA 1 rkc, .int .i64 1, .bool false, .slice rvA 1 rvc] 83) := by
    rw [← he]
    exact (heap_setCell_other _ ⟨ge, 12, none⟩ _ _ (Sto.Tag.ne ⟨_, _, HX4.out⟩ ⟨_, _, H4.out.en⟩ (by decide))).trans HX4.out
  have HB5 : Hid (Below base w w5) := Lib.hid (by rw [← he]; exact (HB4.out.mono HBZ.out).setCell H4.out.geb _)
  obtain ⟨z0, z1, z2, z3, -⟩ := four_cells hx5 (Below.refl _ _)
  clear he hx5 KL c12 f12
  go_wp2_with fail
  exact bodyPost_ret (results_tmp3 rfl _ _ _) rfl ⟨rvA, rvc, rfl, HB5.out⟩
end Eng
end Go.Proofs.YtekbdedpombgcaaGreatDoor

namespace Go.Proofs.YtekbdedpombgcaaGreatDoor
open Go.RowKit Go.Maps

namespace Eng
theorem rdb_one {w : World} (n : Nat) (b : UInt8) (hn : (b.toNat : Int) = n) : RdB (w.alloc (.cells #[.int .u8 n] 5)) (w.alloc (.cells #[.int .u8 n] 5)).heap.size (some ⟨w.heap.size, 0, none⟩) [b] := (own_one hn).rd
theorem rdb_marked {w : World} (n : Nat) (b : UInt8) (hn : (b.toNat : Int) = n) : RdB (w.alloc (.cells #[.int .u8 n] 5 (1, 2))) (w.alloc (.cells #[.int .u8 n] 5 (1, 2))).heap.size (some ⟨w.heap.size, 0, none⟩) [b] := by
  have h := rdb_one (w := w) n b hn
  refine ⟨h.1, fun hne => ?_⟩
  obtain ⟨ad, e, hlt, hc⟩ := h.2 hne
  refine ⟨ad, e, by simpa using hlt, fun t u hu => ?_⟩
  have h1 := hc t u hu
  obtain rfl : (⟨w.heap.size, 0, none⟩ : Addr) = ad := Option.some.inj e
  rw [← h1]
  have e2 : (⟨w.heap.size, 0, none⟩ : Addr).add t = ⟨w.heap.size, t, none⟩ := by
    unfold Addr.add
    split <;> simp_all
  rw [e2, cell_of_row _ _ _ _ _ _ (heap_alloc_new w _), cell_of_row _ _ _ _ _ _ (heap_alloc_new w _)]
set_option maxHeartbeats 1000000 in
set_option maxRecDepth 100000 in
theorem awake_any (w : World) (ht : Tab w) : Calls Tryz.prog 4 #[] w fun e w' => e = .returned (.bool true) ∧ Below w.heap.size w w' := by
  have KN := Lib.hid (Sto.new_any 10000 (by decide) (by decide) w)
  have HT := Lib.hid (TabU.of ht)
  have kc := fun (w : World) (C : Array Value) (n c : Nat) => Lib.run_convert_bytes_const (P := Tryz.prog) w 34 5 C n c Tryz.underlying34 Tryz.underlying5
  clear ht
  go_enter Tryz.func4, Tryz.ntmps4
  go_wp2_with fail
  refine KN.out.mono ?_
  rintro e w1 ⟨g, m, rfl, hst, hb⟩
  have HT1 := Lib.hid (HT.out.keep hb)
  have KO := Lib.hid (eopen_new 1000 100 10 10 (by decide) hst HT1.out)
  have HB1 := Lib.hid hb
  clear hst hb KN
  go_wp2_with fail
  refine KO.out.mono ?_
  rintro e w2 ⟨bx, ge, tm, hm, hd, gk, m2, x, rfl, hA, hL⟩
  have HA := Lib.hid hA
  have HL := Lib.hid hL
  clear hA hL KO
  obtain ⟨W1, hW1⟩ : ∃ W, W = w2.alloc (.cells #[.int .u8 97] 5 (1, 2)) := ⟨_, rfl⟩
  obtain ⟨W2, hW2⟩ : ∃ W, W = W1.alloc (.cells #[.int .u8 1] 5) := ⟨_, rfl⟩
  obtain ⟨W3, hW3⟩ : ∃ W, W = W2.alloc (.cells #[.slice (some ⟨w2.heap.size, 0, none⟩) 1 1, .bool false, .slice (some ⟨W1.heap.size, 0, none⟩) 1 1] 36) := ⟨_, rfl⟩
  have z1 : W1.heap.size = w2.heap.size + 1 := by rw [hW1]; simp
  have z2 : W2.heap.size = w2.heap.size + 1 + 1 := by rw [hW2]; simp [z1]
  have b1 : Below w2.heap.size w2 W1 := by rw [hW1]; exact (Below.refl _ _).alloc (Nat.le_refl _) _
  have b2 : Below W1.heap.size W1 W2 := by rw [hW2]; exact (Below.refl _ _).alloc (Nat.le_refl _) _
  have b3 : Below W2.heap.size W2 W3 := by rw [hW3]; exact (Below.refl _ _).alloc (Nat.le_refl _) _
  have b23 : Below W1.heap.size W1 W3 := b2.trans (b3.mono b2.size)
  have b13 : Below w2.heap.size w2 W3 := b1.trans (b23.mono b1.size)
  have q1 : RdB W1 W1.heap.size (some ⟨w2.heap.size, 0, none⟩) [97] := by rw [hW1]; exact rdb_marked 97 97 rfl
  have q2 : RdB W2 W2.heap.size (some ⟨W1.heap.size, 0, none⟩) [1] := by rw [hW2]; exact rdb_one 1 1 rfl
  have hop : OpAt W3 W2.heap.size (some ⟨w2.heap.size, 0, none⟩) 1 [97] (some ⟨W1.heap.size, 0, none⟩) 1 [1] := ⟨by rw [hW3]; exact heap_alloc_new W2 _, (q1.below b23 (Nat.le_refl _)).more b23.size, (q2.below b3 (Nat.le_refl _)).more b3.size⟩
  have KW := Lib.hid (write_one (HA.out.below b13) (HL.out.below b13) HT1.out hop (fun q e => by
    obtain rfl : w2.heap.size = q := Option.some.inj e
    exact ⟨Nat.lt_of_lt_of_le (by omega) b23.size, fun hm => by have := (HL.out.lmut_ge hm).2; omega⟩) (fun q e => by
    obtain rfl : W1.heap.size = q := Option.some.inj e
    exact ⟨Nat.lt_of_lt_of_le (by omega) b3.size, fun hm => by have := (HL.out.lmut_ge hm).2; omega⟩))
  rw [z2] at KW
  rw [hW3, hW2, z1] at KW
  rw [hW1] at KW
  clear b1 b2 b3 b23 b13 q1 q2 hop z1 z2 hW3 hW2 hW1 HL HT1
  go_wp2_with fail
  refine KW.out.mono ?_
  rintro e w4 ⟨rfl, lg, h4⟩
  obtain ⟨W5, hW5⟩ : ∃ W, W = w4.alloc (.cells #[.int .u8 97] 5 (1, 2)) := ⟨_, rfl⟩
  have b5 : Below w4.heap.size w4 W5 := by rw [hW5]; exact (Below.refl _ _).alloc (Nat.le_refl _) _
  have HBF := Lib.hid (h4.below b5).bel
  have KG := Lib.hid (get_one (h4.below b5) (some ⟨w4.heap.size, 0, none⟩) 1 (by rw [hW5]; exact rdb_marked 97 97 rfl))
  rw [hW5] at KG HBF
  clear h4 b5 hW5 KW
  go_wp2_with fail
  refine KG.out.mono ?_
  rintro e w6 ⟨A, n, rfl, hb6⟩
  have HB6 := Lib.hid (HB1.out.trans (HBF.out.trans hb6))
  clear hb6 KG
  go_wp2_with fail
  go_ret
  exact ⟨rfl, HB6.out⟩
end Eng
end Go.Proofs.YtekbdedpombgcaaGreatDoor

namespace Go.Proofs.YtekbdedpombgcaaGreatDoor
open Go.RowKit Go.Maps

namespace Eng
set_option maxHeartbeats 1000000 in
set_option maxRecDepth 100000 in
theorem engineOpens_walk (a b c d : Int) (w : World) (ht : Tab w) : Calls Tryz.prog 3 #[.agg #[.int .i64 a, .int .i64 b, .int .i64 c, .int .i64 d]] w fun e w' => e = .returned (.bool true) ∧ Below w.heap.size w w' := by
  obtain ⟨W, hW⟩ : ∃ W, W = w.alloc (.cells #[.int .i64 a, .int .i64 b, .int .i64 c, .int .i64 d] 22) := ⟨_, rfl⟩
  have hb : Below w.heap.size w W := by rw [hW]; exact (Below.refl _ _).alloc (Nat.le_refl _) _
  have hx : W.heap[w.heap.size]? = some (.cells #[.int .i64 a, .int .i64 b, .int .i64 c, .int .i64 d] 22) := by rw [hW]; exact heap_alloc_new w _
  have HX := Lib.hid hx
  have HB := Lib.hid hb
  have HT := Lib.hid ((TabU.of ht).keep hb)
  have KA := Lib.hid (awake_any W HT.out.tab)
  rw [hW] at KA
  clear hb hx ht
  go_enter Tryz.func3, Tryz.ntmps3
  go_wp2_with fail
  refine KA.out.mono ?_
  rw [← hW]
  clear KA hW
  rintro e w1 ⟨rfl, hb1⟩
  have HB1 := Lib.hid hb1
  have HT1 := Lib.hid (HT.out.keep (hb1.mono HB.out.size))
  clear hb1
  go_wp2_with fail
  refine (Sto.new_any 10000 (by decide) (by decide) w1).mono ?_
  rintro e w2 ⟨g, m, rfl, hst, hb2⟩
  have HT2 := Lib.hid ((TabU.of HT1.out.tab).keep hb2)
  have HS2 := Lib.hid hst
  have HB2 := Lib.hid hb2
  have HB02 : Hid (Below W.heap.size W w2) := Lib.hid (HB1.out.trans (hb2.mono HB1.out.size))
  obtain ⟨c0, c1, c2, c3, -⟩ := four_cells HX.out HB02.out
  clear hst hb2
  go_wp2_with fail
  clear c0 c1 c2 c3
  by_cases hok : setOk a b c d = true
  · refine (eopen_new a b c d hok HS2.out HT2.out).mono ?_
    rintro e w3 ⟨bx, ge, tm, hm, hd, gk, m3, x, rfl, hA, -⟩
    have HB3 : Hid (Below W.heap.size W w3) := Lib.hid (HB02.out.trans (hA.bel.mono HB1.out.size))
    obtain ⟨c0, c1, c2, c3, -⟩ := four_cells HX.out HB3.out
    have KR := Lib.hid (fun w => right_any a b c d w)
    rw [hok] at KR
    clear hA hok
    go_wp2_with fail
    refine (eopen_nil a b c d w3).mono ?_
    rintro e w4 ⟨rfl, hb4⟩
    have HB4 : Hid (Below W.heap.size W w4) := Lib.hid (HB3.out.trans (hb4.mono HB3.out.size))
    clear c0 c1 c2 c3 hb4
    obtain ⟨c0, c1, c2, c3, -⟩ := four_cells HX.out HB4.out
    go_wp2_with fail
    refine (KR.out w4).mono ?_
    rintro e w5 ⟨rfl, hb5⟩
    have HB5 : Hid (Below w.heap.size w w5) := Lib.hid (HB.out.trans ((HB4.out.trans (hb5.mono HB4.out.size)).mono HB.out.size))
    clear c0 c1 c2 c3 hb5
    go_wp2_with fail
    go_ret
    exact ⟨rfl, HB5.out⟩
  · have hok2 : setOk a b c d = false := by simpa using hok
    refine (eopen_bad ⟨g, 0, none⟩ a b c d hok2 w2).mono ?_
    rintro e w3 ⟨rfl, hb3⟩
    have HB3 : Hid (Below W.heap.size W w3) := Lib.hid (HB02.out.trans (hb3.mono HB02.out.size))
    obtain ⟨c0, c1, c2, c3, -⟩ := four_cells HX.out HB3.out
    have KR := Lib.hid (fun w => right_any a b c d w)
    rw [hok2] at KR
    clear hb3 hok hok2
    go_wp2_with fail
    refine (eopen_nil a b c d w3).mono ?_
    rintro e w4 ⟨rfl, hb4⟩
    have HB4 : Hid (Below W.heap.size W w4) := Lib.hid (HB3.out.trans (hb4.mono HB3.out.size))
    clear c0 c1 c2 c3 hb4
    obtain ⟨c0, c1, c2, c3, -⟩ := four_cells HX.out HB4.out
    go_wp2_with fail
    refine (KR.out w4).mono ?_
    rintro e w5 ⟨rfl, hb5⟩
    have HB5 : Hid (Below w.heap.size w w5) := Lib.hid (HB.out.trans ((HB4.out.trans (hb5.mono HB4.out.size)).mono HB.out.size))
    clear c0 c1 c2 c3 hb5
    go_wp2_with fail
    go_ret
    exact ⟨rfl, HB5.out⟩
end Eng
end Go.Proofs.YtekbdedpombgcaaGreatDoor

/- Parts of the proof, one behind the other: The contract of table.Build. -/
import Derived.Test.YtgafionfojnieaaGreatDoorMrg36
import Derived.BigRegion
import Derived.BigQuiet
import Derived.Deep.RegionHeld
import Derived.IntWalk
namespace Go.Proofs.YtgafionfojnieaaGreatDoor
open Go.RowKit
open Lib (hid)
theorem below_drN {B : Nat} {a w : World} {k : Nat} (h : Below B a w) : Below B a (w.drewN k) := ⟨h.os, h.tape, h.output, h.size, h.block⟩
theorem drewN_any {G : World → Prop} {w : World} {n : Nat} (h : ∀ X, Below w.heap.size w X → X.heap = w.heap → G X) : G (w.drewN n) := h _ ⟨rfl, rfl, rfl, Nat.le_refl _, fun _ _ => rfl⟩ rfl
theorem tb_bad {l : List Rv} {size bits : Int} (h : size < 64 ∨ 32768 < size ∨ bits < 1 ∨ 32 < bits ∨ l.length < 1 ∨ 20000 < l.length ∨ l.any (fun r => !Tb.right r) = true) : Tb.build l size bits = (1, []) := by
 unfold Tb.build; rw [if_pos h]
theorem gives_bad {w w' : World} {l : List Rv} {size bits : Int} (h : size < 64 ∨ 32768 < size ∨ bits < 1 ∨ 32 < bits ∨ l.length < 1 ∨ 20000 < l.length ∨ l.any (fun r => !Tb.right r) = true) (hb : Below w.heap.size w w') :
   GivesR w (Tb.build l size bits).1 (Tb.build l size bits).2 (.returned (.tuple #[.slice none 0 0, .int .i64 1])) w' := by
 rw [tb_bad h]; exact ⟨hb, .inl ⟨by decide, rfl⟩⟩
structure BR (w : World) (l : List Rv) (size : Int) (gw k : Nat) (a : WrA) (s : Wr) (KA : Option Addr) (KC : Nat) (wr : World) : Prop where
 ws : WS w w.heap.size gw s a wr
 st : s.st = Tb.run size (l.take k)
 keys : OwnS Bs.cells 1 wr w.heap.size 22 KA KC ((l.take k).map Rv.bs)
 off : Off (a.R gw) (blk KA)
 kp : ∀ g, WB s g → blk KA ≠ some g
 ord : ∀ i (hi : i < l.length), 0 < i → i < k → Tb.ahead (l[i - 1]'(by omega)) l[i] = true
theorem BR.call {w wr w2 : World} {l : List Rv} {size : Int} {gw k : Nat} {a : WrA} {s : Wr} {KA : Option Addr} {KC : Nat} (h : BR w l size gw k a s KA KC wr) (hb : Below wr.heap.size wr w2) : BR w l size gw k a s KA KC w2 :=
 ⟨h.ws.call hb, h.st, h.keys.below hb, h.off, h.kp, h.ord⟩
theorem wr_new (w w1 : World) (hb : Below w.heap.size w w1) : WS w w.heap.size w1.heap.size ⟨[], [], [], 0, false⟩ ⟨none, 0, none, 0, none, 0⟩ (w1.alloc (.cells #[.slice none 0 0, .slice none 0 0, .slice none 0 0, .int .i64 0, .bool false] 103)) :=
 ⟨heap_alloc_new w1 _, Own.nil _ _ _, OwnS.nil _ _ _, OwnS.nil _ _ _, fun q hq => (by rcases hq with h | h <;> cases h), (fun g hg => (by cases hg)), (fun g hg => (by cases hg)), (fun g hg => (by cases hg)), hb.size, hb.alloc hb.size _, by simp; have := hb.size; omega⟩
theorem WS.wb_lt {w wr : World} {base gw : Nat} {s : Wr} {a : WrA} (h : WS w base gw s a wr) {g : Nat} (hb : WB s g) : g < wr.heap.size := by
 obtain ⟨q, hq, h1 | h1⟩ := hb
 · exact ((h.prs q hq).k.blk_ge g h1).2
 · exact ((h.prs q hq).v.blk_ge g h1).2
theorem key_step {w W8 W9 : World} {base gw : Nat} {s : Wr} {a : WrA} {KA KA' : Option Addr} {KC : Nat} {Q : List Bs} {o : Obj} (h : WS w base gw s a W8) (hk : OwnS Bs.cells 1 W8 base 22 KA KC Q) (hoff : Off (a.R gw) (blk KA)) (hkp : ∀ g, WB s g → blk KA ≠ some g)
   (hg : (W8.alloc o).grownBy W9 (blk KA)) (hat : blk KA' = blk KA ∨ blk KA' = some (W8.heap.size + 1)) : WS w base gw s a W9 ∧ Off (a.R gw) (blk KA') ∧ (∀ g, WB s g → blk KA' ≠ some g) := by
 refine ⟨(h.call ((Below.refl _ _).alloc (Nat.le_refl _) o)).other hg (fun g hgg => ⟨hoff g hgg, fun hb => hkp g hb hgg, (hk.blk_ge g hgg).1⟩), ?_, fun g hb e => ?_⟩
 · intro g hgg hm
   rcases hat with h1 | h1
   · exact hoff g (h1 ▸ hgg) hm
   · rw [h1] at hgg; injection hgg with hgg
     have := h.lts g hm; omega
 · rcases hat with h1 | h1
   · exact hkp g hb (h1 ▸ e)
   · rw [h1] at e; injection e with e
     have := h.wb_lt hb; omega
theorem rec_keep {WA w' : World} {b o rb : Nat} {x0 x1 x2 x3 y0 y1 y2 y3 : Value} (h : WA.cell? ⟨b, o, none⟩ = some x0 ∧ WA.cell? ⟨b, o + 1, none⟩ = some x1 ∧ WA.cell? ⟨b, o + 2, none⟩ = some x2 ∧ WA.cell? ⟨b, o + 3, none⟩ = some x3 ∧
   WA.cell? ⟨rb, 0, none⟩ = some y0 ∧ WA.cell? ⟨rb, 1, none⟩ = some y1 ∧ WA.cell? ⟨rb, 2, none⟩ = some y2 ∧ WA.cell? ⟨rb, 3, none⟩ = some y3) (hb : b < WA.heap.size) (hr : rb < WA.heap.size) (hw : Below WA.heap.size WA w') :
   w'.cell? ⟨b, o, none⟩ = some x0 ∧ w'.cell? ⟨b, o + 1, none⟩ = some x1 ∧ w'.cell? ⟨b, o + 2, none⟩ = some x2 ∧ w'.cell? ⟨b, o + 3, none⟩ = some x3 ∧
   w'.cell? ⟨rb, 0, none⟩ = some y0 ∧ w'.cell? ⟨rb, 1, none⟩ = some y1 ∧ w'.cell? ⟨rb, 2, none⟩ = some y2 ∧ w'.cell? ⟨rb, 3, none⟩ = some y3 ∧ Below WA.heap.size WA w' :=
 ⟨(hw.cell (p := ⟨b, o, none⟩) hb).trans h.1, (hw.cell (p := ⟨b, o + 1, none⟩) hb).trans h.2.1, (hw.cell (p := ⟨b, o + 2, none⟩) hb).trans h.2.2.1, (hw.cell (p := ⟨b, o + 3, none⟩) hb).trans h.2.2.2.1,
   (hw.cell (p := ⟨rb, 0, none⟩) hr).trans h.2.2.2.2.1, (hw.cell (p := ⟨rb, 1, none⟩) hr).trans h.2.2.2.2.2.1, (hw.cell (p := ⟨rb, 2, none⟩) hr).trans h.2.2.2.2.2.2.1, (hw.cell (p := ⟨rb, 3, none⟩) hr).trans h.2.2.2.2.2.2.2, hw⟩
theorem own_keep {w w' : World} {base c : Nat} {e : TypeId} {A : Option Addr} {l : List UInt8} (h : Own w base e A c l) (hb : ∀ g, blk A = some g → w'.heap[g]? = w.heap[g]?) : Own w' base e A c l := by
 unfold Own at h ⊢
 refine ⟨h.1, ?_⟩
 rcases h.2 with h2 | ⟨g, cap, cur, hv, hg, hh, r⟩
 · exact .inl h2
 · refine .inr ⟨g, cap, cur, hv, hg, ?_, r⟩
   injection hv with hv
   rw [hb g (by rw [hv]; rfl)]
   exact hh
theorem tb_end {l : List Rv} {size bits : Int} (hno : ¬ (size < 64 ∨ 32768 < size ∨ bits < 1 ∨ 32 < bits ∨ l.length < 1 ∨ 20000 < l.length ∨ l.any (fun r => !Tb.right r) = true)) (hs : Tb.sorted l = true) (s : Wr) (hst : s.st = Tb.close (Tb.run size l)) (B X N : List UInt8)
   (hB : B = Blm.build bits.toNat (l.map Rv.k)) (hX : X = Tb.blkB 16 (s.index.map Pv.pr)) (hN : N = Tb.nums [size.toNat, bits.toNat, l.length, (Tb.low l).toNat, (Tb.high l).toNat]) :
   Tb.build l size bits = if (((s.bad || !decide (B.length ≤ 65536)) || !decide (X.length ≤ 65536)) || !decide (N.length ≤ 65536)) = true then (2, []) else (0, ((s.out ++ Tb.putL 70 B) ++ Tb.putL 73 X) ++ Tb.putL 90 N) := by
 unfold Tb.build
 rw [if_neg hno, if_neg (by rw [hs]; simp)]
 simp only [← hst, Tb.ends, Wr.st, ← hB, ← hX, ← hN, List.any_cons, List.any_nil, Tb.fits, Bool.or_false, List.flatMap_cons, List.flatMap_nil, List.append_nil, Bool.or_assoc, List.append_assoc]
theorem gives_two {w w' : World} {l : List Rv} {size bits : Int} (h : Tb.build l size bits = (2, [])) (hb : Below w.heap.size w w') : GivesR w (Tb.build l size bits).1 (Tb.build l size bits).2 (.returned (.tuple #[.slice none 0 0, .int .i64 2])) w' := by
 rw [h]; exact ⟨hb, .inl ⟨by decide, rfl⟩⟩
theorem gives_ten {w w' : World} {l : List Rv} {size bits : Int} (hno : ¬ (size < 64 ∨ 32768 < size ∨ bits < 1 ∨ 32 < bits ∨ l.length < 1 ∨ 20000 < l.length ∨ l.any (fun r => !Tb.right r) = true)) (h : Tb.sorted l = false) (hb : Below w.heap.size w w') : GivesR w (Tb.build l size bits).1 (Tb.build l size bits).2 (.returned (.tuple #[.slice none 0 0, .int .i64 10])) w' := by
 have : Tb.build l size bits = (10, []) := by unfold Tb.build; rw [if_neg hno, if_pos h]
 rw [this]; exact ⟨hb, .inl ⟨by decide, rfl⟩⟩
theorem gives_well {w w' : World} {l : List Rv} {size bits : Int} {L : List UInt8} {A : Option Addr} {c : Nat} (h : Tb.build l size bits = (0, L)) (hb : Below w.heap.size w w') (ho : Own w' w.heap.size 5 A c L) : GivesR w (Tb.build l size bits).1 (Tb.build l size bits).2 (.returned (.tuple #[.slice A L.length c, .int .i64 0])) w' := by
 rw [h]; exact ⟨hb, .inr ⟨rfl, A, c, rfl, ho⟩⟩
set_option maxHeartbeats 8000000 in
set_option maxRecDepth 100000 in
theorem tbuild_any (A : Option Addr) (c : Nat) (l : List Rv) (size bits : Int) (w : World) (h : RdRv w w.heap.size A l) (hl : l.length ≤ 1000000) :
   Calls Tryz.prog 13 #[.slice A l.length c, .int .i64 size, .int .i64 bits] w (GivesR w (Tb.build l size bits).1 (Tb.build l size bits).2) := by
 by_cases b1 : size < 64
 · have HG := hid (@gives_bad w w l size bits (by simp [b1]) (Below.refl _ _))
   go_enter Tryz.func13, Tryz.ntmps13
   go_wp2_with fail
   go_ret2
   exact HG.out
 by_cases b2 : 32768 < size
 · have HG := hid (@gives_bad w w l size bits (by simp [b2]) (Below.refl _ _))
   go_enter Tryz.func13, Tryz.ntmps13
   go_wp2_with fail
   go_ret2
   exact HG.out
 by_cases b3 : bits < 1
 · have HG := hid (@gives_bad w w l size bits (by simp [b3]) (Below.refl _ _))
   go_enter Tryz.func13, Tryz.ntmps13
   go_wp2_with fail
   go_ret2
   exact HG.out
 by_cases b4 : 32 < bits
 · have HG := hid (@gives_bad w w l size bits (by simp [b4]) (Below.refl _ _))
   go_enter Tryz.func13, Tryz.ntmps13
   go_wp2_with fail
   go_ret2
   exact HG.out
 by_cases b5 : (l.length : Int) < 1
 · have HG := hid (@gives_bad w w l size bits (by omega) (Below.refl _ _))
   go_enter Tryz.func13, Tryz.ntmps13
   go_wp2_with fail
   go_ret2
   exact HG.out
 by_cases b6 : 20000 < (l.length : Int)
 · have HG := hid (@gives_bad w w l size bits (by omega) (Below.refl _ _))
   go_enter Tryz.func13, Tryz.ntmps13
   go_wp2_with fail
   go_ret2
   exact HG.out
 have KC := hid (hasodd_any l A c hl (by omega) w h)
 rcases hany : l.any (fun r => !Tb.right r) with _ | _
 case true =>
   rw [hany] at KC
   have HG := hid (fun w1 => @gives_bad w w1 l size bits (by simp [hany]))
   clear hany
   go_enter Tryz.func13, Tryz.ntmps13
   go_wp2_with fail
   refine KC.out.mono ?_
   rintro e w1 ⟨rfl, hb1⟩
   go_wp2_with fail
   go_ret2
   exact HG.out _ hb1
 rw [hany] at KC
 have hr : ∀ r ∈ l, Tb.right r = true := fun r hr => by
   cases hx : Tb.right r with
   | true => rfl
   | false =>
     have : l.any (fun r => !Tb.right r) = true := List.any_eq_true.2 ⟨r, hr, by simp [hx]⟩
     rw [hany] at this; cases this
 have hno : ¬ (size < 64 ∨ 32768 < size ∨ bits < 1 ∨ 32 < bits ∨ l.length < 1 ∨ 20000 < l.length ∨ l.any (fun r => !Tb.right r) = true) := by
   rw [hany]
   rintro (h1 | h1 | h1 | h1 | h1 | h1 | h1)
   · exact b1 h1
   · exact b2 h1
   · exact b3 h1
   · exact b4 h1
   · omega
   · omega
   · cases h1
 have HNO := hid hno
 have HR := hid hr
 have hl2 : l.length ≤ 20000 := by omega
 have hp : 0 < l.length := by omega
 have HH := hid h
 obtain ⟨b, off, hA, hbl, hrow⟩ := h.row4 hp
 subst hA
 have HROW := hid hrow
 have q0 := (hrow 0 hp).2.1
 rw [Nat.zero_mul, Nat.add_zero] at q0
 obtain ⟨s0, hs0⟩ : ∃ s0, s0 = l[0].seq := ⟨_, rfl⟩
 rw [← hs0] at q0
 have HLO : Hid (Tb.lowK l 0 = s0 ∧ Tb.highK l 0 = s0) := hid ⟨by rw [hs0]; exact Tb.lowK_zero l hp, by rw [hs0]; exact Tb.highK_zero l hp⟩
 clear hno hr h hrow hany b5 hs0
 go_enter Tryz.func13, Tryz.ntmps13
 go_wp2_with fail
 refine KC.out.mono ?_
 rintro e w1 ⟨rfl, hb1⟩
 have HB1 := hid hb1
 have HW1 := hid (wr_new w w1 hb1)
 have q1 := (hb1.cell (p := ⟨b, off + 1, none⟩) hbl).trans q0
 have q2 : (w1.alloc (.cells #[.slice none 0 0, .slice none 0 0, .slice none 0 0, .int .i64 0, .bool false] 103)).cell? ⟨b, off + 1, none⟩ = some (.int .i64 s0) := (World.cell?_alloc_lt w1 _ ⟨b, off + 1, none⟩ (Nat.lt_of_lt_of_le hbl hb1.size)).trans q1
 have hone : (1 : Int) ≤ (l.length : Int) := by omega
 clear hb1 q0 q1 KC
 go_wp2_with fail
 go_quiet (fail)
 rename_i nq
 go_wp2_with fail
 obtain ⟨gw, hgw⟩ : ∃ gw, w1.heap.size = gw := ⟨_, rfl⟩
 rw [hgw] at HW1 ⊢
 have HGW := hid hgw
 obtain ⟨W2, hW2⟩ : ∃ W2, World.drewN (w1.alloc (.cells #[.slice none 0 0, .slice none 0 0, .slice none 0 0, .int .i64 0, .bool false] 103)) nq = W2 := ⟨_, rfl⟩
 have hbr0 : BR w l size gw 0 ⟨none, 0, none, 0, none, 0⟩ ⟨[], [], [], 0, false⟩ none 0 W2 := ⟨by rw [← hW2]; exact HW1.out.call (below_drN (Below.refl _ _)), rfl, OwnS.nil _ _ _, (fun g hg => by cases hg), (fun g _ h => by cases h), fun i _ h0 h1 => by omega⟩
 rw [hW2]
 have HBR0 := hid hbr0
 clear hgw hW2 hbr0 HW1 q2 hone HB1
 go_loopw [10, 11, 12, 13, 14, 15, 61] (fun ks lo hi _ _ _ i wr => ∃ (k : Nat) (a : WrA) (s : Wr) (KA : Option Addr) (KC : Nat) (L H : Int), k ≤ l.length ∧ i = .int .i64 (k : Int) ∧ ks = .slice KA k KC ∧ lo = .int .i64 L ∧ hi = .int .i64 H ∧ Hid (L = Tb.lowK l k ∧ H = Tb.highK l k) ∧ Hid (BR w l size gw k a s KA KC wr)) (fun _ _ _ _ _ _ i _ => l.length - (intOf i).toNat)
 case atStart => exact ⟨0, _, _, none, 0, s0, s0, by omega, rfl, rfl, rfl, rfl, hid ⟨HLO.out.1.symm, HLO.out.2.symm⟩, HBR0⟩
 case round =>
   obtain ⟨k, a, s, KA, KC, L, H, hk, rfl, rfl, rfl, rfl, HLH, HBR⟩ := hrel
   clear HBR0 HLO
   by_cases hlt : k < l.length
   · obtain ⟨r, hrv⟩ : ∃ r, r = l[k] := ⟨_, rfl⟩
     have hmem : r ∈ l := by rw [hrv]; exact List.getElem_mem hlt
     have hright := HR.out r hmem
     have HRT := hid hright
     have hbb := HBR.out.ws.below
     have hok := (HH.out.ok r hmem).below hbb (Nat.le_refl _)
     have hbz := HBR.out.ws.size
     have HOK := hid hok
     obtain ⟨c0, c1, c2, c3⟩ := HROW.out k hlt
     rw [← hrv] at c0 c1 c2 c3
     have r0 := (hbb.cell (p := ⟨b, off + k * 4, none⟩) hbl).trans c0
     have r1 := (hbb.cell (p := ⟨b, off + k * 4 + 1, none⟩) hbl).trans c1
     have r2 := (hbb.cell (p := ⟨b, off + k * 4 + 2, none⟩) hbl).trans c2
     have r3 := (hbb.cell (p := ⟨b, off + k * 4 + 3, none⟩) hbl).trans c3
     have HRV := hid hrv
     have HMEM := hid hmem
     clear c0 c1 c2 c3 hmem hright hok hrv hbb
     obtain ⟨kA, kc, kk, seq, del, vA, vc, vv⟩ := r
     simp only at r0 r1 r2 r3
     have hal := (Below.refl wr.heap.size wr).alloc (Nat.le_refl _) (.cells #[.slice kA kk.length kc, .int .i64 seq, .bool del, .slice vA vv.length vc] 35)
     have HBRA := hid (HBR.out.call hal)
     have HBOXA : Hid ((wr.alloc (.cells #[.slice kA kk.length kc, .int .i64 seq, .bool del, .slice vA vv.length vc] 35)).heap[wr.heap.size]? = some (.cells #[.slice kA kk.length kc, .int .i64 seq, .bool del, .slice vA vv.length vc] 35)) := hid (heap_alloc_new wr _)
     obtain ⟨rb, hrb⟩ : ∃ rb, wr.heap.size = rb := ⟨_, rfl⟩
     obtain ⟨WA, hWA⟩ : ∃ WA, wr.alloc (.cells #[.slice kA kk.length kc, .int .i64 seq, .bool del, .slice vA vv.length vc] 35) = WA := ⟨_, rfl⟩
     have HRB : Hid (w.heap.size ≤ rb ∧ rb < WA.heap.size ∧ some rb ∉ a.R gw) := hid ⟨by rw [← hrb]; exact hbz, by rw [← hWA, ← hrb]; simp, fun hm => by have := HBR.out.ws.lts rb hm; omega⟩
     have HNRB : Hid (some rb ≠ blk KA) := hid (fun e => by have := (HBR.out.keys.blk_ge rb e.symm).2; omega)
     rw [hWA] at HBRA HBOXA
     rw [hrb] at HBOXA
     have HWA := hid hWA
     have HRBE := hid hrb
     clear hal hWA hrb hbz
     have d0 := cell_of_row WA rb 0 _ _ (0, 0) HBOXA.out
     have d1 := cell_of_row WA rb 1 _ _ (0, 0) HBOXA.out
     have d2 := cell_of_row WA rb 2 _ _ (0, 0) HBOXA.out
     have d3 := cell_of_row WA rb 3 _ _ (0, 0) HBOXA.out
     simp at d0 d1 d2 d3
     by_cases h0 : 0 < k
     case' pos =>
       obtain ⟨j, hj⟩ : ∃ j, k = j + 1 := ⟨k - 1, by omega⟩
       have hjl : j < l.length := by omega
       obtain ⟨r', hr'⟩ : ∃ r', r' = l[j] := ⟨_, rfl⟩
       have hmem' : r' ∈ l := by rw [hr']; exact List.getElem_mem hjl
       obtain ⟨c0, c1, c2, c3⟩ := HROW.out j hjl
       rw [← hr'] at c0 c1 c2 c3
       have hbA := HBRA.out.ws.below
       have p0 := (hbA.cell (p := ⟨b, off + j * 4, none⟩) hbl).trans c0
       have p1 := (hbA.cell (p := ⟨b, off + j * 4 + 1, none⟩) hbl).trans c1
       have p2 := (hbA.cell (p := ⟨b, off + j * 4 + 2, none⟩) hbl).trans c2
       have p3 := (hbA.cell (p := ⟨b, off + j * 4 + 3, none⟩) hbl).trans c3
       have hszA := HBRA.out.ws.size
       have KO : Hid (∀ w', Below WA.heap.size WA w' → Calls Tryz.prog 40 #[r'.val, (⟨kA, kc, kk, seq, del, vA, vc, vv⟩ : Rv).val] w' fun e w'' => e = .returned (.int .i64 (Tb.ordI r' ⟨kA, kc, kk, seq, del, vA, vc, vv⟩)) ∧ Below w'.heap.size w' w'') := hid (fun w' hb' => by
         have hbb : Below w.heap.size w w' := hbA.trans (hb'.mono hszA)
         exact orderT_any _ _ w' (((HH.out.ok r' hmem').below hbb (Nat.le_refl _)).more hbb.size) (((HH.out.ok _ HMEM.out).below hbb (Nat.le_refl _)).more hbb.size))
       have HJ : Hid (j + 1 = k ∧ ∀ (h : j < l.length), r' = l[j]) := hid ⟨hj.symm, fun _ => hr'⟩
       clear hr' hmem' c0 c1 c2 c3
       obtain ⟨o, ho⟩ : ∃ o, o = Tb.ordI r' ⟨kA, kc, kk, seq, del, vA, vc, vv⟩ := ⟨_, rfl⟩
       rw [← ho] at KO
       have HOI := hid ho
       clear ho
       obtain ⟨kA', kc', kk', seq', del', vA', vc', vv'⟩ := r'
       simp only [Rv.val] at p0 p1 p2 p3 KO
       have hbA2 : b < WA.heap.size := Nat.lt_of_lt_of_le hbl hszA
       have HKEEP := hid (fun (w' : World) => rec_keep (w' := w') ⟨p0, p1, p2, p3, d0, d1, d2, d3⟩ hbA2 HRB.out.2.1)
       clear hbA hbA2 hszA
       have hk0 : (0 : Int) < (k : Int) := by omega
       have hk1 : decide ((0 : Int) < (k : Int)) = true := decide_eq_true hk0
       have hsum : IntKind.i64.wrap ((k : Int) - 1) = (j : Int) := by rw [IntKind.wrap_i64]; omega
       have hj0 : (0 : Int) ≤ (j : Int) := by omega
       have hj1 : (j : Int) < (l.length : Int) := by omega
       clear hj
       by_cases ho0 : 0 ≤ o
       case pos =>
         have ho1 : decide (0 ≤ o) = true := decide_eq_true ho0
         have HTEN : Hid (∀ w', Below w.heap.size w w' → GivesR w (Tb.build l size bits).1 (Tb.build l size bits).2 (.returned (.tuple #[.slice none 0 0, .int .i64 10])) w') := hid (fun w' hb' => by
           refine gives_ten HNO.out (Tb.sorted_no (i := k) hlt h0 ?_) hb'
           obtain ⟨e1, e2⟩ := HJ.out
           subst e1
           show Tb.ahead l[j] l[j + 1] = false
           rw [← e2 hjl, ← HRV.out]
           cases hx : Tb.ahead ⟨kA', kc', kk', seq', del', vA', vc', vv'⟩ ⟨kA, kc, kk, seq, del, vA, vc, vv⟩ with
           | false => rfl
           | true => have := (Tb.ordI_neg _ _).2 hx; rw [← HOI.out] at this; omega)
         have HBB := hid HBRA.out.ws.below
         have HSA := hid HBRA.out.ws.size
         clear hjl
         go_wp2_with fail
         rw [HRBE.out, HWA.out]
         go_region_held (fun w' => w'.cell? ⟨b, off + j * 4, none⟩ = some (.slice kA' kk'.length kc') ∧ w'.cell? ⟨b, off + j * 4 + 1, none⟩ = some (.int .i64 seq') ∧ w'.cell? ⟨b, off + j * 4 + 2, none⟩ = some (.bool del') ∧ w'.cell? ⟨b, off + j * 4 + 3, none⟩ = some (.slice vA' vv'.length vc') ∧ w'.cell? ⟨rb, 0, none⟩ = some (.slice kA kk.length kc) ∧ w'.cell? ⟨rb, 1, none⟩ = some (.int .i64 seq) ∧ w'.cell? ⟨rb, 2, none⟩ = some (.bool del) ∧ w'.cell? ⟨rb, 3, none⟩ = some (.slice vA vv.length vc) ∧ Below WA.heap.size WA w')
           (first | exact HKEEP.out _ ((Below.refl _ _).drew) | exact HKEEP.out _ B3)
           (first | (go_at_call 40; refine (KO.out _ (by go_split_ands; assumption)).mono ?_; rintro e w1 ⟨rfl, hb1⟩; have B3 := Below.trans (b := _) (by go_split_ands; assumption : Below WA.heap.size WA _) (hb1.mono (by go_split_ands; exact Below.size (by assumption)))))
         go_wp2_with fail
         go_ret2
         exact HTEN.out _ (HBB.out.trans (B3.mono HSA.out))
       have hlt0 : o < 0 := by omega
       have ho1 : decide (0 ≤ o) = false := decide_eq_false ho0
       have HORD : Hid (∀ i (hi : i < l.length), 0 < i → i < k + 1 → Tb.ahead (l[i - 1]'(by omega)) l[i] = true) := hid (fun i hi h1 h2 => by
         by_cases hik : i = k
         · obtain ⟨e1, e2⟩ := HJ.out
           subst hik
           subst e1
           show Tb.ahead l[j] l[j + 1] = true
           rw [← e2 hjl, ← HRV.out]
           exact (Tb.ordI_neg _ _).1 (by rw [← HOI.out]; exact hlt0)
         · exact HBRA.out.ord i hi h1 (by omega))
       clear hlt0 hjl
       go_wp2_with fail
       rw [HRBE.out, HWA.out]
       go_region_held (fun w' => w'.cell? ⟨b, off + j * 4, none⟩ = some (.slice kA' kk'.length kc') ∧ w'.cell? ⟨b, off + j * 4 + 1, none⟩ = some (.int .i64 seq') ∧ w'.cell? ⟨b, off + j * 4 + 2, none⟩ = some (.bool del') ∧ w'.cell? ⟨b, off + j * 4 + 3, none⟩ = some (.slice vA' vv'.length vc') ∧ w'.cell? ⟨rb, 0, none⟩ = some (.slice kA kk.length kc) ∧ w'.cell? ⟨rb, 1, none⟩ = some (.int .i64 seq) ∧ w'.cell? ⟨rb, 2, none⟩ = some (.bool del) ∧ w'.cell? ⟨rb, 3, none⟩ = some (.slice vA vv.length vc) ∧ Below WA.heap.size WA w')
         (first | exact HKEEP.out _ ((Below.refl _ _).drew) | exact HKEEP.out _ B3)
         (first | (go_at_call 40; refine (KO.out _ (by go_split_ands; assumption)).mono ?_; rintro e w1 ⟨rfl, hb1⟩; have B3 := Below.trans (b := _) (by go_split_ands; assumption : Below WA.heap.size WA _) (hb1.mono (by go_split_ands; exact Below.size (by assumption)))))
       obtain ⟨X, hXw⟩ : ∃ X, X = w1 := ⟨_, rfl⟩
       rw [← hXw] at B3 ⊢
       have HBRX := hid (HBRA.out.call B3)
       have HBOXX : Hid (X.heap[rb]? = some (.cells #[.slice kA kk.length kc, .int .i64 seq, .bool del, .slice vA vv.length vc] 35)) := hid ((B3.block rb HRB.out.2.1).trans HBOXA.out)
       have HRX : Hid (w.heap.size ≤ rb ∧ rb < X.heap.size ∧ some rb ∉ a.R gw) := hid ⟨HRB.out.1, Nat.lt_of_lt_of_le HRB.out.2.1 B3.size, HRB.out.2.2⟩
       have HPROBE := hid B3
       clear B3 hk1 d0 d1 d2 d3 r0 r1 r2 r3 HBRA HBOXA HRB HWA HRBE HBR KO HJ HOI HKEEP p0 p1 p2 p3 hsum hj0 hj1 ho1
       subst hXw
     case' neg =>
       have hk0 : ¬ ((0 : Int) < (k : Int)) := by omega
       have hk1 : decide ((0 : Int) < (k : Int)) = false := decide_eq_false hk0
       have HORD : Hid (∀ i (hi : i < l.length), 0 < i → i < k + 1 → Tb.ahead (l[i - 1]'(by omega)) l[i] = true) := hid (fun i hi h1 h2 => by omega)
       go_wp2_with fail
       rw [HRBE.out, HWA.out]
       go_quiet (fail)
       refine drewN_any ?_
       intro X hbX hXh
       have HBRX := hid (HBRA.out.call hbX)
       have HBOXX : Hid (X.heap[rb]? = some (.cells #[.slice kA kk.length kc, .int .i64 seq, .bool del, .slice vA vv.length vc] 35)) := hid (by rw [hXh]; exact HBOXA.out)
       have HRX : Hid (w.heap.size ≤ rb ∧ rb < X.heap.size ∧ some rb ∉ a.R gw) := hid (by rw [hXh]; exact HRB.out)
       clear hbX hXh hk1 d0 d1 d2 d3 r0 r1 r2 r3 HBRA HBOXA HRB HWA HRBE HBR
     all_goals
       obtain ⟨_, _, _, z3, _, _⟩ := HBRX.out.ws.cells
       have HBND := hid (Tb.run_bnd size l HR.out hl2 k (by omega))
       have hst := HBRX.out.st
       have bn0 : 0 ≤ s.n := by have := HBND.out.n0; rw [← hst] at this; exact this
       have bn1 : s.n ≤ 20000 * (k : Int) := by have := HBND.out.n1; rw [← hst] at this; exact this
       have bo : s.out.length ≤ 100000 * k := by have := HBND.out.out; rw [← hst] at this; exact this
       have bi : s.index.length ≤ k := by have := HBND.out.il; rw [← hst] at this; simpa [Wr.st] using this
       have bp : s.opn.length ≤ k := by have := HBND.out.ol; rw [← hst] at this; simpa [Wr.st] using this
       have bob : ∀ p ∈ s.opn, p.k.length ≤ 100000 ∧ p.v.length ≤ 100000 := fun p hp => by
         have := HBND.out.ob; rw [← hst] at this
         have := this p.pr (List.mem_map.2 ⟨p, hp, rfl⟩)
         exact ⟨Nat.le_trans this.1 (by omega), Nat.le_trans this.2 (by omega)⟩
       have KCL := hid (close_any w w.heap.size gw s a X HBRX.out.ws (by omega) (by omega) bob (by omega))
       have HBN := hid (And.intro bn0 bn1)
       clear hst bob bn0 bn1 bo bi bp
       by_cases hsz : size ≤ s.n
       case' pos =>
         go_wp2_with fail
         refine KCL.out.mono ?_
         rintro e Y ⟨rfl, s2, a2, hws, hmv, hs2, hwb⟩
         have HWS := hid hws
         have HST2 : Hid (s2.st = Tb.mid size (Tb.run size (l.take k))) := hid (by rw [← HBRX.out.st]; unfold Tb.mid; rw [if_pos (by exact hsz)]; exact hs2)
         have HKP : Hid (∀ g, WB s2 g → blk KA ≠ some g) := hid (fun g hg e => by
           rcases hwb g hg with h1 | h1
           · exact HBRX.out.kp g h1 e
           · have := (HBRX.out.keys.blk_ge g e).2; omega)
         have HKEYS : Hid (OwnS Bs.cells 1 Y w.heap.size 22 KA KC ((l.take k).map Rv.bs)) := hid (HBRX.out.keys.keep (fun g hg => hmv.block g (HBRX.out.keys.blk_ge g hg).2 (HBRX.out.off g hg)))
         have HOFF : Hid (Off (a2.R gw) (blk KA)) := hid (fun g hg hm => by
           rcases hmv.rows g hm with h1 | h1
           · exact HBRX.out.off g hg h1
           · have := (HBRX.out.keys.blk_ge g hg).2; omega)
         have HBOX : Hid (Y.heap[rb]? = some (.cells #[.slice kA kk.length kc, .int .i64 seq, .bool del, .slice vA vv.length vc] 35)) := hid ((hmv.block rb HRX.out.2.1 HRX.out.2.2).trans HBOXX.out)
         have HRY : Hid (w.heap.size ≤ rb ∧ rb < Y.heap.size ∧ some rb ∉ a2.R gw) := hid ⟨HRX.out.1, Nat.lt_of_lt_of_le HRX.out.2.1 hmv.size, fun hm => by
           rcases hmv.rows rb hm with h1 | h1
           · exact HRX.out.2.2 h1
           · have := HRX.out.2.1; omega⟩
         clear hws hmv hs2 hwb z3 KCL HBRX HBOXX HRX
       case' neg =>
         obtain ⟨Y, hY⟩ : ∃ Y, Y = X := ⟨_, rfl⟩
         obtain ⟨s2, hs2⟩ : ∃ s2, s2 = s := ⟨_, rfl⟩
         obtain ⟨a2, ha2⟩ : ∃ a2, a2 = a := ⟨_, rfl⟩
         have HWS : Hid (WS w w.heap.size gw s2 a2 Y) := hid (by rw [hY, hs2, ha2]; exact HBRX.out.ws)
         have HST2 : Hid (s2.st = Tb.mid size (Tb.run size (l.take k))) := hid (by rw [← HBRX.out.st]; unfold Tb.mid; rw [if_neg (by exact hsz), hs2])
         have HKP : Hid (∀ g, WB s2 g → blk KA ≠ some g) := hid (by rw [hs2]; exact HBRX.out.kp)
         have HKEYS : Hid (OwnS Bs.cells 1 Y w.heap.size 22 KA KC ((l.take k).map Rv.bs)) := hid (by rw [hY]; exact HBRX.out.keys)
         have HOFF : Hid (Off (a2.R gw) (blk KA)) := hid (by rw [ha2]; exact HBRX.out.off)
         have HBOX : Hid (Y.heap[rb]? = some (.cells #[.slice kA kk.length kc, .int .i64 seq, .bool del, .slice vA vv.length vc] 35)) := hid (by rw [hY]; exact HBOXX.out)
         have HRY : Hid (w.heap.size ≤ rb ∧ rb < Y.heap.size ∧ some rb ∉ a2.R gw) := hid (by rw [hY, ha2]; exact HRX.out)
         clear KCL HBRX HBOXX HRX ha2
         have HS2E := hid hs2
         clear hs2
         subst hY
     all_goals
       have d0 := cell_of_row Y rb 0 _ _ (0, 0) HBOX.out
       have d1 := cell_of_row Y rb 1 _ _ (0, 0) HBOX.out
       have d2 := cell_of_row Y rb 2 _ _ (0, 0) HBOX.out
       have d3 := cell_of_row Y rb 3 _ _ (0, 0) HBOX.out
       simp at d0 d1 d2 d3
       have hrt := (Tb.right_iff _).1 HRT.out
       simp only at hrt
       have KIN := hid (inner_any ⟨kA, kc, kk, seq, del, vA, vc, vv⟩ Y (((HH.out.ok _ HMEM.out).below HWS.out.below (Nat.le_refl _)).more HWS.out.size) (by show kk.length ≤ 100000; omega) (by show vv.length ≤ 100000; omega) hrt.2.2.1 hrt.2.2.2.1)
       unfold Rv.val at KIN
       simp only at KIN
       have HIB := hid (Tb.inner_bd HRT.out)
       clear hrt
       go_wp2_with fail
       refine KIN.out.mono ?_
       rintro e w4 ⟨A1, c1, A2, c2, rfl, ho1, ho2, hb4⟩
       obtain ⟨PR, hPR⟩ : ∃ PR, PR = Tb.inner ⟨kA, kc, kk, seq, del, vA, vc, vv⟩ := ⟨_, rfl⟩
       rw [← hPR] at ho1 ho2 HIB ⊢
       obtain ⟨PK, PV⟩ := PR
       simp only at ho1 ho2 HIB ⊢
       have HPR := hid hPR
       have hbz4 := hb4.size
       have hbZ : Below Y.heap.size Y (w4.alloc (.cells #[.slice A1 PK.length c1, .slice A2 PV.length c2] 77)) := hb4.alloc hbz4 _
       have HWSZ := hid (HWS.out.call hbZ)
       have HKZ := hid (HKEYS.out.below hbZ)
       have HBOXZ := hid ((hbZ.block rb HRY.out.2.1).trans HBOX.out)
       have HPVZ : Hid (PvO (w4.alloc (.cells #[.slice A1 PK.length c1, .slice A2 PV.length c2] 77)) w.heap.size (a2.R gw) ⟨A1, c1, PK, A2, c2, PV⟩) := hid ⟨(ho1.alloc _).mono HWS.out.size, (ho2.alloc _).mono HWS.out.size, Off.fresh (n := Y.heap.size) (fun g hg => (ho1.blk_ge g hg).1) HWS.out.lts, Off.fresh (n := Y.heap.size) (fun g hg => (ho2.blk_ge g hg).1) HWS.out.lts⟩
       have HGPZ : Hid ((w4.alloc (.cells #[.slice A1 PK.length c1, .slice A2 PV.length c2] 77)).heap[w4.heap.size]? = some (.cells #[.slice A1 PK.length c1, .slice A2 PV.length c2] 77)) := hid (heap_alloc_new w4 _)
       obtain ⟨gp, hgp⟩ : ∃ gp, w4.heap.size = gp := ⟨_, rfl⟩
       obtain ⟨Z, hZ⟩ : ∃ Z, w4.alloc (.cells #[.slice A1 PK.length c1, .slice A2 PV.length c2] 77) = Z := ⟨_, rfl⟩
       have HGR : Hid (some gp ∉ a2.R gw ∧ gp ≠ rb ∧ Y.heap.size ≤ gp ∧ gp < Z.heap.size) := hid ⟨fun hm => by have := HWS.out.lts gp hm; omega, by have := HRY.out.2.1; omega, by omega, by rw [← hZ, ← hgp]; simp⟩
       rw [hZ] at HWSZ HKZ HBOXZ HPVZ HGPZ
       rw [hgp] at HGPZ
       have HZE := hid hZ; have HGE := hid hgp
       have hYZ : Y.heap.size ≤ Z.heap.size := by rw [← hZ]; exact hbZ.size
       have HNE : Hid (∀ g, blk KA = some g → blk A1 ≠ some g ∧ blk A2 ≠ some g) := hid (fun g hg => ⟨fun e => by have h1 := (ho1.blk_ge g e).1; have h2 := (HKEYS.out.blk_ge g hg).2; omega, fun e => by have h1 := (ho2.blk_ge g e).1; have h2 := (HKEYS.out.blk_ge g hg).2; omega⟩)
       have HYZ := hid hYZ
       clear ho1 ho2 hb4 hbz4 hbZ hPR hgp hZ hYZ KIN HWS HKEYS HBOX d0 d1 d2 d3
       go_wp2_with fail
       rw [HGE.out, HZE.out]
       obtain ⟨V, hV⟩ : ∃ V, Z.drew = V := ⟨_, rfl⟩
       have hbV : Below Z.heap.size Z V := by rw [← hV]; exact (Below.refl _ _).drew
       have HWSV := hid (HWSZ.out.call hbV)
       have HKV := hid (HKZ.out.below hbV)
       have hzV : Z.heap.size ≤ V.heap.size := hbV.size
       have HBOXV := hid ((hbV.block rb (Nat.lt_of_lt_of_le HRY.out.2.1 HYZ.out)).trans HBOXZ.out)
       have HGPV := hid ((hbV.block gp HGR.out.2.2.2).trans HGPZ.out)
       have HPVV := hid (HPVZ.out.kept (grown_of_below hbV) (.inl rfl))
       have HS0 : V.cell? ⟨gw, 2, none⟩ = some (.slice a2.pA s2.opn.length a2.pc) ∧ V.cell? ⟨gp, 0, none⟩ = some (.slice A1 PK.length c1) ∧ V.cell? ⟨gp, 1, none⟩ = some (.slice A2 PV.length c2) := by
         refine ⟨HWSV.out.cells.2.2.1, ?_, ?_⟩
         · rw [cell_of_row V gp 0 _ _ (0, 0) HGPV.out]; rfl
         · rw [cell_of_row V gp 1 _ _ (0, 0) HGPV.out]; rfl
       have hgwV := HWSV.out.lt
       have hgpV : gp < V.heap.size := Nat.lt_of_lt_of_le HGR.out.2.2.2 hzV
       have HSB : Hid (∀ Y', Below V.heap.size V Y' → Y'.cell? ⟨gw, 2, none⟩ = some (.slice a2.pA s2.opn.length a2.pc) ∧ Y'.cell? ⟨gp, 0, none⟩ = some (.slice A1 PK.length c1) ∧ Y'.cell? ⟨gp, 1, none⟩ = some (.slice A2 PV.length c2)) := hid (fun Y' hb => ⟨(hb.cell (p := ⟨gw, 2, none⟩) hgwV).trans HS0.1, (hb.cell (p := ⟨gp, 0, none⟩) hgpV).trans HS0.2.1, (hb.cell (p := ⟨gp, 1, none⟩) hgpV).trans HS0.2.2⟩)
       refine wp_region_E 10 (fun w' => w'.cell? ⟨gw, 2, none⟩ = some (.slice a2.pA s2.opn.length a2.pc) ∧ w'.cell? ⟨gp, 0, none⟩ = some (.slice A1 PK.length c1) ∧ w'.cell? ⟨gp, 1, none⟩ = some (.slice A2 PV.length c2)) (by kernel_rfl) ?_
       rw [hV]
       clear hV hbV hzV HWSZ HKZ HBOXZ HGPZ HPVZ HZE HGE
       refine wpAnyE_take (i := 0) (v := ?_) rfl (by kernel_rfl) (by kernel_rfl) (by kernel_rfl) (by kernel_rfl) (fun _ _ _ h => h) (Or.inl ⟨by rfl, ?_⟩) HS0 ?_
       rotate_left
       · (intro wy hSw; obtain ⟨s1, s2x, s3⟩ := hSw; go_simp; try with_reducible rfl)
       try simp only [Act.put, List.setIfInBounds_toArray]
       refine wpAnyE_take (i := 1) (v := ?_) rfl (by kernel_rfl) (by kernel_rfl) (by kernel_rfl) (by kernel_rfl) (fun _ _ _ h => h) (Or.inl ⟨by rfl, ?_⟩) HS0 ?_
       rotate_left
       · (intro wy hSw; obtain ⟨s1, s2x, s3⟩ := hSw; go_simp; try with_reducible rfl)
       try simp only [Act.put]
       refine wpAnyE_take (i := 2) (v := ?_) rfl (by kernel_rfl) (by kernel_rfl) (by kernel_rfl) (by kernel_rfl) (fun _ _ _ h => h) (Or.inl ⟨by rfl, ?_⟩) HS0 ?_
       rotate_left
       · (intro wy hSw; obtain ⟨s1, s2x, s3⟩ := hSw; go_simp; try with_reducible rfl)
       try simp only [Act.put]
       refine wpAnyE_take (i := 3) (v := ?_) rfl (by kernel_rfl) (by kernel_rfl) (by kernel_rfl) (by kernel_rfl) (fun _ _ _ h => h) (Or.inl ⟨by rfl, ?_⟩) HS0 ?_
       rotate_left
       · (intro wy hSw; obtain ⟨s1, s2x, s3⟩ := hSw; go_simp; try with_reducible rfl)
       try simp only [Act.put]
       refine wpAnyE_take (i := 4) (v := ?_) rfl (by kernel_rfl) (by kernel_rfl) (by kernel_rfl) (by kernel_rfl) (fun _ _ _ h => h) (Or.inl ⟨by rfl, ?_⟩) HS0 ?_
       rotate_left
       · (intro wy hSw; obtain ⟨s1, s2x, s3⟩ := hSw; go_simp; try with_reducible rfl)
       try simp only [Act.put]
       refine wpAnyE_take (i := 5) (v := ?_) rfl (by kernel_rfl) (by kernel_rfl) (by kernel_rfl) (by kernel_rfl) (fun _ _ _ h => h) (Or.inl ⟨by rfl, ?_⟩) HS0 ?_
       rotate_left
       · (intro wy hSw; obtain ⟨s1, s2x, s3⟩ := hSw; go_simp; try with_reducible rfl)
       try simp only [Act.put]
       refine wpAnyE_one (i := 6) (by kernel_rfl) rfl (fun K hK => ?_)
       go_simp
       have hb6 := (Below.refl V.heap.size V).alloc (Nat.le_refl _) (.cells #[.slice A1 PK.length c1, .slice A2 PV.length c2] 77)
       refine hK _ _ (HSB.out _ hb6) ?_
       try simp only [Act.put]
       have H6 := hid (HWSV.out.call hb6)
       have HP6 := hid (HPVV.out.kept (grown_of_below hb6) (.inl rfl))
       have HK6 := hid (HKV.out.below hb6)
       have HX6 := hid ((hb6.block rb (by have := HRY.out.2.1; have := HYZ.out; have := HGR.out.2.2.1; omega)).trans HBOXV.out)
       have HG6' := hid ((hb6.block gp hgpV).trans HGPV.out)
       have hmb := Tb.mid_bnd HBND.out (by omega) size
       rw [← HST2.out] at hmb
       have hlenO : s2.opn.length ≤ 20000 := by have := hmb.2.2.1; simp [Wr.st] at this; omega
       have HMN : Hid (0 ≤ s2.n ∧ s2.n ≤ 20000 * (k : Int)) := hid ⟨hmb.2.2.2.1, hmb.2.2.2.2⟩
       clear hmb
       refine wpAnyE_one (i := 7) (by kernel_rfl) rfl (fun K hK => ?_)
       refine step_append_sd _ (by rfl) (some 95) (by rfl) (.tmp 92) (.tmp 94) pairT (by rfl) w.heap.size a2.pA a2.pc s2.opn rfl H6.out.opn (V.heap.size + 1) (some ⟨V.heap.size, 0, none⟩) 1 1 [⟨A1, c1, PK, A2, c2, PV⟩] rfl rfl (rd_pair_new V ⟨A1, c1, PK, A2, c2, PV⟩) (by simp; omega) (by unfold maxLen; simp; omega) H6.out.size ?_
       intro A6 c6 LL w6 hL ho6 hg6 hat6
       have HLL : Hid (LL = s2.opn ++ [⟨A1, c1, PK, A2, c2, PV⟩]) := hid hL
       have hne1 : some gw ≠ blk a2.pA := fun e => by
         rcases H6.out.d3.ne (r := some gw) (by simp) with h1 | h1
         · exact absurd (e.trans h1) (by simp)
         · exact h1 e.symm
       have hne2 : some gp ≠ blk a2.pA := fun e => HGR.out.1 (by rw [e]; simp [WrA.R])
       have hne3 : some rb ≠ blk a2.pA := fun e => HRY.out.2.2 (by rw [e]; simp [WrA.R])
       have hgw7 := H6.out.lt
       have hgp7 := (Array.getElem?_eq_some_iff.1 HG6'.out).1
       have hrb7 := (Array.getElem?_eq_some_iff.1 HX6.out).1
       have HBX6 := hid ((hg6.block gw hgw7 hne1).trans H6.out.box)
       have HGP6 := hid ((hg6.block gp hgp7 hne2).trans HG6'.out)
       have HRB6 := hid ((hg6.block rb hrb7 hne3).trans HX6.out)
       have HKK6 := hid (HK6.out.kept hg6 (HOFF.out.ne (by simp [WrA.R])))
       have hS6 : w6.cell? ⟨gw, 2, none⟩ = some (.slice a2.pA s2.opn.length a2.pc) ∧ w6.cell? ⟨gp, 0, none⟩ = some (.slice A1 PK.length c1) ∧ w6.cell? ⟨gp, 1, none⟩ = some (.slice A2 PV.length c2) := by
         refine ⟨?_, ?_, ?_⟩
         · rw [cell_of_row w6 gw 2 _ _ (0, 0) HBX6.out]; rfl
         · rw [cell_of_row w6 gp 0 _ _ (0, 0) HGP6.out]; rfl
         · rw [cell_of_row w6 gp 1 _ _ (0, 0) HGP6.out]; rfl
       have fz6 : w6.frozen? ⟨gw, 2, none⟩ = false := frozen_of_row w6 gw 2 _ _ HBX6.out
       have HO6 := hid ho6; have HG6 := hid hg6; have HT6 := hid hat6
       refine hK _ _ hS6 ?_
       try simp only [Act.put]
       refine wpAnyE_one (i := 8) (by kernel_rfl) rfl (fun K hK => ?_)
       go_simp
       refine hK _ _ hS6 ?_
       try simp only [Act.put]
       refine wpAnyE_one (i := 9) (by kernel_rfl) rfl (fun K hK => ?_)
       go_simp
       refine hK _ _ hS6 ?_
       try simp only [Act.put]
       obtain ⟨g1, g2, g3⟩ := hS6
       refine wpAnyE_last (by kernel_rfl) (by kernel_rfl) rfl (fun K hK => ?_)
       go_simp
       refine hK _ _ ?_
       have hw7 : WS w w.heap.size gw ⟨s2.out, s2.index, LL, s2.n, s2.bad⟩ { a2 with pA := A6, pc := c6 } (w6.setCell ⟨gw, 2, none⟩ (.slice A6 LL.length c6)) := by
         have hLL := HLL.out
         have ho := HO6.out
         subst hLL
         exact H6.out.app_opn HP6.out ho HG6.out HT6.out (heap_set2_ HBX6.out)
       have hgs := grownBy_set w6 ⟨gw, 2, none⟩ (.slice A6 LL.length c6)
       have hk7 := HKK6.out.kept hgs (HOFF.out.ne (by simp [WrA.R]))
       have hoff7 : Off (({ a2 with pA := A6, pc := c6 } : WrA).R gw) (blk KA) := HOFF.out.new (fun g hg => (HK6.out.blk_ge g hg).2) (fun r hr => by
         simp only [WrA.R, List.mem_cons, List.not_mem_nil, or_false] at hr ⊢
         rcases hr with h1 | h1 | h1 | h1
         · exact .inl (.inl h1)
         · exact .inl (.inr (.inl h1))
         · exact .inl (.inr (.inr (.inl h1)))
         · rcases HT6.out with h2 | h2
           · exact .inl (.inr (.inr (.inr (h1.trans h2))))
           · exact .inr (h1.trans h2))
       have hgp8 : (w6.setCell ⟨gw, 2, none⟩ (.slice A6 LL.length c6)).heap[gp]? = some (.cells #[.slice A1 PK.length c1, .slice A2 PV.length c2] 77) := (Below.heap_setCell _ _ _ _ (fun e => HGR.out.1 (by rw [e]; simp [WrA.R]))).trans HGP6.out
       have hrb8 : (w6.setCell ⟨gw, 2, none⟩ (.slice A6 LL.length c6)).heap[rb]? = some (.cells #[.slice kA kk.length kc, .int .i64 seq, .bool del, .slice vA vv.length vc] 35) := (Below.heap_setCell _ _ _ _ (fun e => HRY.out.2.2 (by rw [e]; simp [WrA.R]))).trans HRB6.out
       have hLn : LL.length = s2.opn.length + 1 := by rw [HLL.out]; simp
       rw [hLn] at hw7 hk7 hgp8 hrb8
       obtain ⟨W7, hW7⟩ : ∃ W7, w6.setCell ⟨gw, 2, none⟩ (.slice A6 (s2.opn.length + 1) c6) = W7 := ⟨_, rfl⟩
       rw [hW7] at hw7 hk7 hgp8 hrb8 ⊢
       have HW7 := hid hw7; have HK7 := hid hk7; have HOFF7 := hid hoff7; have HGP7 := hid hgp8; have HRB7 := hid hrb8
       clear hw7 hk7 hoff7 hgp8 hrb8 hgs hW7 g1 g2 g3 fz6 hne1 hne2 hne3 hgw7 hgp7 hrb7 HO6 HG6 HT6 HBX6 HGP6 HRB6 HKK6 hL ho6 hg6 hat6 H6 HP6 HK6 HX6 HG6' HS0 HSB HWSV HKV HBOXV HGPV HPVV hb6 hgwV hgpV hLn hlenO
       obtain ⟨_, _, _, e3, _, ef⟩ := HW7.out.cells
       have ef3 := ef 3
       have e4 : W7.cell? ⟨gp, 0, none⟩ = some (.slice A1 PK.length c1) := by rw [cell_of_row W7 gp 0 _ _ (0, 0) HGP7.out]; rfl
       have e5 : W7.cell? ⟨gp, 1, none⟩ = some (.slice A2 PV.length c2) := by rw [cell_of_row W7 gp 1 _ _ (0, 0) HGP7.out]; rfl
       have e6 : W7.cell? ⟨rb, 0, none⟩ = some (.slice kA kk.length kc) := by rw [cell_of_row W7 rb 0 _ _ (0, 0) HRB7.out]; rfl
       have e7 : W7.cell? ⟨rb, 1, none⟩ = some (.int .i64 seq) := by rw [cell_of_row W7 rb 1 _ _ (0, 0) HRB7.out]; rfl
       obtain ⟨n2, hn2⟩ : ∃ n2, s2.n = n2 := ⟨_, rfl⟩
       have hn20 : 0 ≤ n2 := by rw [← hn2]; exact HMN.out.1
       have hn21 : n2 ≤ 400000000 := by rw [← hn2]; have := HMN.out.2; omega
       have hpk := HIB.out.1
       have hpv := HIB.out.2
       simp only [hn2] at e3
       have HN2 := hid hn2
       clear hn2 ef
       go_wp2_with fail
       go_region
       obtain ⟨W8, hW8⟩ : ∃ W8, (W7.setCell ⟨gw, 3, none⟩ (.int .i64 (n2 + ((PK.length : Int) + (PV.length : Int))))).drew = W8 := ⟨_, rfl⟩
       have hw8 : WS w w.heap.size gw ⟨s2.out, s2.index, LL, n2 + ((PK.length : Int) + (PV.length : Int)), s2.bad⟩ { a2 with pA := A6, pc := c6 } W8 := by rw [← hW8]; exact (HW7.out.setN _).call ((Below.refl _ _).drew)
       have hk8 : OwnS Bs.cells 1 W8 w.heap.size 22 KA KC ((l.take k).map Rv.bs) := by
         rw [← hW8]
         exact (HK7.out.kept (grownBy_set W7 ⟨gw, 3, none⟩ _) (HOFF7.out.ne (by simp [WrA.R]))).below ((Below.refl _ _).drew)
       have hr8 : W8.heap[rb]? = some (.cells #[.slice kA kk.length kc, .int .i64 seq, .bool del, .slice vA vv.length vc] 35) := by
         rw [← hW8]
         exact (Below.heap_setCell _ _ _ _ (fun e => HRY.out.2.2 (by rw [e]; simp [WrA.R]))).trans HRB7.out
       obtain ⟨sE, hsE⟩ : ∃ sE : Wr, sE = ⟨s2.out, s2.index, LL, n2 + ((PK.length : Int) + (PV.length : Int)), s2.bad⟩ := ⟨_, rfl⟩
       obtain ⟨aE, haE⟩ : ∃ aE : WrA, aE = { a2 with pA := A6, pc := c6 } := ⟨_, rfl⟩
       have hst8 : sE.st = Tb.run size (l.take (k + 1)) := by
         rw [Tb.run_succ size l k hlt, Tb.add_mid, ← HST2.out, ← HRV.out, ← HPR.out, hsE, HLL.out, ← HN2.out]
         simp [Wr.st, Tb.plen, Pv.pr]
       have hkp8 : ∀ g, WB sE g → blk KA ≠ some g := by
         rintro g ⟨q, hq, hb⟩ e
         rw [hsE, HLL.out] at hq
         simp only [List.mem_append, List.mem_singleton] at hq
         rcases hq with h1 | h1 | h1
         · exact HKP.out g ⟨q, .inl h1, hb⟩ e
         · exact HKP.out g ⟨q, .inr h1, hb⟩ e
         · subst h1
           rcases hb with h2 | h2
           · exact (HNE.out g e).1 h2
           · exact (HNE.out g e).2 h2
       rw [← hsE, ← haE] at hw8
       have hoff8 : Off (aE.R gw) (blk KA) := by rw [haE]; exact HOFF7.out
       have HW8 := hid hw8; have HK8 := hid hk8; have HR8 := hid hr8; have HOFF8 := hid hoff8; have HKP8 := hid hkp8; have HST8 := hid hst8
       have f6 : W8.cell? ⟨rb, 0, none⟩ = some (.slice kA kk.length kc) := by rw [cell_of_row W8 rb 0 _ _ (0, 0) hr8]; rfl
       rw [hW8]
       clear hw8 hk8 hr8 hoff8 hkp8 hst8 hsE haE hW8 e3 e4 e5 e6 e7 ef3 hn20 hn21 hpk hpv HN2 HW7 HK7 HOFF7 HGP7 HRB7 HLL HNE HKP HST2 HPR HOFF HRY
       have HQL : Hid (((l.take k).map Rv.bs).length = k) := hid (by simp; omega)
       obtain ⟨Q, hQ⟩ : ∃ Q, Q = (l.take k).map Rv.bs := ⟨_, rfl⟩
       rw [← hQ] at HQL HK8
       have HQE := hid hQ
       clear hQ
       have HKL : Hid (kk.length ≤ 100000) := hid (by have h9 := (Tb.right_iff _).1 HRT.out; simp only at h9; omega)
       go_wp2_with (at_builtin; refine wpList_append_s _ rfl _ _ bsT rfl w.heap.size KA KC Q (by show Value.slice KA k KC = Value.slice KA Q.length KC; rw [HQL.out]) (HK8.out.alloc _) (W8.heap.size + 1) (some ⟨W8.heap.size, 0, none⟩) 1 1 [⟨kA, kc, kk⟩] rfl rfl (rd_bs_new W8 ⟨kA, kc, kk⟩) (by rw [HQL.out]; simp; omega) (by rw [HQL.out]; unfold maxLen; simp; omega) (by have := HW8.out.size; simp; omega) ?_)
       intro KA' KC' LK w9 hLK hoK hgK hatK
       obtain ⟨hw9, hoff9, hkp9⟩ := key_step HW8.out HK8.out HOFF8.out HKP8.out hgK hatK
       have hLKn : LK.length = k + 1 := by rw [hLK, List.length_append, HQL.out]; rfl
       have hrk8 : rb < (W8.alloc (.cells #[.slice kA kk.length kc] 22)).heap.size := by
         have h1 := (Array.getElem?_eq_some_iff.1 HR8.out).1
         simp; omega
       have hr9 : w9.heap[rb]? = some (.cells #[.slice kA kk.length kc, .int .i64 seq, .bool del, .slice vA vv.length vc] 35) :=
         (hgK.block rb hrk8 HNRB.out).trans ((((Below.refl W8.heap.size W8).alloc (Nat.le_refl _) _).block rb (Array.getElem?_eq_some_iff.1 HR8.out).1).trans HR8.out)
       have f7 : w9.cell? ⟨rb, 1, none⟩ = some (.int .i64 seq) := by rw [cell_of_row w9 rb 1 _ _ (0, 0) hr9]; rfl
       have hLK2 : LK = (l.take (k + 1)).map Rv.bs := by
         rw [hLK, HQE.out, List.take_succ_eq_append_getElem hlt, ← HRV.out]
         simp [Rv.bs]
       rw [hLK2] at hoK
       have HBRN := hid (BR.mk (l := l) (size := size) (k := k + 1) hw9 HST8.out hoK hoff9 hkp9 HORD.out)
       clear hw9 hoff9 hkp9 hr9 hrk8 hLK hLK2 hoK hgK hatK f6 HW8 HK8 HR8 HOFF8 HKP8 HST8 HQL HQE HORD
       have hLOW := Tb.lowK_succ l k hlt
       have hHIG := Tb.highK_succ l k hlt
       rw [← HRV.out, ← HLH.out.1] at hLOW
       rw [← HRV.out, ← HLH.out.2] at hHIG
       have HLH2 : Hid (min L seq = Tb.lowK l (k + 1) ∧ max H seq = Tb.highK l (k + 1)) := hid ⟨hLOW.symm, hHIG.symm⟩
       clear hLOW hHIG
       go_wp2_with fail
       go_region
       rw [hLKn]
       go_wp2_with fail
       go_roundw
       case rel => exact ⟨k + 1, _, _, KA', KC', _, _, by omega, by go_num, rfl, rfl, rfl, HLH2, hid (HBRN.out.call ((Below.refl _ _).drew))⟩
       case measure => simp [intOf]; omega
   · obtain rfl : k = l.length := by omega
     have hb0 := HBR.out
     have hst := hb0.st
     rw [List.take_length] at hst
     have hbnd := Tb.run_bnd size l HR.out hl2 l.length (Nat.le_refl _)
     rw [List.take_length] at hbnd
     have hcl := Tb.bnd_close hbnd (by omega)
     have hbl := hbnd.out
     have hil := hbnd.il
     have hol := hbnd.ol
     have hob := hbnd.ob
     rw [← hst] at hbl hil hol hob hcl
     have hsorted : Tb.sorted l = true := Tb.sorted_yes (fun i hi h0 => hb0.ord i hi h0 hi)
     have KCL := hid (close_any w w.heap.size gw s a wr hb0.ws (by simp [Wr.st] at hol; omega) (by simp [Wr.st] at hil; omega) (fun p hp => by
       have := hob p.pr (List.mem_map.2 ⟨p, hp, rfl⟩)
       exact ⟨Nat.le_trans this.1 (by omega), Nat.le_trans this.2 (by omega)⟩) (by simp [Wr.st] at hbl; omega))
     have HCB : Hid ((Tb.close s.st).out.length ≤ 100000000000 ∧ (Tb.close s.st).index.length ≤ 100000 ∧ (∀ p ∈ (Tb.close s.st).index, p.k.length ≤ 10000 ∧ p.v.length ≤ 10000)) := hid ⟨by omega, by omega, hcl.2.2.2.2⟩
     have HSO := hid hsorted
     have HST := hid hst
     have HKEYS := hid hb0.keys
     have HOFF := hid hb0.off
     have HWS0 := hid hb0.ws
     have HZB : Hid (64 ≤ size ∧ size ≤ 32768 ∧ 1 ≤ bits ∧ bits ≤ 32) := hid (by omega)
     clear hb0 hst hbnd hcl hbl hil hol hob hsorted HBR
     go_wp2_with fail
     refine KCL.out.mono ?_
     rintro e w2 ⟨rfl, s1, a1, hws1, hmv1, hs1, _⟩
     have HW1 := hid hws1
     have HS1 : Hid (s1.st = Tb.close (Tb.run size l)) := hid (hs1.trans (by rw [HST.out]))
     have hk1 : OwnS Bs.cells 1 w2 w.heap.size 22 KA KC ((l.take l.length).map Rv.bs) := HKEYS.out.keep (fun g hg => hmv1.block g (HKEYS.out.blk_ge g hg).2 (HOFF.out g hg))
     rw [List.take_length] at hk1
     have HRK : Hid (RdBs w2 w2.heap.size KA (l.map Rv.bs)) := hid ⟨hk1.rd, fun p hp => by
       obtain ⟨r, hr, rfl⟩ := List.mem_map.1 hp
       exact ((HH.out.ok r hr).key.below hws1.below (Nat.le_refl _)).more hws1.size⟩
     obtain ⟨B, hB⟩ : ∃ B, B = Blm.build bits.toNat (l.map Rv.k) := ⟨_, rfl⟩
     have hzE : ((bits.toNat : Nat) : Int) = bits := by have := HZB.out; omega
     have KBL := bbuild_any bits.toNat (by have := HZB.out; omega) (by have := HZB.out; omega) KA KC (l.map Rv.bs) w2 HRK.out (by simp; omega) (fun p hp => by
       obtain ⟨r, hr, rfl⟩ := List.mem_map.1 hp
       have := (Tb.right_iff _).1 (HR.out r hr)
       exact ⟨by show 0 < r.k.length; omega, by show r.k.length ≤ 100000; omega⟩)
     rw [hzE, List.length_map, List.map_map, show (Bs.l ∘ Rv.bs) = Rv.k from rfl, ← hB] at KBL
     have hBl : B.length ≤ 1000000 := by
       rw [hB, ← Blm.upto_all, Blm.upto_len]
       have h1 := HZB.out
       unfold Blm.size
       have : bits.toNat * (l.map Rv.k).length ≤ 32 * 20000 := Nat.mul_le_mul (by omega) (by simp; omega)
       omega
     have HKBL := hid KBL
     have HBE := hid hB
     have HBL := hid hBl
     have HMB1 : Hid (s1.out.length ≤ 100000000000 ∧ s1.index.length ≤ 100000 ∧ (∀ p ∈ s1.index, p.k.length ≤ 100000 ∧ p.v.length ≤ 100000)) := hid (by
       have h1 := HCB.out
       rw [← hs1] at h1
       refine ⟨h1.1, by simpa [Wr.st] using h1.2.1, fun p hp => ?_⟩
       have h3 := h1.2.2 p.pr (List.mem_map.2 ⟨p, hp, rfl⟩)
       exact ⟨Nat.le_trans h3.1 (by omega), Nat.le_trans h3.2 (by omega)⟩)
     clear hws1 hmv1 hs1 hk1 hB KBL hBl KCL HKEYS HOFF HST HCB HWS0 hzE
     go_wp2_with fail
     refine HKBL.out.mono ?_
     rintro e w3 ⟨hb3, ⟨hbad, _⟩ | ⟨_, FA, fc, rfl, hoB⟩⟩
     · exact absurd rfl hbad
     have HB3 := hid hb3
     have HOB3 := hid hoB
     have HW3 := hid (HW1.out.call hb3)
     obtain ⟨XX, hXX⟩ : ∃ XX, XX = Tb.blkB 16 (s1.index.map Pv.pr) := ⟨_, rfl⟩
     have hXl : XX.length ≤ 70368744177664 := by
       rw [hXX]
       have hm := HMB1.out
       refine Nat.le_trans (blkB_len 16 _ (fun p hp => ?_)) (by simp; omega)
       obtain ⟨q, hq, rfl⟩ := List.mem_map.1 hp
       exact hm.2.2 q hq
     have KX := hid (blk_bytes a1.xA a1.xc s1.index w3 ⟨HW3.out.idx.rd, fun p hp => (HW3.out.prs p (.inl hp)).ok⟩ (by have := HMB1.out; omega) (fun p hp => HMB1.out.2.2 p hp))
     rw [← hXX] at KX
     obtain ⟨_, x1, _, _, _, _⟩ := HW3.out.cells
     have HXE := hid hXX
     have HXL := hid hXl
     clear hb3 hoB hXX hXl HKBL HW1 HRK
     go_wp2_with fail
     refine KX.out.mono ?_
     rintro e w4 ⟨XA, xc, xe, rfl, hoX, hb4⟩
     have HW4 := hid (HW3.out.call hb4)
     have HOB4 := hid (HOB3.out.below hb4)
     have HOX4 := hid hoX
     have HF1 := hid (wframe_any w w.heap.size gw s1 a1 70 FA fc B w4 HW4.out HOB4.out.rd (by have := HBL.out; omega) (by have := HMB1.out; omega))
     have HOFX : Hid (Off (a1.R gw) (blk XA)) := hid (Off.fresh (n := w3.heap.size) (fun g hg => (hoX.blk_ge g hg).1) HW3.out.lts)
     clear hoX hb4 x1 KX HW3 HOB3
     go_wp2_with fail
     refine HF1.out.mono ?_
     rintro e w5 ⟨a2, rfl, hw5, hm5⟩
     have HOX5 := hid (own_keep HOX4.out (fun g hg => hm5.block g (HOX4.out.blk_ge g hg).2 (HOFX.out g hg)))
     obtain ⟨s5, hs5⟩ : ∃ s5 : Wr, s5 = { s1 with out := s1.out ++ Tb.putL 70 B, bad := s1.bad || !decide (B.length ≤ 65536) } := ⟨_, rfl⟩
     rw [← hs5] at hw5
     have HW5 := hid hw5
     have HS5 := hid hs5
     have HN5 : Hid (s5.out.length ≤ 100000100000) := hid (by rw [hs5]; have := HMB1.out; have := putL_len 70 B; simp; omega)
     have HF2 := hid (wframe_any w w.heap.size gw s5 a2 73 XA xc XX w5 hw5 HOX5.out.rd HXL.out (by have := HN5.out; omega))
     clear hw5 hm5 hs5 HF1 HOX4 HOFX HOB4 HW4
     go_wp2_with fail
     refine HF2.out.mono ?_
     rintro e w6 ⟨a3, rfl, hw6, _⟩
     obtain ⟨s6, hs6⟩ : ∃ s6 : Wr, s6 = { s5 with out := s5.out ++ Tb.putL 73 XX, bad := s5.bad || !decide (XX.length ≤ 65536) } := ⟨_, rfl⟩
     rw [← hs6] at hw6
     have HW6 := hid hw6
     have HS6 := hid hs6
     have HN6 : Hid (s6.out.length ≤ 100000200000) := hid (by rw [hs6]; have := HN5.out; have := putL_len 73 XX; simp; omega)
     have hlh := Tb.lohi_bd l HR.out hp l.length (Nat.le_refl _)
     rw [Tb.lowK_all, Tb.highK_all] at hlh
     have hLH := HLH.out
     rw [Tb.lowK_all, Tb.highK_all] at hLH
     obtain ⟨NL, hNL⟩ : ∃ NL : List Nat, NL = [size.toNat, bits.toNat, l.length, (Tb.low l).toNat, (Tb.high l).toNat] := ⟨_, rfl⟩
     have v0 : ((size.toNat : Nat) : Int) = size := by have := HZB.out; omega
     have v1 : ((bits.toNat : Nat) : Int) = bits := by have := HZB.out; omega
     have v3 : (((Tb.low l).toNat : Nat) : Int) = L := by rw [hLH.1]; omega
     have v4 : (((Tb.high l).toNat : Nat) : Int) = H := by rw [hLH.2]; omega
     have KN := hid (numsT_any w6.heap.size 5 [size.toNat, bits.toNat, l.length, (Tb.low l).toNat, (Tb.high l).toNat] (by simp) (by
         intro n hn
         have := HZB.out
         simp only [List.mem_cons, List.not_mem_nil, or_false] at hn
         rcases hn with h | h | h | h | h <;> omega)
       (w6.alloc (.cells #[.int .i64 size, .int .i64 bits, .int .i64 (l.length : Int), .int .i64 L, .int .i64 H] 3)) (fun k hk => by
         match k, hk with
         | 0, _ => rw [cell_of_row _ w6.heap.size 0 _ _ (0, 0) (heap_alloc_new w6 _)]; show _ = some (Value.int .i64 ((size.toNat : Nat) : Int)); rw [v0]; rfl
         | 1, _ => rw [cell_of_row _ w6.heap.size 1 _ _ (0, 0) (heap_alloc_new w6 _)]; show _ = some (Value.int .i64 ((bits.toNat : Nat) : Int)); rw [v1]; rfl
         | 2, _ => rw [cell_of_row _ w6.heap.size 2 _ _ (0, 0) (heap_alloc_new w6 _)]; rfl
         | 3, _ => rw [cell_of_row _ w6.heap.size 3 _ _ (0, 0) (heap_alloc_new w6 _)]; show _ = some (Value.int .i64 (((Tb.low l).toNat : Nat) : Int)); rw [v3]; rfl
         | 4, _ => rw [cell_of_row _ w6.heap.size 4 _ _ (0, 0) (heap_alloc_new w6 _)]; show _ = some (Value.int .i64 (((Tb.high l).toNat : Nat) : Int)); rw [v4]; rfl) (by simp))
     obtain ⟨N, hN⟩ : ∃ N, N = Tb.nums [size.toNat, bits.toNat, l.length, (Tb.low l).toNat, (Tb.high l).toNat] := ⟨_, rfl⟩
     rw [← hN] at KN
     have hNl : N.length ≤ 70368744177664 := by
       have := Tb.nums_len [size.toNat, bits.toNat, l.length, (Tb.low l).toNat, (Tb.high l).toNat] (by
         intro n hn
         have := HZB.out
         simp only [List.mem_cons, List.not_mem_nil, or_false] at hn
         rcases hn with h | h | h | h | h <;> omega) 5 (by simp)
       rw [List.take_of_length_le (by simp)] at this
       rw [hN]; omega
     have HNE := hid hN
     have HNLn := hid hNl
     clear hw6 hs6 hlh hLH hNL v0 v1 v3 v4 hN hNl HF2 HW5
     go_wp2_with fail
     refine KN.out.mono ?_
     rintro e w7 ⟨NA, nc, rfl, hoN, hb7⟩
     have hb67 : Below w6.heap.size w6 w7 := ((Below.refl _ _).alloc (Nat.le_refl _) _).trans (hb7.mono (by simp))
     have HW7 := hid (HW6.out.call hb67)
     have HF3 := hid (wframe_any w w.heap.size gw s6 a3 90 NA nc N w7 HW7.out hoN.rd HNLn.out (by have := HN6.out; omega))
     clear hoN hb7 hb67 KN HW6
     go_wp2_with fail
     refine HF3.out.mono ?_
     rintro e w8 ⟨a4, rfl, hw8, _⟩
     obtain ⟨s8, hs8⟩ : ∃ s8 : Wr, s8 = { s6 with out := s6.out ++ Tb.putL 90 N, bad := s6.bad || !decide (N.length ≤ 65536) } := ⟨_, rfl⟩
     rw [← hs8] at hw8
     have HW8 := hid hw8
     have hfin := tb_end HNO.out HSO.out s1 HS1.out B XX N HBE.out HXE.out HNE.out
     have hbad : (((s1.bad || !decide (B.length ≤ 65536)) || !decide (XX.length ≤ 65536)) || !decide (N.length ≤ 65536)) = s8.bad := by rw [hs8, HS6.out, HS5.out]
     have hout : ((s1.out ++ Tb.putL 70 B) ++ Tb.putL 73 XX) ++ Tb.putL 90 N = s8.out := by rw [hs8, HS6.out, HS5.out]
     rw [hbad, hout] at hfin
     have HFIN := hid hfin
     obtain ⟨y0, _, _, _, y4, _⟩ := HW8.out.cells
     obtain ⟨bd, hbd⟩ : ∃ bd, bd = s8.bad := ⟨_, rfl⟩
     rw [← hbd] at y4 HFIN
     clear hw8 hs8 hfin hbad hout HF3 HW7 hbd
     rcases bd with _ | _
     · have HG := hid (gives_well HFIN.out HW8.out.below HW8.out.out)
       go_wp2_with fail
       go_ret2
       exact HG.out
     · have HG := hid (gives_two HFIN.out HW8.out.below)
       go_wp2_with fail
       go_ret2
       exact HG.out
end Go.Proofs.YtgafionfojnieaaGreatDoor

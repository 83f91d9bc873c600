/- Parts of the proof, one behind the other: The contract of block's split (written by a program).; Plain: a pair taken of a block's bytes.; The contract of the closure that block's pairs hands back.; The contract of slices.Equal at ints. -/
import Derived.Test.YtgafionfojnieaaGreatDoorMrg38
import Derived.Deep.QuietTactic
import Derived.BigQuiet
namespace Go.Proofs.YtgafionfojnieaaGreatDoor
open Go.RowKit
open Lib (hid)
namespace Blk
def headAt (b : List UInt8) (i : Nat) : Nat := Frm.num4 ((b.drop (b.length - 5 - 4 * (many b - i))).take 4)
def headsOf (b : List UInt8) (k : Nat) : List Nat := (List.range k).map (headAt b)
theorem headsOf_succ (b : List UInt8) (k : Nat) : headsOf b (k + 1) = headsOf b k ++ [headAt b k] := by simp [headsOf, List.range_succ]
theorem hb_at (H : List Nat) (i : Nat) (hi : i < H.length) : ((hb H).drop (4 * i)).take 4 = Frm.be4 H[i] := by
 induction H generalizing i with
 | nil => simp at hi
 | cons a H ih =>
   have e : hb (a :: H) = Frm.be4 a ++ hb H := by simp [hb]
   rw [e]
   cases i with
   | zero => simp [Frm.be4]
   | succ i =>
     have e2 : 4 * (i + 1) = (Frm.be4 a).length + 4 * i := by simp [Frm.be4]; omega
     rw [e2, List.drop_append, List.drop_eq_nil_of_le (by omega), List.nil_append, show (Frm.be4 a).length + 4 * i - (Frm.be4 a).length = 4 * i by omega]
     exact ih i (by simpa using hi)
theorem hds_lt (E : Nat) : ∀ (l : List Pr) (i o : Nat) (last : List UInt8), ∀ x ∈ hds E i o last l, x ≤ o + (ents E i last l).length := by
 intro l
 induction l with
 | nil => intro i o last x hx; simp [hds] at hx
 | cons p l ih =>
   intro i o last x hx
   unfold hds at hx
   rw [List.mem_append] at hx
   rw [ents, List.length_append]
   rcases hx with hx | hx
   · split at hx
     · simp only [List.mem_singleton] at hx; omega
     · cases hx
   · have := ih _ _ _ x hx; omega
theorem heads_wf {b : List UInt8} {l : List Pr} (h : WFb b l) (hb' : b.length ≤ 4000000000) : headsOf b (many b) = hds 16 0 0 [] l := by
 obtain ⟨h1, h2, _, h4, h5, h6⟩ := tail_of h
 obtain ⟨H, hH⟩ : ∃ H, H = hds 16 0 0 [] l := ⟨_, rfl⟩
 obtain ⟨M, hM⟩ : ∃ M, M = many b := ⟨_, rfl⟩
 rw [← hH] at h2 h6 ⊢
 rw [← hM] at h2 h4 h5 h6 ⊢
 apply List.ext_getElem
 · simp [headsOf, h2]
 · intro i hi1 hi2
   have hiM : i < M := by omega
   have hx : H[i] < 4294967296 := by
     have := hds_lt 16 l 0 0 [] H[i] (by rw [← hH]; exact List.getElem_mem hi2)
     have h7 := congrArg List.length h5
     rw [List.length_take] at h7
     omega
   simp only [headsOf, List.getElem_map, List.getElem_range, headAt]
   rw [← hM]
   have e1 : (b.drop (b.length - 5 - 4 * (M - i))).take 4 = Frm.be4 H[i] := by
     rw [← hb_at H i hi2, ← h6, List.drop_take, List.drop_drop, List.take_take]
     congr 1
     · omega
     · congr 1; omega
   rw [e1, Frm.num4_be4 _ hx]
end Blk
def Nc (n : Nat) : List Value := [.int .i64 (n : Int)]
theorem intT : RT Tryz.prog 128 3 Nc 1 8 (.int .i64 0) :=
 ⟨Tryz.underlying128, by kernel_rfl, fun _ => rfl, fun a u hu => by simp [Nc] at hu; subst hu; rfl, by omega, rfl⟩
theorem rd_int_new (w : World) (n : Nat) : RdS Nc 1 (w.alloc (.cells #[.int .i64 (n : Int)] 3)) (w.heap.size + 1) (some ⟨w.heap.size, 0, none⟩) [n] := by
 refine RdS.of (f := Nc) (n := 1) (l := [n]) (fun _ => rfl) _ 0 (by omega) (fun k hk j u hj => ?_)
 obtain rfl : k = 0 := by simp at hk; exact hk
 have hj' : (Nc n)[j]? = some u := hj
 rw [cell_of_row _ w.heap.size _ _ _ (0, 0) (heap_alloc_new w _)]
 simpa [Nc] using hj'
theorem results_cb2 {P : Program} {fn : Func} {p u : Tmp} {ty : TypeId} (h : fn.results = #[.cell p ty, .tmp u]) (tmps : Array Value) (w : World) (g : Nat) (t : TypeId) (cs : Array Value) (fr : Nat × Nat) (d : TypeDesc)
   (hp : tmps.getD p undef = .pointer (some ⟨g, 0, none⟩)) (hg : w.heap[g]? = some (.cells cs t fr)) (hu : P.underlying ty = some d) (hd : (match d, hu with | .struct _, _ => true | .array _ _, _ => true | _, _ => false) = true) (hs : (P.info? ty).map (fun x => x.size) = some cs.size) :
   (results fn tmps).run P w = .ok (.tuple #[.agg cs, tmps.getD u undef]) w := by
 have h1 := results_cell_row (P := P) (fn := { fn with results := #[.cell p ty] }) (p := p) (ty := ty) rfl tmps w g t cs fr d hp hg hu hd hs
 have h2 : ((asAddr (tmps.getD p undef)).run P w).andThen (fun a w1 => (loadVar ty a).run P w1) = .ok (.agg cs) w := by
   simpa [results] using h1
 rw [hp] at h2
 have h3 : (loadVar ty ⟨g, 0, none⟩).run P w = .ok (.agg cs) w := by simpa [asAddr] using h2
 have hp2 := hp
 simp at hp2
 simp [results, h, asAddr, hp2, h3]
theorem block_size : (Tryz.prog.info? 130).map (fun x => x.size) = some 3 := by kernel_rfl
def SplitP (w : World) (A : Option Addr) (c : Nat) (b : List UInt8) (e : Ending) (w' : World) : Prop := Below w.heap.size w w' ∧
 ((e = .returned (.tuple #[.agg #[.slice none 0 0, .slice none 0 0, .int .i64 0], .bool false]) ∧ ∀ l0, ¬ Blk.WFb b l0) ∨
  (∃ (HA : Option Addr) (HC ev : Nat), e = .returned (.tuple #[.agg #[.slice A (b.length - 5 - 4 * Blk.many b) c, .slice HA (Blk.headsOf b (Blk.many b)).length HC, .int .i64 (ev : Int)], .bool true]) ∧ 5 + 4 * Blk.many b ≤ b.length ∧
    OwnS Nc 1 w' w.heap.size 3 HA HC (Blk.headsOf b (Blk.many b)) ∧ 1 ≤ ev ∧ ev ≤ 64 ∧ ∀ l0, Blk.WFb b l0 → ev = 16))
theorem split_no {w w' : World} {A : Option Addr} {c : Nat} {b : List UInt8} (hb : Below w.heap.size w w') (h : ∀ l0, ¬ Blk.WFb b l0) : SplitP w A c b (.returned (.tuple #[.agg #[.slice none 0 0, .slice none 0 0, .int .i64 0], .bool false])) w' := ⟨hb, .inl ⟨rfl, h⟩⟩
theorem heap_setD {w : World} {p : Addr} {k : Nat} (v : Value) (h : k ≠ p.block) : (w.setCell p v).heap[k]? = w.heap[k]? := Below.heap_setCell w p v k h
theorem heap_set3a {w : World} {g : Nat} {x y z a : Value} {T : TypeId} (h : w.heap[g]? = some (.cells #[x, y, z] T)) : (w.setCell ⟨g, 0, none⟩ a).heap[g]? = some (.cells #[a, y, z] T) := by
 have h1 := heap_setCell_same w g 0 _ T a h
 simpa using h1
theorem heap_set3b {w : World} {g : Nat} {x y z a : Value} {T : TypeId} (h : w.heap[g]? = some (.cells #[x, y, z] T)) : (w.setCell ⟨g, 1, none⟩ a).heap[g]? = some (.cells #[x, a, z] T) := by
 have h1 := heap_setCell_same w g 1 _ T a h
 simpa using h1
structure SpI (w : World) (b : List UInt8) (H : Nat) (A : Option Addr) (Z c ev k : Nat) (HA : Option Addr) (HC : Nat) (wr : World) : Prop where
 res : wr.heap[H]? = some (.cells #[.slice none 0 0, .slice none 0 0, .int .i64 0] 130)
 out : wr.heap[H + 1]? = some (.cells #[.slice A Z c, .slice HA k HC, .int .i64 (ev : Int)] 130)
 own : OwnS Nc 1 wr w.heap.size 3 HA HC (Blk.headsOf b k)
 below : Below w.heap.size w wr
 size : H + 2 ≤ wr.heap.size
theorem bnum_cut (A : Option Addr) (n c : Nat) (b : List UInt8) (w : World) (hn : n = b.length) (h : RdB w w.heap.size A b) (hl : 4 ≤ b.length) (hl2 : b.length ≤ 140737488355328) :
   Calls Tryz.prog 92 #[.slice A n c] w fun e w' => e = .returned (.int .i64 (Frm.num4 (b.take 4) : Int)) ∧ Below w.heap.size w w' := by subst hn; exact bnum_any A c b w h hl hl2
set_option maxHeartbeats 4000000 in
set_option maxRecDepth 100000 in
theorem split_any (A : Option Addr) (c : Nat) (b : List UInt8) (w : World) (h : RdB w w.heap.size A b) (hl : b.length ≤ 65536) (hc : b.length ≤ c) (hcc : c ≤ 9223372036854775807) :
   Calls Tryz.prog 57 #[.slice A b.length c] w (SplitP w A c b) := by
 by_cases h5 : (b.length : Int) < 5
 · have HG := hid (split_no (A := A) (c := c) (b := b) ((Below.refl w.heap.size w).alloc (Nat.le_refl _) (.cells #[.slice none 0 0, .slice none 0 0, .int .i64 0] 130)) (Blk.WFb.small (by omega)))
   go_enter Tryz.func57, Tryz.ntmps57
   go_wp2_with fail
   refine bodyPost_ret (results_cb2 rfl _ _ w.heap.size 130 #[.slice none 0 0, .slice none 0 0, .int .i64 0] _ _ rfl (heap_alloc_new _ _) Tryz.underlying130 rfl block_size) rfl ?_
   exact HG.out
 obtain ⟨N, hN⟩ : ∃ N, b.length = N + 5 := ⟨b.length - 5, by omega⟩
 have HH := hid h
 have HN := hid hN
 obtain ⟨g, off, rfl, hab, hcl⟩ := h.at_ (k := N + 4) (by omega)
 obtain ⟨ev, hev⟩ : ∃ ev, ev = (b[N + 4]'(by omega)).toNat := ⟨_, rfl⟩
 rw [← hev] at hcl
 have hev2 : ev < 256 := by rw [hev]; exact UInt8.toNat_lt _
 have HE16 : Hid (∀ l0, Blk.WFb b l0 → ev = 16) := hid (fun l0 hw => by
   have h1 := (Blk.tail_of hw).2.2.1
   rw [hN, show N + 5 - 1 = N + 4 by omega, List.getElem?_eq_getElem (by omega)] at h1
   injection h1 with h1
   rw [hev, h1]; rfl)
 have hcut := h.cut (k := N) (c := c) (by omega) (by omega)
 rw [if_neg (by omega)] at hcut
 have HCUT := hid hcut
 rw [hN] at hl hc
 have hlen : (b.length : Nat) = N + 5 := hN
 rw [hlen]
 have h5' : ¬ ((N : Int) + 5 < 5) := by omega
 have hcN : (N : Int) < (c : Int) := by omega
 clear h hN hev h5 hcut hlen
 go_enter Tryz.func57, Tryz.ntmps57
 go_wp2_with fail
 obtain ⟨W2, hW2⟩ : ∃ W2, W2 = (w.alloc (.cells #[.slice none 0 0, .slice none 0 0, .int .i64 0] 130)).alloc (.cells #[.slice none 0 0, .slice none 0 0, .int .i64 (ev : Int)] 130) := ⟨_, rfl⟩
 have hb2 : Below w.heap.size w W2 := by rw [hW2]; exact below_al2 _ _ _
 have hz2 : W2.heap.size = w.heap.size + 2 := by rw [hW2]; simp
 have y0 : W2.heap[w.heap.size]? = some (.cells #[.slice none 0 0, .slice none 0 0, .int .i64 0] 130) := by
   rw [hW2, heap_alloc_old _ _ (by simp)]; exact heap_alloc_new w _
 have y1 : W2.heap[w.heap.size + 1]? = some (.cells #[.slice none 0 0, .slice none 0 0, .int .i64 (ev : Int)] 130) := by
   rw [hW2]
   have := heap_alloc_new (w.alloc (.cells #[.slice none 0 0, .slice none 0 0, .int .i64 0] 130)) (.cells #[.slice none 0 0, .slice none 0 0, .int .i64 (ev : Int)] 130)
   simpa using this
 rw [← hW2]
 refine (bnum_cut _ _ _ (b.drop N) W2 (by rw [List.length_drop, HN.out]; omega) ((HCUT.out.below hb2 (Nat.le_refl _)).more hb2.size) (by rw [List.length_drop, HN.out]; omega) (by rw [List.length_drop, HN.out]; omega)).mono ?_
 rintro e w1 ⟨rfl, hb1⟩
 obtain ⟨M, hM⟩ : ∃ M, M = Frm.num4 ((b.drop N).take 4) := ⟨_, rfl⟩
 have hMm : M = Blk.many b := by rw [hM]; unfold Blk.many; rw [HN.out]; rfl
 have hMl : M < 4294967296 := by
   have h1 := Frm.num4_lt ((b.drop N).take 4) 0
   rw [hM]
   unfold Frm.num4
   have h2 : ((b.drop N).take 4).length = 4 := by rw [List.length_take, List.length_drop, HN.out]; omega
   rw [h2] at h1
   have h4 : (256 : Nat) ^ 4 = 4294967296 := by decide
   omega
 rw [← hM]
 have hcw0 := (hb1.block _ (by omega)).trans y0
 have hcw1 := (hb1.block _ (by omega)).trans y1
 have HCW0 := hid hcw0
 have HCW1 := hid hcw1
 have HBW := hid (hb2.trans (hb1.mono hb2.size))
 have HZ1 : Hid (w.heap.size + 2 ≤ w1.heap.size) := hid (by have := hb1.size; omega)
 have HMM := hid hMm
 have q0 := cell_of_row w1 w.heap.size 0 _ _ (0, 0) hcw0
 have q1 := cell_of_row w1 w.heap.size 1 _ _ (0, 0) hcw0
 have q2 := cell_of_row w1 w.heap.size 2 _ _ (0, 0) hcw0
 have f0 := frozen_of_row w1 w.heap.size 0 _ _ hcw0
 have f1 := frozen_of_row w1 w.heap.size 1 _ _ hcw0
 have f2 := frozen_of_row w1 w.heap.size 2 _ _ hcw0
 have r0 := cell_of_row w1 (w.heap.size + 1) 0 _ _ (0, 0) hcw1
 have r1 := cell_of_row w1 (w.heap.size + 1) 1 _ _ (0, 0) hcw1
 have r2 := cell_of_row w1 (w.heap.size + 1) 2 _ _ (0, 0) hcw1
 have p0 := frozen_of_row w1 (w.heap.size + 1) 0 _ _ hcw1
 simp only [List.getElem?_toArray, List.getElem?_cons_zero, List.getElem?_cons_succ] at q0 q1 q2 r0 r1 r2
 clear hM hMm hb1 hb2 hz2 y0 y1 hcw0 hcw1 hW2 HCUT
 by_cases hmu : ((N / 4 : Nat) : Int) < (M : Int)
 · have HG : Hid (∀ l0, ¬ Blk.WFb b l0) := hid (Blk.WFb.much (by rw [HN.out, ← HMM.out]; omega))
   have hmu2 : (N : Int) / 4 < (M : Int) := by omega
   clear hmu
   go_wp2_with fail
   refine bodyPost_ret (results_cb2 rfl _ _ w.heap.size 130 #[.slice none 0 0, .slice none 0 0, .int .i64 0] _ _ rfl (heap_set3 HCW0.out) Tryz.underlying130 rfl block_size) rfl ?_
   exact split_no (((HBW.out.setCell (by simp) _).setCell (by simp) _).setCell (by simp) _) HG.out
 have hmu2 : ¬ ((N : Int) / 4 < (M : Int)) := by omega
 have h4M : 4 * M ≤ N := by omega
 clear hmu
 by_cases hev1 : (ev : Int) < 1
 · have HG : Hid (∀ l0, ¬ Blk.WFb b l0) := hid (fun l0 hw => by have := HE16.out l0 hw; omega)
   go_wp2_with fail
   refine bodyPost_ret (results_cb2 rfl _ _ w.heap.size 130 #[.slice none 0 0, .slice none 0 0, .int .i64 0] _ _ rfl (heap_set3 HCW0.out) Tryz.underlying130 rfl block_size) rfl ?_
   exact split_no (((HBW.out.setCell (by simp) _).setCell (by simp) _).setCell (by simp) _) HG.out
 by_cases hev3 : 64 < (ev : Int)
 · have HG : Hid (∀ l0, ¬ Blk.WFb b l0) := hid (fun l0 hw => by have := HE16.out l0 hw; omega)
   go_wp2_with fail
   refine bodyPost_ret (results_cb2 rfl _ _ w.heap.size 130 #[.slice none 0 0, .slice none 0 0, .int .i64 0] _ _ rfl (heap_set3 HCW0.out) Tryz.underlying130 rfl block_size) rfl ?_
   exact split_no (((HBW.out.setCell (by simp) _).setCell (by simp) _).setCell (by simp) _) HG.out
 obtain ⟨Z, hZ⟩ : ∃ Z, Z = N - 4 * M := ⟨_, rfl⟩
 have hz1 : IntKind.i64.wrap (4 * (M : Int)) = 4 * (M : Int) := by rw [IntKind.wrap_i64]; omega
 have hz2 : (N : Int) - 4 * (M : Int) = (Z : Int) := by omega
 have hZc : (Z : Int) ≤ (c : Int) := by omega
 have hZ0 : (0 : Int) ≤ (Z : Int) := by omega
 have HZ : Hid (Z = b.length - 5 - 4 * Blk.many b) := hid (by rw [← HMM.out, HN.out, hZ]; rfl)
 clear hZ
 go_wp2_with fail
 obtain ⟨wa, hwa⟩ : ∃ wa, wa = w1.setCell ⟨w.heap.size + 1, 0, none⟩ (.slice (some ⟨g, off, none⟩) Z c) := ⟨_, rfl⟩
 rw [← hwa]
 have HA0 : Hid (SpI w b w.heap.size (some ⟨g, off, none⟩) Z c ev 0 none 0 wa) := hid (by
   rw [hwa]
   exact ⟨by rw [heap_setD _ (by simp)]; exact HCW0.out, heap_set3a HCW1.out, OwnS.nil _ _ _, HBW.out.setCell (by simp) _, by simp; exact HZ1.out⟩)
 clear q0 q1 q2 f0 f1 f2 r0 r1 r2 p0 hwa
 go_loopw [52] (fun i wr => ∃ (k : Nat) (HA : Option Addr) (HC : Nat), k ≤ M ∧ i = .int .i64 (k : Int) ∧ Hid (SpI w b w.heap.size (some ⟨g, off, none⟩) Z c ev k HA HC wr)) (fun i _ => M - (intOf i).toNat)
 case atStart => exact ⟨0, none, 0, by omega, rfl, HA0⟩
 case round =>
   obtain ⟨k, HA, HC, hk, rfl, HI⟩ := hrel
   by_cases hkM : k < M
   · obtain ⟨D, hD⟩ : ∃ D, D = M - k := ⟨_, rfl⟩
     obtain ⟨X0, hX0⟩ : ∃ X0, X0 = N - 4 * D := ⟨_, rfl⟩
     have hD0 : (M : Int) - (k : Int) = (D : Int) := by omega
     have hD1 : IntKind.i64.wrap (4 * (D : Int)) = 4 * (D : Int) := by rw [IntKind.wrap_i64]; omega
     have hD2 : (N : Int) - 4 * (D : Int) = (X0 : Int) := by omega
     have hX1 : (0 : Int) ≤ (X0 : Int) := by omega
     have hW1 : IntKind.i64.wrap (D : Int) = (D : Int) := by rw [IntKind.wrap_i64]; omega
     have hW2 : IntKind.i64.wrap (X0 : Int) = (X0 : Int) := by rw [IntKind.wrap_i64]; omega
     have hX2 : (X0 : Int) ≤ (N : Int) + 5 := by omega
     have hX3 : (X0 : Int) < (c : Int) := by omega
     have hX4 : ¬ (c = X0) := by omega
     have hcut := HH.out.cut (k := X0) (c := c) (by rw [HN.out]; omega) (by rw [HN.out]; omega)
     rw [if_neg (by omega)] at hcut
     obtain ⟨hd, hhd⟩ : ∃ hd, hd = Blk.headAt b k := ⟨_, rfl⟩
     have hhe : Frm.num4 ((b.drop X0).take 4) = hd := by rw [hhd]; unfold Blk.headAt; rw [← HMM.out, HN.out, hX0, hD]; rfl
     have KN : Hid (∀ w', Below wr.heap.size wr w' → Calls Tryz.prog 92 #[.slice (some ⟨g, off + X0, none⟩) (N + 5 - X0) (c - X0)] w' fun e w'' => e = .returned (.int .i64 (hd : Int)) ∧ Below w'.heap.size w' w'') := hid (fun w' hb => by
       rw [← hhe]
       have hbb := HI.out.below.trans (hb.mono HI.out.below.size)
       exact bnum_cut _ _ _ (b.drop X0) w' (by rw [List.length_drop, HN.out]) ((hcut.below hbb (Nat.le_refl _)).more hbb.size) (by rw [List.length_drop, HN.out]; omega) (by rw [List.length_drop, HN.out]; omega))
     have HHD := hid hhd
     have hln : (Blk.headsOf b k).length = k := by simp [Blk.headsOf]
     have hgt : w.heap.size + 1 < wr.heap.size := by have := HI.out.size; omega
     have HHN := hid hln
     have hsw := HI.out.below.size
     clear hD hX0 hcut hhd hhe hln
     go_wp2_with fail
     refine wp_region_E 14 (fun w' => w'.cell? ⟨w.heap.size + 1, 1, none⟩ = some (.slice HA k HC)) (by kernel_rfl) ?_
     have HSB : Hid (∀ Y, Below wr.heap.size wr Y → Y.cell? ⟨w.heap.size + 1, 1, none⟩ = some (.slice HA k HC)) := hid (fun Y hb => by
       rw [cell_of_row Y (w.heap.size + 1) 1 _ _ (0, 0) ((hb.block _ hgt).trans HI.out.out)]; rfl)
     obtain ⟨X, hX⟩ : ∃ X, wr.drew = X := ⟨_, rfl⟩
     have hbX : Below wr.heap.size wr X := by rw [← hX]; exact (Below.refl _ _).drew
     have HS0 : X.cell? ⟨w.heap.size + 1, 1, none⟩ = some (.slice HA k HC) := HSB.out X hbX
     have HBX := hid hbX
     rw [hX]
     clear hX hbX
     refine wpAnyE_take (i := 0) (v := ?v0) rfl (by kernel_rfl) (by kernel_rfl) (by kernel_rfl) (by kernel_rfl) (fun _ _ _ h => h) (Or.inl ⟨by rfl, ?y0⟩) HS0 ?r0
     case y0 => (intro wy hSw; go_simp; try with_reducible rfl)
     try simp only [Act.put, List.setIfInBounds_toArray]
     refine wpAnyE_take (i := 1) (v := ?v1) rfl (by kernel_rfl) (by kernel_rfl) (by kernel_rfl) (by kernel_rfl) (fun _ _ _ h => h) (Or.inl ⟨by rfl, ?y1⟩) HS0 ?r1
     case y1 => (intro wy hSw; go_simp; try with_reducible rfl)
     try simp only [Act.put]
     refine wpAnyE_take (i := 2) (v := ?v2) rfl (by kernel_rfl) (by kernel_rfl) (by kernel_rfl) (by kernel_rfl) (fun _ _ _ h => h) (Or.inl ⟨by rfl, ?y2⟩) HS0 ?r2
     case y2 => (intro wy hSw; go_simp; try with_reducible rfl)
     try simp only [Act.put]
     refine wpAnyE_take (i := 3) (v := ?v3) rfl (by kernel_rfl) (by kernel_rfl) (by kernel_rfl) (by kernel_rfl) (fun _ _ _ h => h) (Or.inl ⟨by rfl, ?y3⟩) HS0 ?r3
     case y3 => (intro wy hSw; go_simp; try with_reducible rfl)
     try simp only [Act.put]
     refine wpAnyE_take (i := 4) (v := ?v4) rfl (by kernel_rfl) (by kernel_rfl) (by kernel_rfl) (by kernel_rfl) (fun _ _ _ h => h) (Or.inl ⟨by rfl, ?y4⟩) HS0 ?r4
     case y4 => (intro wy hSw; go_simp; try with_reducible rfl)
     try simp only [Act.put]
     refine wpAnyE_take (i := 5) (v := ?v5) rfl (by kernel_rfl) (by kernel_rfl) (by kernel_rfl) (by kernel_rfl) (fun _ _ _ h => h) (Or.inl ⟨by rfl, ?y5⟩) HS0 ?r5
     case y5 => (intro wy hSw; go_simp; try with_reducible rfl)
     try simp only [Act.put]
     refine wpAnyE_take (i := 6) (v := ?v6) rfl (by kernel_rfl) (by kernel_rfl) (by kernel_rfl) (by kernel_rfl) (fun _ _ _ h => h) (Or.inl ⟨by rfl, ?y6⟩) HS0 ?r6
     case y6 => (intro wy hSw; go_simp; try with_reducible rfl)
     try simp only [Act.put]
     refine wpAnyE_take (i := 7) (v := ?v7) rfl (by kernel_rfl) (by kernel_rfl) (by kernel_rfl) (by kernel_rfl) (fun _ _ _ h => h) (Or.inl ⟨by rfl, ?y7⟩) HS0 ?r7
     case y7 => (intro wy hSw; go_simp; try with_reducible rfl)
     try simp only [Act.put]
     refine wpAnyE_take (i := 8) (v := ?v8) rfl (by kernel_rfl) (by kernel_rfl) (by kernel_rfl) (by kernel_rfl) (fun _ _ _ h => h) (Or.inl ⟨by rfl, ?y8⟩) HS0 ?r8
     case y8 => (intro wy hSw; go_simp; try with_reducible rfl)
     try simp only [Act.put]
     refine wpAnyE_take (i := 9) (v := ?v9) rfl (by kernel_rfl) (by kernel_rfl) (by kernel_rfl) (by kernel_rfl) (fun _ _ _ h => h) (Or.inl ⟨by rfl, ?y9⟩) HS0 ?r9
     case y9 => (intro wy hSw; go_simp; try with_reducible rfl)
     try simp only [Act.put]
     refine wpAnyE_one (i := 10) (by kernel_rfl) rfl (fun K hK => ?_)
     go_simp
     refine (KN.out X HBX.out).mono ?_
     rintro e w5 ⟨rfl, hb5⟩
     have HB5 := hid (HBX.out.trans (hb5.mono HBX.out.size))
     refine hK _ _ (HSB.out _ HB5.out) ?_
     clear hb5
     try simp only [Act.put]
     refine wpAnyE_one (i := 11) (by kernel_rfl) rfl (fun K hK => ?_)
     go_simp
     have HBY : Hid (Below wr.heap.size wr (w5.alloc (.cells #[.int .i64 (hd : Int)] 3))) := hid (HB5.out.alloc HB5.out.size _)
     refine hK _ _ (HSB.out _ HBY.out) ?_
     try simp only [Act.put]
     have hwz := HB5.out.size
     have HOY := hid (HI.out.own.below HBY.out)
     refine wpAnyE_one (i := 12) (by kernel_rfl) rfl (fun K hK => ?_)
     refine step_append_sd _ (by rfl) (some 67) (by rfl) (.tmp 56) (.tmp 66) intT (by rfl) w.heap.size HA HC (Blk.headsOf b k) (by rw [HHN.out]; rfl) HOY.out (w5.heap.size + 1) (some ⟨w5.heap.size, 0, none⟩) 1 1 [hd] rfl rfl (rd_int_new w5 hd) (by rw [HHN.out]; simp; omega) (by rw [HHN.out]; unfold maxLen; simp; omega) (by simp; omega) ?_
     intro A6 c6 L w6 hL ho6 hg6 hat6
     have hne : some (w.heap.size + 1) ≠ blk HA := fun e => by
       obtain ⟨_, cs, fr, h1⟩ := ownS_tag HI.out.own e.symm
       exact tag_ne2 h1 HI.out.out (by decide) rfl
     have hne0 : some w.heap.size ≠ blk HA := fun e => by
       obtain ⟨_, cs, fr, h1⟩ := ownS_tag HI.out.own e.symm
       exact tag_ne2 h1 HI.out.res (by decide) rfl
     have hbx6 := (hg6.block _ (by simp; omega) hne).trans ((HBY.out.block _ hgt).trans HI.out.out)
     have hbx0 := (hg6.block _ (by simp; omega) hne0).trans ((HBY.out.block _ (by omega)).trans HI.out.res)
     have hS6 : w6.cell? ⟨w.heap.size + 1, 1, none⟩ = some (.slice HA k HC) := by rw [cell_of_row w6 (w.heap.size + 1) 1 _ _ (0, 0) hbx6]; rfl
     have fz6 : w6.frozen? ⟨w.heap.size + 1, 1, none⟩ = false := frozen_of_row w6 (w.heap.size + 1) 1 _ _ hbx6
     have hLn : L.length = k + 1 := by rw [hL, List.length_append, HHN.out]; rfl
     rw [hLn]
     have hL2 : L = Blk.headsOf b (k + 1) := by rw [hL, Blk.headsOf_succ, HHD.out]
     have hset : ∀ g, blk A6 = some g → (w6.setCell ⟨w.heap.size + 1, 1, none⟩ (.slice A6 (k + 1) c6)).heap[g]? = w6.heap[g]? := fun g hg => by
       obtain ⟨_, cs, fr, h1⟩ := ownS_tag ho6 hg
       exact heap_setD _ (tag_ne2 h1 hbx6 (by decide))
     have HI6 : Hid (SpI w b w.heap.size (some ⟨g, off, none⟩) Z c ev (k + 1) A6 c6 (w6.setCell ⟨w.heap.size + 1, 1, none⟩ (.slice A6 (k + 1) c6))) := hid
       ⟨by rw [heap_setD _ (by simp)]; exact hbx0, heap_set3b hbx6, by rw [← hL2]; exact ho6.keep hset, ((HI.out.below.trans (HBY.out.mono hsw)).grown hg6 (by simp; omega) (fun g hg => (HI.out.own.blk_ge g hg).1)).setCell (by simp) _, by simp; have := hg6.size; simp at this; omega⟩
     refine hK _ _ hS6 ?_
     clear hL ho6 hg6 hat6 hbx6 hbx0 hLn hL2 hset hne hne0 HOY HBY HB5 HBX HSB KN HI
     try simp only [Act.put]
     refine wpAnyE_one (i := 13) (by kernel_rfl) rfl (fun K hK => ?_)
     go_simp
     refine hK _ _ hS6 ?_
     try simp only [Act.put]
     refine wpAnyE_last (by kernel_rfl) (by kernel_rfl) rfl (fun K hK => ?_)
     go_simp
     refine hK _ _ ?_
     go_wp2_with fail
     go_roundw
     case rel => exact ⟨k + 1, A6, c6, by omega, by go_num, HI6⟩
     case measure => simp [intOf]; omega
   · have hke : k = M := by omega
     subst hke
     have q0 := cell_of_row wr w.heap.size 0 _ _ (0, 0) HI.out.res
     have q1 := cell_of_row wr w.heap.size 1 _ _ (0, 0) HI.out.res
     have q2 := cell_of_row wr w.heap.size 2 _ _ (0, 0) HI.out.res
     have f0 := frozen_of_row wr w.heap.size 0 _ _ HI.out.res
     have f1 := frozen_of_row wr w.heap.size 1 _ _ HI.out.res
     have f2 := frozen_of_row wr w.heap.size 2 _ _ HI.out.res
     have r0 := cell_of_row wr (w.heap.size + 1) 0 _ _ (0, 0) HI.out.out
     have r1 := cell_of_row wr (w.heap.size + 1) 1 _ _ (0, 0) HI.out.out
     have r2 := cell_of_row wr (w.heap.size + 1) 2 _ _ (0, 0) HI.out.out
     simp only [List.getElem?_toArray, List.getElem?_cons_zero, List.getElem?_cons_succ] at q0 q1 q2 r0 r1 r2
     go_wp2_with fail
     refine bodyPost_ret (results_cb2 rfl _ _ w.heap.size 130 #[.slice (some ⟨g, off, none⟩) Z c, .slice HA k HC, .int .i64 (ev : Int)] _ _ rfl (heap_set3 HI.out.res) Tryz.underlying130 rfl block_size) rfl ?_
     have hset : ∀ x, blk HA = some x → (((wr.setCell ⟨w.heap.size, 0, none⟩ (.slice (some ⟨g, off, none⟩) Z c)).setCell ⟨w.heap.size, 1, none⟩ (.slice HA k HC)).setCell ⟨w.heap.size, 2, none⟩ (.int .i64 (ev : Int))).heap[x]? = wr.heap[x]? := fun x hx => by
       obtain ⟨_, cs, fr, h1⟩ := ownS_tag HI.out.own hx
       have hne := tag_ne2 h1 HI.out.res (by decide)
       rw [heap_setD _ (by simpa using hne), heap_setD _ (by simpa using hne), heap_setD _ (by simpa using hne)]
     refine ⟨((HI.out.below.setCell (by simp) _).setCell (by simp) _).setCell (by simp) _, .inr ⟨HA, HC, ev, ?_, ?_, ?_, by omega, by omega, HE16.out⟩⟩
     · rw [← HZ.out, ← HMM.out, show (Blk.headsOf b k).length = k by simp [Blk.headsOf]]; rfl
     · rw [← HMM.out, HN.out]; omega
     · rw [← HMM.out]; exact HI.out.own.keep hset
namespace Blk
def nextP (head : Bool) (last r : List UInt8) : Option (Pr × List UInt8) := match Cod.take r with
 | none => none
 | some (n, R1) => if last.length < n ∨ (head = true ∧ 0 < n) then none else match cutT (Cod.take R1) with
   | none => none
   | some (k, R2) => match cutT (Cod.take R2) with
     | none => none
     | some (v, R3) => if head = false ∧ (Lib.compareBytes (last.take n ++ k) last ≤ 0 ∨ common (last.take n ++ k) last ≠ n) then none else some (⟨last.take n ++ k, v⟩, R3)
section
variable {head : Bool} {last r R1 R2 R3 k v : List UInt8} {n : Nat}
theorem nextP_no1 (h : Cod.take r = none) : nextP head last r = none := by unfold nextP; simp only [h]
theorem nextP_no2 (h : Cod.take r = some (n, R1)) (hn : last.length < n) : nextP head last r = none := by unfold nextP; simp only [h]; rw [if_pos (.inl hn)]
theorem nextP_no2t (h : Cod.take r = some (n, R1)) (hn : 0 < n) : nextP true last r = none := by unfold nextP; simp only [h]; rw [if_pos (.inr (by simpa using hn))]
theorem np_neg (hn : n ≤ last.length) (hh : head = true → n = 0) : ¬ (last.length < n ∨ (head = true ∧ 0 < n)) := by
 rintro (h | ⟨h1, h2⟩)
 · omega
 · have := hh h1; omega
theorem nextP_no3 (h : Cod.take r = some (n, R1)) (hn : n ≤ last.length) (hh : head = true → n = 0) (h2 : cutT (Cod.take R1) = none) : nextP head last r = none := by
 unfold nextP; simp only [h]; rw [if_neg (np_neg hn hh)]; simp only [h2]
theorem nextP_no4 (h : Cod.take r = some (n, R1)) (hn : n ≤ last.length) (hh : head = true → n = 0) (h2 : cutT (Cod.take R1) = some (k, R2)) (h3 : cutT (Cod.take R2) = none) : nextP head last r = none := by
 unfold nextP; simp only [h]; rw [if_neg (np_neg hn hh)]; simp only [h2, h3]
theorem nextP_no5 (h : Cod.take r = some (n, R1)) (hn : n ≤ last.length) (hh : head = true → n = 0) (h2 : cutT (Cod.take R1) = some (k, R2)) (h3 : cutT (Cod.take R2) = some (v, R3)) (h4 : head = false) (h5 : Lib.compareBytes (last.take n ++ k) last ≤ 0 ∨ common (last.take n ++ k) last ≠ n) : nextP head last r = none := by
 unfold nextP; simp only [h]; rw [if_neg (np_neg hn hh)]; simp only [h2, h3]; rw [if_pos ⟨h4, h5⟩]
theorem nextP_yes (h : Cod.take r = some (n, R1)) (hn : n ≤ last.length) (hh : head = true → n = 0) (h2 : cutT (Cod.take R1) = some (k, R2)) (h3 : cutT (Cod.take R2) = some (v, R3)) (h5 : head = false → ¬ (Lib.compareBytes (last.take n ++ k) last ≤ 0 ∨ common (last.take n ++ k) last ≠ n)) : nextP head last r = some (⟨last.take n ++ k, v⟩, R3) := by
 unfold nextP; simp only [h]; rw [if_neg (np_neg hn hh)]; simp only [h2, h3]; rw [if_neg (fun h => h5 h.1 h.2)]
end
theorem common_comm (a b : List UInt8) : common a b = common b a := by
 induction a generalizing b with
 | nil => cases b <;> rfl
 | cons x a ih =>
   cases b with
   | nil => rfl
   | cons y b =>
     unfold common
     by_cases h : x = y
     · rw [if_pos h, if_pos h.symm, ih]
     · rw [if_neg h, if_neg (fun e => h e.symm)]
def lastK (o : List Pr) : List UInt8 := (o.getLast?.map Pr.k).getD []
theorem lastK_snoc (o : List Pr) (p : Pr) : lastK (o ++ [p]) = p.k := by simp [lastK]
theorem srt_at {o l2 : List Pr} {p : Pr} (h : srt (o ++ p :: l2) = true) (ho : 0 < o.length) : Op.bytesLess (lastK o) p.k = true := by
 have h1 := (srt_iff _).1 h o.length (by simp) ho (by simp)
 have e1 : (o ++ p :: l2)[o.length]'(by simp) = p := by simp
 have e2 : (o ++ p :: l2)[o.length - 1]'(by simp; omega) = o[o.length - 1]'(by omega) := by
   rw [List.getElem_append_left]
 have e3 : lastK o = (o[o.length - 1]'(by omega)).k := by
   unfold lastK
   rw [List.getLast?_eq_getElem?, List.getElem?_eq_getElem (by omega)]
   rfl
 rw [e1, e2] at h1
 rw [e3]; exact h1
theorem WRel.nextP {b last rest : List UInt8} {o : List Pr} (h : WRel b o last rest) (hr : rest ≠ []) (hb : last.length < 18446744073709551616) (hk : lastK o = last) {l0 : List Pr} (hw : WFb b l0) :
   ∃ p l2, l0 = o ++ p :: l2 ∧ Blk.nextP (o.length % 16 == 0) last rest = some (p, ents 16 (o.length + 1) p.k l2) := by
 obtain ⟨p, l2, R1, R2, e, a1, a2, a3, a4, a5⟩ := h.next hr hb hw
 refine ⟨p, l2, e, ?_⟩
 unfold Blk.nextP
 simp only [a1]
 rw [if_neg]
 · simp only [a2, a3]
   rw [if_neg]
   · rw [a4]
   · rintro ⟨h1, h2⟩
     have h0 : ¬ o.length % 16 = 0 := by simpa using h1
     have ho : 0 < o.length := by
       rcases Nat.eq_zero_or_pos o.length with h3 | h3
       · rw [h3] at h0; simp at h0
       · exact h3
     have hs := srt_at (e ▸ hw.few.2) ho
     rw [a4] at h2
     rcases h2 with h2 | h2
     · rw [hk] at hs
       have h4 := (compareBytes_le p.k last).1 h2
       rw [hs] at h4; cases h4
     · apply h2
       unfold cn
       rw [if_neg h0, common_comm]
 · rintro (h1 | ⟨h1, h2⟩)
   · omega
   · have h0 : o.length % 16 = 0 := by simpa using h1
     unfold cn at h2
     rw [if_pos h0] at h2
     omega
theorem WRel.stepP {b last rest R3 : List UInt8} {o : List Pr} {p : Pr} (h : WRel b o last rest) (hr : rest ≠ []) (hb : last.length < 18446744073709551616) (hk : lastK o = last) (hn : Blk.nextP (o.length % 16 == 0) last rest = some (p, R3)) : WRel b (o ++ [p]) p.k R3 := fun l0 hw => by
 obtain ⟨p', l2, e, e2⟩ := h.nextP hr hb hk hw
 rw [hn] at e2
 injection e2 with e2
 injection e2 with e3 e4
 subst e3
 exact ⟨l2, by rw [e]; simp, by rw [e4]; simp⟩
theorem WRel.noP {b last rest : List UInt8} {o : List Pr} (h : WRel b o last rest) (hr : rest ≠ []) (hb : last.length < 18446744073709551616) (hk : lastK o = last) (hn : Blk.nextP (o.length % 16 == 0) last rest = none) (l0 : List Pr) : ¬ WFb b l0 := fun hw => by
 obtain ⟨p', l2, e, e2⟩ := h.nextP hr hb hk hw
 rw [hn] at e2; cases e2
theorem nextP_len {head : Bool} {last r R3 : List UInt8} {p : Pr} (h : nextP head last r = some (p, R3)) : R3.length + 3 ≤ r.length ∧ p.k.length + R3.length ≤ last.length + r.length ∧ p.v.length + R3.length ≤ r.length := by
 unfold nextP at h
 split at h
 · cases h
 · rename_i n R1 h1
   split at h
   · cases h
   · split at h
     · cases h
     · rename_i k R2 h2
       split at h
       · cases h
       · rename_i v R3' h3
         split at h
         · cases h
         · injection h with h
           injection h with h4 h5
           subst h4 h5
           have e1 := Cod.take_number h1
           have e2 := Frm.cutT_text h2
           have e3 := Frm.cutT_text h3
           have l1 := congrArg List.length e1
           have l2 := congrArg List.length e2
           have l3 := congrArg List.length e3
           simp only [List.length_append, Cod.text, Cod.number] at l1 l2 l3
           simp only [List.length_append, List.length_take, List.length_cons, List.length_nil] at l1 l2 l3 ⊢
           omega
end Blk
theorem pairs_any (A : Option Addr) (n c : Nat) (w : World) :
   Calls Tryz.prog 58 #[.slice A n c] w fun e w' => e = .returned (.func (.func 93) #[] #[.pointer (some ⟨w.heap.size, 0, none⟩), .pointer (some ⟨w.heap.size + 1, 0, none⟩)]) ∧ w' = (w.alloc (.cells #[.slice A n c] 22)).alloc (.cells #[.slice none 0 0] 22) := by
 go_enter Tryz.func58, Tryz.ntmps58
 go_wp2_with fail
 go_ret
 exact ⟨rfl, rfl⟩
theorem pair2_size : (Tryz.prog.info? 77).map (fun x => x.size) = some 2 := by kernel_rfl
structure NextOk (w : World) (base gb gl : Nat) (p : Pr) (R3 : List UInt8) (q : Pv) (B3 : Option Addr) (d3 : Nat) (LA : Option Addr) (LC : Nat) (w' : World) : Prop where
 bx : w'.heap[gb]? = some (.cells #[.slice B3 R3.length d3] 22)
 lx : w'.heap[gl]? = some (.cells #[.slice LA p.k.length LC] 22)
 pr : q.pr = p
 key : Own w' w.heap.size 5 q.kA q.kc q.k
 val : Own w' w.heap.size 5 q.vA q.vc q.v
 last : Own w' w.heap.size 5 LA LC p.k
 rest : HBs w' base B3 R3
 cap : R3.length ≤ d3 ∧ d3 ≤ 9223372036854775807
 size : w.heap.size ≤ w'.heap.size
 keep : ∀ k, k < w.heap.size → k ≠ gb → k ≠ gl → w'.heap[k]? = w.heap[k]?
 below : Below base w w'
def NextP (w : World) (base gb gl : Nat) (v : Option (Pr × List UInt8)) (e : Ending) (w' : World) : Prop := match v with
 | none => ∃ x : Int, x ≠ 0 ∧ e = .returned (.tuple #[.agg #[.slice none 0 0, .slice none 0 0], .slice none 0 0, .int .i64 x]) ∧ Below w.heap.size w w'
 | some (p, R3) => ∃ q B3 d3 LA LC, e = .returned (.tuple #[.agg #[.slice q.kA q.k.length q.kc, .slice q.vA q.v.length q.vc], .slice B3 R3.length d3, .int .i64 0]) ∧ NextOk w base gb gl p R3 q B3 d3 LA LC w'
theorem concat_two (A1 A2 : Option Addr) (n c1 c2 : Nat) (l1 l2 : List UInt8) (w : World) (hn : n = l1.length) (h1 : RdB w w.heap.size A1 l1) (h2 : RdB w w.heap.size A2 l2) (hl : l1.length + l2.length ≤ 70368744177664) :
   Calls Tryz.prog 83 #[.slice (some ⟨w.heap.size, 0, none⟩) 2 2] (w.alloc (.cells #[.slice A1 n c1, .slice A2 l2.length c2] 22)) (GivesB (w.alloc (.cells #[.slice A1 n c1, .slice A2 l2.length c2] 22)) (l1 ++ l2)) := by
 subst hn
 have K := concat_any (some ⟨w.heap.size, 0, none⟩) 2 [⟨A1, c1, l1⟩, ⟨A2, c2, l2⟩] (w.alloc (.cells #[.slice A1 l1.length c1, .slice A2 l2.length c2] 22)) ⟨RdS.of (f := Bs.cells) (n := 1) (fun _ => rfl) w.heap.size 0 (by simp) (fun j hj i u hu => by
   match j, hj, i, hu with
   | 0, _, 0, hu => simp [Bs.cells] at hu; subst hu; simp
   | 1, _, 0, hu => simp [Bs.cells] at hu; subst hu; simp
   | 0, _, i + 1, hu => simp [Bs.cells] at hu
   | 1, _, i + 1, hu => simp [Bs.cells] at hu), fun p hp => by
     simp only [List.mem_cons, List.not_mem_nil, or_false] at hp
     rcases hp with rfl | rfl
     · exact (h1.alloc (Nat.le_refl _) _).more (by simp)
     · exact (h2.alloc (Nat.le_refl _) _).more (by simp)⟩ (by simp) (by simp [cat]; exact hl)
 simpa [cat] using K
theorem own_set_tag {w : World} {base c g o : Nat} {cs : Array Value} {T : TypeId} {fr : Nat × Nat} {A : Option Addr} {l : List UInt8} {u : Value} (h : Own w base 5 A c l) (hb : w.heap[g]? = some (.cells cs T fr)) (hT : T ≠ 5) : Own (w.setCell ⟨g, o, none⟩ u) base 5 A c l :=
 own_keep2 h (fun x hx => by
   obtain ⟨_, cs', fr', h1⟩ := own_tag h hx
   exact heap_setD _ (tag_ne2 h1 hb (fun e => hT e.symm)))
theorem HBs.set_tag {w : World} {base g o : Nat} {cs : Array Value} {T : TypeId} {fr : Nat × Nat} {B : Option Addr} {r : List UInt8} {u : Value} (h : HBs w base B r) (hb : w.heap[g]? = some (.cells cs T fr)) (hT : T ≠ 5) (hg : base ≤ g) : HBs (w.setCell ⟨g, o, none⟩ u) base B r := h.keep (by simp) (fun hne x hx _ => by
 refine heap_setD _ (fun e => ?_)
 have e' : x = g := e
 subst e'
 rcases h.at_ hne x hx with h1 | ⟨cs', fr', h1⟩
 · omega
 · exact tag_ne2 h1 hb (fun e => hT e.symm) rfl)
theorem nextOk_mk {w wk w7 : World} {base gb gl c4 c3 d3 c7 : Nat} {X v R3 : List UInt8} {A4 A3 B3 A7 : Option Addr} {x y z u a1 a2 : Value} (hB : Below w.heap.size w wk) (hcw : wk.heap[w.heap.size]? = some (.cells #[x, y] 77)) (hbx : wk.heap[gb]? = some (.cells #[z] 22)) (hlx : wk.heap[gl]? = some (.cells #[u] 22))
   (hne : gb ≠ gl) (hgb : base ≤ gb) (hgl : base ≤ gl) (hgb2 : gb < w.heap.size) (hgl2 : gl < w.heap.size) (hX : Own wk w.heap.size 5 A4 c4 X) (hV : Own wk w.heap.size 5 A3 c3 v) (hR : HBs wk base B3 R3) (hcap : R3.length ≤ d3 ∧ d3 ≤ 9223372036854775807)
   (h7 : Own w7 ((wk.setCell ⟨gl, 0, none⟩ (.slice A4 X.length c4)).setCell ⟨gb, 0, none⟩ (.slice B3 R3.length d3)).heap.size 5 A7 c7 X) (hb7 : Below ((wk.setCell ⟨gl, 0, none⟩ (.slice A4 X.length c4)).setCell ⟨gb, 0, none⟩ (.slice B3 R3.length d3)).heap.size ((wk.setCell ⟨gl, 0, none⟩ (.slice A4 X.length c4)).setCell ⟨gb, 0, none⟩ (.slice B3 R3.length d3)) w7) :
   NextOk w base gb gl ⟨X, v⟩ R3 ⟨A7, c7, X, A3, c3, v⟩ B3 d3 A4 c4 ((w7.setCell ⟨w.heap.size, 0, none⟩ a1).setCell ⟨w.heap.size, 1, none⟩ a2) := by
 obtain ⟨w6, hw6⟩ : ∃ w6, w6 = (wk.setCell ⟨gl, 0, none⟩ (.slice A4 X.length c4)).setCell ⟨gb, 0, none⟩ (.slice B3 R3.length d3) := ⟨_, rfl⟩
 rw [← hw6] at h7 hb7
 have hH : w.heap.size < wk.heap.size := (Array.getElem?_eq_some_iff.1 hcw).1
 have hz6 : w6.heap.size = wk.heap.size := by rw [hw6]; simp
 have k6 : ∀ k, k ≠ gb → k ≠ gl → w6.heap[k]? = wk.heap[k]? := fun k h1 h2 => by rw [hw6, heap_setD _ h1, heap_setD _ h2]
 have hbx' : (wk.setCell ⟨gl, 0, none⟩ (.slice A4 X.length c4)).heap[gb]? = some (.cells #[z] 22) := (heap_setD _ hne).trans hbx
 have x6 : w6.heap[gb]? = some (.cells #[.slice B3 R3.length d3] 22) := by rw [hw6]; exact box_set hbx' _
 have y6 : w6.heap[gl]? = some (.cells #[.slice A4 X.length c4] 22) := by rw [hw6, heap_setD _ (fun e => hne e.symm)]; exact box_set hlx _
 have d25 : 22 ≠ 5 := by decide
 have o6 : ∀ {A : Option Addr} {c : Nat} {l : List UInt8}, Own wk w.heap.size 5 A c l → Own w6 w.heap.size 5 A c l := fun h => by
   rw [hw6]; exact own_set_tag (own_set_tag h hlx d25) hbx' d25
 have r6 : HBs w6 base B3 R3 := by rw [hw6]; exact (hR.set_tag hlx d25 hgl).set_tag hbx' d25 hgb
 have c6 : w6.heap[w.heap.size]? = some (.cells #[x, y] 77) := (k6 _ (by omega) (by omega)).trans hcw
 have c7' := (hb7.block _ (by omega)).trans c6
 have dP : 77 ≠ 5 := by decide
 have c7b : (w7.setCell ⟨w.heap.size, 0, none⟩ a1).heap[w.heap.size]? = some (.cells #[a1, y] 77) := by
   have h1 := heap_setCell_same w7 w.heap.size 0 _ 77 a1 c7'
   simpa using h1
 have o8 : ∀ {A : Option Addr} {c : Nat} {l : List UInt8} {B : Nat}, Own w7 B 5 A c l → Own ((w7.setCell ⟨w.heap.size, 0, none⟩ a1).setCell ⟨w.heap.size, 1, none⟩ a2) B 5 A c l := fun h => own_set_tag (own_set_tag h c7' dP) c7b dP
 have hz7 := hb7.size
 refine ⟨?_, ?_, rfl, (o8 h7).mono (by omega), o8 ((o6 hV).below hb7), o8 ((o6 hX).below hb7), ((r6.below hb7).set_tag c7' dP (by omega)).set_tag c7b dP (by omega), hcap, by simp; omega, fun k hk h1 h2 => ?_, ?_⟩
 · rw [heap_setD _ (by simp; omega), heap_setD _ (by simp; omega)]; exact (hb7.block _ (by omega)).trans x6
 · rw [heap_setD _ (by simp; omega), heap_setD _ (by simp; omega)]; exact (hb7.block _ (by omega)).trans y6
 · rw [heap_setD _ (by simp; omega), heap_setD _ (by simp; omega), hb7.block _ (by omega), k6 k h1 h2]
   exact hB.block k hk
 · have b6 : Below base w w6 := by rw [hw6]; exact ((hB.mono (by omega)).setCell (by simpa using hgl) _).setCell (by simpa using hgb) _
   exact ((b6.trans (hb7.mono (by omega))).setCell (by simp; omega) _).setCell (by simp; omega) _
theorem nextP_no {w w' : World} {base gb gl : Nat} {v : Option (Pr × List UInt8)} (hv : v = none) (hb : Below w.heap.size w w') : NextP w base gb gl v (.returned (.tuple #[.agg #[.slice none 0 0, .slice none 0 0], .slice none 0 0, .int .i64 3])) w' := by
 subst hv; exact ⟨3, by decide, rfl, hb⟩
set_option maxHeartbeats 4000000 in
set_option maxRecDepth 100000 in
theorem next_false (gb gl base : Nat) (r : List UInt8) (B : Option Addr) (d : Nat) (last : List UInt8) (LA : Option Addr) (LC : Nat) (w : World) (hbx : w.heap[gb]? = some (.cells #[.slice B r.length d] 22)) (hlx : w.heap[gl]? = some (.cells #[.slice LA last.length LC] 22))
   (hr : HBs w base B r) (hrd : r.length ≤ d) (hdd : d ≤ 9223372036854775807) (hla : Own w base 5 LA LC last) (hne : gb ≠ gl) (hgb : base ≤ gb) (hgl : base ≤ gl) (h1 : r.length ≤ 1000000) (h2 : last.length ≤ 1000000) (hr0 : r ≠ []) :
   Calls Tryz.prog 93 #[.bool false, .pointer (some ⟨gb, 0, none⟩), .pointer (some ⟨gl, 0, none⟩)] w (NextP w base gb gl (Blk.nextP false last r)) := by
 obtain ⟨W, hW⟩ : ∃ W, W = w.alloc (.cells #[.slice none 0 0, .slice none 0 0] 77) := ⟨_, rfl⟩
 have hbW : Below w.heap.size w W := by rw [hW]; exact (Below.refl _ _).alloc (Nat.le_refl _) _
 have hHW : W.heap[w.heap.size]? = some (.cells #[.slice none 0 0, .slice none 0 0] 77) := by rw [hW]; exact heap_alloc_new _ _
 have hgbl : gb < w.heap.size := (Array.getElem?_eq_some_iff.1 hbx).1
 have hgll : gl < w.heap.size := (Array.getElem?_eq_some_iff.1 hlx).1
 have hbX := (hbW.block _ hgbl).trans hbx
 have hlX := (hbW.block _ hgll).trans hlx
 have r0 := box_cell hbX
 have HLX := hid hlX
 have HBX := hid hbX
 have HR := hid (hr.below hbW)
 have HLA := hid (hla.below hbW)
 have HBW := hid hbW
 have HHW := hid hHW
 have hzW : W.heap.size = w.heap.size + 1 := by rw [hW]; simp
 have HZW := hid hzW
 have HR0 := hid hr0
 have hbase : base ≤ w.heap.size := by omega
 have hgbW : gb < W.heap.size := by omega
 have hglW : gl < W.heap.size := by omega
 have KT := takeF_any B d r W HR.out.rd (by omega) hrd hdd
 clear hbx hlx hr hla hbW hHW hr0 hbX hlX hzW
 rw [hW] at r0
 cases ht : Cod.take r with
 | none =>
   rw [ht] at KT
   have HT := hid ht
   have HK := hid KT
   clear KT ht
   go_enter Tryz.func93, Tryz.ntmps93
   go_wp2_with fail
   rw [← hW]
   refine HK.out.mono ?_
   rintro e w1 ⟨hb1, rfl⟩
   have HB1 := hid hb1
   clear hb1 r0 hW
   have HN : Hid (Blk.nextP false last r = none) := hid (Blk.nextP_no1 HT.out)
   have hcw := (HB1.out.block w.heap.size (by have := HZW.out; omega)).trans HHW.out
   have HCW := hid hcw
   have q0 := cell_of_row w1 w.heap.size 0 _ _ (0, 0) hcw
   have q1 := cell_of_row w1 w.heap.size 1 _ _ (0, 0) hcw
   have f0 := frozen_of_row w1 w.heap.size 0 _ _ hcw
   have f1 := frozen_of_row w1 w.heap.size 1 _ _ hcw
   simp only [List.getElem?_toArray, List.getElem?_cons_zero, List.getElem?_cons_succ] at q0 q1
   clear hcw
   have HFB := hid (HBW.out.trans (HB1.out.mono HBW.out.size))
   go_wp2_with fail
   refine bodyPost_ret (results_c3 rfl _ _ w.heap.size 77 #[.slice none 0 0, .slice none 0 0] _ _ rfl (heap_set2 HCW.out) Tryz.underlying77 rfl pair2_size) rfl ?_
   exact nextP_no HN.out ((HFB.out.setCell (by simp) _).setCell (by simp) _)
 | some v1 =>
   obtain ⟨n, R1⟩ := v1
   rw [ht] at KT
   have HT1 := hid ht
   have HK := hid KT
   have hn64 := (Cod.take_bound ht).1
   have hR1 := (Cod.take_bound ht).2
   clear KT ht
   go_enter Tryz.func93, Tryz.ntmps93
   go_wp2_with fail
   rw [← hW]
   refine HK.out.mono ?_
   rintro e w1 ⟨hb1, B1, d1, rfl, hd1, hdd1, hr1, hf1⟩
   have HB1 := hid hb1
   have HR1 := hid (HR.out.frs HR0.out hb1 hf1 hr1)
   have lx1 := box_cell ((hb1.block _ hglW).trans HLX.out)
   have HLA1 := hid (HLA.out.below hb1)
   clear hb1 r0 hW hr1 hf1
   by_cases hnl : (last.length : Int) < (n : Int)
   · have hll : IntKind.u64.wrap (last.length : Int) = (last.length : Int) := by rw [IntKind.wrap_u64]; omega
     have HN : Hid (Blk.nextP false last r = none) := hid (Blk.nextP_no2 HT1.out (by omega))
     have hcw := (HB1.out.block w.heap.size (by have := HZW.out; omega)).trans HHW.out
     have HCW := hid hcw
     have q0 := cell_of_row w1 w.heap.size 0 _ _ (0, 0) hcw
     have q1 := cell_of_row w1 w.heap.size 1 _ _ (0, 0) hcw
     have f0 := frozen_of_row w1 w.heap.size 0 _ _ hcw
     have f1 := frozen_of_row w1 w.heap.size 1 _ _ hcw
     simp only [List.getElem?_toArray, List.getElem?_cons_zero, List.getElem?_cons_succ] at q0 q1
     clear hcw
     have HFB := hid (HBW.out.trans (HB1.out.mono HBW.out.size))
     go_wp2_with fail
     refine bodyPost_ret (results_c3 rfl _ _ w.heap.size 77 #[.slice none 0 0, .slice none 0 0] _ _ rfl (heap_set2 HCW.out) Tryz.underlying77 rfl pair2_size) rfl ?_
     exact nextP_no HN.out ((HFB.out.setCell (by simp) _).setCell (by simp) _)
   have KT := takeTextS_any B1 d1 R1 w1 HR1.out.rd (by omega) hd1 hdd1
   cases ht : cutT (Cod.take R1) with
   | none =>
     rw [ht] at KT
     have HT2 := hid ht
     have HK := hid KT
     clear KT ht
     go_wp2_with fail
     refine HK.out.mono ?_
     rintro e w2 ⟨hb2, rfl⟩
     have HB2 := hid (HB1.out.trans (hb2.mono HB1.out.size))
     clear hb2 lx1
     have HN : Hid (Blk.nextP false last r = none) := hid (Blk.nextP_no3 HT1.out (by omega) (fun h => by cases h) HT2.out)
     have hcw := (HB2.out.block w.heap.size (by have := HZW.out; omega)).trans HHW.out
     have HCW := hid hcw
     have q0 := cell_of_row w2 w.heap.size 0 _ _ (0, 0) hcw
     have q1 := cell_of_row w2 w.heap.size 1 _ _ (0, 0) hcw
     have f0 := frozen_of_row w2 w.heap.size 0 _ _ hcw
     have f1 := frozen_of_row w2 w.heap.size 1 _ _ hcw
     simp only [List.getElem?_toArray, List.getElem?_cons_zero, List.getElem?_cons_succ] at q0 q1
     clear hcw
     have HFB := hid (HBW.out.trans (HB2.out.mono HBW.out.size))
     go_wp2_with fail
     refine bodyPost_ret (results_c3 rfl _ _ w.heap.size 77 #[.slice none 0 0, .slice none 0 0] _ _ rfl (heap_set2 HCW.out) Tryz.underlying77 rfl pair2_size) rfl ?_
     exact nextP_no HN.out ((HFB.out.setCell (by simp) _).setCell (by simp) _)
   | some v2 =>
     obtain ⟨k, R2⟩ := v2
     rw [ht] at KT
     have HT2 := hid ht
     have HK := hid KT
     have e2 := Frm.cutT_text ht
     have hR2 : R2.length + k.length + 1 ≤ R1.length := by rw [e2, List.length_append]; unfold Cod.text Cod.number; simp; omega
     clear KT ht e2
     go_wp2_with fail
     refine HK.out.mono ?_
     rintro e w2 ⟨hb2, A2, c2, B2, d2, rfl, ho2, hr2, hd2, hdd2, hf2⟩
     have hne1 : R1 ≠ [] := fun e => by have := hR2; rw [e] at this; simp at this
     have HB2 := hid (HB1.out.trans (hb2.mono HB1.out.size))
     have HR2 := hid (HR1.out.frs hne1 hb2 hf2 hr2)
     have HLA2 := hid (HLA1.out.below hb2)
     have HK2 := hid (ho2.mono HB1.out.size)
     clear hb2 lx1 ho2 hr2 hf2 hne1
     have KT := takeTextS_any B2 d2 R2 w2 HR2.out.rd (by omega) hd2 hdd2
     cases ht : cutT (Cod.take R2) with
     | none =>
       rw [ht] at KT
       have HT3 := hid ht
       have HK := hid KT
       clear KT ht
       go_wp2_with fail
       refine HK.out.mono ?_
       rintro e w3 ⟨hb3, rfl⟩
       have HB3 := hid (HB2.out.trans (hb3.mono HB2.out.size))
       clear hb3
       have HN : Hid (Blk.nextP false last r = none) := hid (Blk.nextP_no4 HT1.out (by omega) (fun h => by cases h) HT2.out HT3.out)
       have hcw := (HB3.out.block w.heap.size (by have := HZW.out; omega)).trans HHW.out
       have HCW := hid hcw
       have q0 := cell_of_row w3 w.heap.size 0 _ _ (0, 0) hcw
       have q1 := cell_of_row w3 w.heap.size 1 _ _ (0, 0) hcw
       have f0 := frozen_of_row w3 w.heap.size 0 _ _ hcw
       have f1 := frozen_of_row w3 w.heap.size 1 _ _ hcw
       simp only [List.getElem?_toArray, List.getElem?_cons_zero, List.getElem?_cons_succ] at q0 q1
       clear hcw
       have HFB := hid (HBW.out.trans (HB3.out.mono HBW.out.size))
       go_wp2_with fail
       refine bodyPost_ret (results_c3 rfl _ _ w.heap.size 77 #[.slice none 0 0, .slice none 0 0] _ _ rfl (heap_set2 HCW.out) Tryz.underlying77 rfl pair2_size) rfl ?_
       exact nextP_no HN.out ((HFB.out.setCell (by simp) _).setCell (by simp) _)
     | some v3 =>
       obtain ⟨v, R3⟩ := v3
       rw [ht] at KT
       have HT3 := hid ht
       have HK := hid KT
       have e3 := Frm.cutT_text ht
       have hR3 : R3.length + v.length + 1 ≤ R2.length := by rw [e3, List.length_append]; unfold Cod.text Cod.number; simp; omega
       clear KT ht e3
       go_wp2_with fail
       refine HK.out.mono ?_
       rintro e w3 ⟨hb3, A3, c3, B3, d3, rfl, ho3, hr3, hd3, hdd3, hf3⟩
       have hne2 : R2 ≠ [] := fun e => by have := hR3; rw [e] at this; simp at this
       have HB3 := hid (HB2.out.trans (hb3.mono HB2.out.size))
       have HR3 := hid (HR2.out.frs hne2 hb3 hf3 hr3)
       have HLA3 := hid (HLA2.out.below hb3)
       have HK3 := hid (HK2.out.below hb3)
       have HV3 := hid (ho3.mono (Nat.le_trans HBW.out.size HB2.out.size))
       have lx3 := box_cell ((HB3.out.block _ hglW).trans HLX.out)
       clear hb3 ho3 hr3 hf3 hne2
       have hn0 : (0 : Int) ≤ (n : Int) := by omega
       have hlc := HLA3.out.cap
       have hlcc := HLA3.out.cap_le
       have hn1 : (n : Int) ≤ (LC : Int) := by omega
       have htl : (last.take n).length = n := by rw [List.length_take]; omega
       have KC := hid (concat_two LA A2 n LC c2 (last.take n) k w3 htl.symm (HLA3.out.rd.take (by omega)) HK3.out.rd (by omega))
       obtain ⟨X, hX⟩ : ∃ X, X = last.take n ++ k := ⟨_, rfl⟩
       have hXl : X.length ≤ 2000000 := by rw [hX, List.length_append, htl]; omega
       rw [← hX] at KC
       have HXE := hid hX
       clear htl hX
       go_wp2_with fail
       refine KC.out.mono ?_
       rintro e w4 ⟨A4, c4, rfl, ho4, hb4⟩
       have hz4 : w3.heap.size + 1 ≤ w4.heap.size := by have := hb4.size; simpa using this
       have hb34 : Below w3.heap.size w3 w4 := ((Below.refl _ _).alloc (Nat.le_refl _) _).trans (hb4.mono (by simp))
       have HB4 := hid (HB3.out.trans (hb34.mono HB3.out.size))
       have HR4 := hid (HR3.out.below hb34)
       have HLA4 := hid (HLA3.out.below hb34)
       have HV4 := hid (HV3.out.below hb34)
       have hws : w.heap.size ≤ w3.heap.size := Nat.le_trans HBW.out.size HB3.out.size
       have HX4 : Hid (Own w4 w.heap.size 5 A4 c4 X) := hid (ho4.mono (by simp; omega))
       have HCAP : Hid (R3.length ≤ d3 ∧ d3 ≤ 9223372036854775807) := hid ⟨hd3, hdd3⟩
       clear ho4 hb4 hb34 lx3 KC
       have lx4 := box_cell ((HB4.out.block _ hglW).trans HLX.out)
       obtain ⟨CV, hCV⟩ : ∃ CV, CV = Lib.compareBytes X last := ⟨_, rfl⟩
       have KCV := hid (bcmp_any w4.heap.size A4 c4 X w4.heap.size LA LC last w4 HX4.out.rd HLA4.out.rd)
       rw [← hCV] at KCV
       have HCV := hid hCV
       clear hCV
       by_cases hcv : CV ≤ 0
       · have hcv2 : decide (CV ≤ 0) = true := decide_eq_true hcv
         go_wp2_with fail
         refine KCV.out.mono ?_
         rintro e w5 ⟨rfl, rfl⟩
         clear lx4
         have HN : Hid (Blk.nextP false last r = none) := hid (Blk.nextP_no5 HT1.out (by omega) (fun h => by cases h) HT2.out HT3.out rfl (.inl (by rw [← HXE.out, ← HCV.out]; exact hcv)))
         have hcw := (HB4.out.block w.heap.size (by have := HZW.out; omega)).trans HHW.out
         have HCW := hid hcw
         have q0 := cell_of_row w4 w.heap.size 0 _ _ (0, 0) hcw
         have q1 := cell_of_row w4 w.heap.size 1 _ _ (0, 0) hcw
         have f0 := frozen_of_row w4 w.heap.size 0 _ _ hcw
         have f1 := frozen_of_row w4 w.heap.size 1 _ _ hcw
         simp only [List.getElem?_toArray, List.getElem?_cons_zero, List.getElem?_cons_succ] at q0 q1
         clear hcw
         have HFB := hid (HBW.out.trans (HB4.out.mono HBW.out.size))
         go_wp2_with fail
         refine bodyPost_ret (results_c3 rfl _ _ w.heap.size 77 #[.slice none 0 0, .slice none 0 0] _ _ rfl (heap_set2 HCW.out) Tryz.underlying77 rfl pair2_size) rfl ?_
         exact nextP_no HN.out ((HFB.out.setCell (by simp) _).setCell (by simp) _)
       obtain ⟨CM, hCM⟩ : ∃ CM, CM = Blk.common X last := ⟨_, rfl⟩
       have KCM := hid (common_any A4 c4 X LA LC last w4 HX4.out.rd HLA4.out.rd (by omega) (by omega))
       rw [← hCM] at KCM
       have HCM := hid hCM
       have hcv2 : decide (CV ≤ 0) = false := decide_eq_false hcv
       have hnw : IntKind.i64.wrap (n : Int) = (n : Int) := by rw [IntKind.wrap_i64]; omega
       clear hCM
       by_cases hcm : CM = n
       · subst hcm
         have HGC : Hid (¬ (Lib.compareBytes (last.take CM ++ k) last ≤ 0 ∨ Blk.common (last.take CM ++ k) last ≠ CM)) := hid (by
           rw [← HXE.out, ← HCV.out, ← HCM.out]
           rintro (h | h)
           · exact hcv h
           · exact h rfl)
         go_wp2_with fail
         refine KCV.out.mono ?_
         rintro e w5 ⟨rfl, rfl⟩
         go_wp2_with fail
         refine KCM.out.mono ?_
         rintro e w5 ⟨rfl, hb5⟩
         have HB5 := hid (HB4.out.trans (hb5.mono HB4.out.size))
         have HR5 := hid (HR4.out.below hb5)
         have HV5 := hid (HV4.out.below hb5)
         have HX5 := hid (HX4.out.below hb5)
         clear hb5 lx4
         have HN : Hid (Blk.nextP false last r = some (⟨X, v⟩, R3)) := hid (by rw [HXE.out]; exact Blk.nextP_yes HT1.out (by omega) (fun h => by cases h) HT2.out HT3.out (fun _ => HGC.out))
         have hbxk := (HB5.out.block _ hgbW).trans HBX.out
         have hlxk := (HB5.out.block _ hglW).trans HLX.out
         have bxf := box_frozen hbxk
         have bxc := box_cell hbxk
         have lxf := box_frozen hlxk
         have lxc := box_cell hlxk
         have hcwk := (HB5.out.block w.heap.size (by have := HZW.out; omega)).trans HHW.out
         have HBXK := hid hbxk
         have HLXK := hid hlxk
         have HCWK := hid hcwk
         have d25 : 22 ≠ 5 := by decide
         have hbx2 : (w5.setCell ⟨gl, 0, none⟩ (.slice A4 X.length c4)).heap[gb]? = some (.cells #[.slice B r.length d] 22) := (heap_setD _ hne).trans hbxk
         have KK := hid (clone_any A4 c4 X ((w5.setCell ⟨gl, 0, none⟩ (.slice A4 X.length c4)).setCell ⟨gb, 0, none⟩ (.slice B3 R3.length d3)) (own_set_tag (own_set_tag HX5.out hlxk d25) hbx2 d25).rd (by omega))
         have hng1 : gl ≠ gb := fun e => hne e.symm
         clear hbxk hlxk hcwk hbx2 d25
         go_wp2_with fail
         refine KK.out.mono ?_
         rintro e w7 ⟨A7, c7, rfl, ho7, hb7⟩
         have HO7 := hid ho7
         have HB7 := hid hb7
         have hc7 : w7.heap[w.heap.size]? = some (.cells #[.slice none 0 0, .slice none 0 0] 77) := (hb7.block _ (by simp; have h1 := (Array.getElem?_eq_some_iff.1 HCWK.out).1; omega)).trans ((heap_setD _ (by simp; omega)).trans ((heap_setD _ (by simp; omega)).trans HCWK.out))
         have HC7 := hid hc7
         have q0 := cell_of_row w7 w.heap.size 0 _ _ (0, 0) hc7
         have q1 := cell_of_row w7 w.heap.size 1 _ _ (0, 0) hc7
         have f0 := frozen_of_row w7 w.heap.size 0 _ _ hc7
         have f1 := frozen_of_row w7 w.heap.size 1 _ _ hc7
         simp only [List.getElem?_toArray, List.getElem?_cons_zero, List.getElem?_cons_succ] at q0 q1
         have HOK := fun a1 a2 => hid (nextOk_mk (a1 := a1) (a2 := a2) (HBW.out.trans (HB5.out.mono HBW.out.size)) HCWK.out HBXK.out HLXK.out hne hgb hgl hgbl hgll HX5.out HV5.out HR5.out HCAP.out HO7.out HB7.out)
         clear ho7 hb7 hc7 KK bxf bxc lxf lxc
         go_wp2_with fail
         refine bodyPost_ret (results_c3 rfl _ _ w.heap.size 77 #[.slice A7 X.length c7, .slice A3 v.length c3] _ _ rfl (heap_set2 HC7.out) Tryz.underlying77 rfl pair2_size) rfl ?_
         rw [HN.out]
         exact ⟨⟨A7, c7, X, A3, c3, v⟩, B3, d3, A4, c4, rfl, (HOK _ _).out⟩
       · have hcm1 : ((CM : Int) == (n : Int)) = false := by simp; omega
         have hcm2 : ((CM : Int) != (n : Int)) = true := by simp; omega
         go_wp2_with fail
         refine KCV.out.mono ?_
         rintro e w5 ⟨rfl, rfl⟩
         go_wp2_with fail
         refine KCM.out.mono ?_
         rintro e w5 ⟨rfl, hb5⟩
         have HB5 := hid (HB4.out.trans (hb5.mono HB4.out.size))
         clear hb5 lx4
         have HN : Hid (Blk.nextP false last r = none) := hid (Blk.nextP_no5 HT1.out (by omega) (fun h => by cases h) HT2.out HT3.out rfl (.inr (by rw [← HXE.out, ← HCM.out]; exact hcm)))
         have hcw := (HB5.out.block w.heap.size (by have := HZW.out; omega)).trans HHW.out
         have HCW := hid hcw
         have q0 := cell_of_row w5 w.heap.size 0 _ _ (0, 0) hcw
         have q1 := cell_of_row w5 w.heap.size 1 _ _ (0, 0) hcw
         have f0 := frozen_of_row w5 w.heap.size 0 _ _ hcw
         have f1 := frozen_of_row w5 w.heap.size 1 _ _ hcw
         simp only [List.getElem?_toArray, List.getElem?_cons_zero, List.getElem?_cons_succ] at q0 q1
         clear hcw
         have HFB := hid (HBW.out.trans (HB5.out.mono HBW.out.size))
         go_wp2_with fail
         refine bodyPost_ret (results_c3 rfl _ _ w.heap.size 77 #[.slice none 0 0, .slice none 0 0] _ _ rfl (heap_set2 HCW.out) Tryz.underlying77 rfl pair2_size) rfl ?_
         exact nextP_no HN.out ((HFB.out.setCell (by simp) _).setCell (by simp) _)
set_option maxHeartbeats 4000000 in
set_option maxRecDepth 100000 in
theorem next_true (gb gl base : Nat) (r : List UInt8) (B : Option Addr) (d : Nat) (last : List UInt8) (LA : Option Addr) (LC : Nat) (w : World) (hbx : w.heap[gb]? = some (.cells #[.slice B r.length d] 22)) (hlx : w.heap[gl]? = some (.cells #[.slice LA last.length LC] 22))
   (hr : HBs w base B r) (hrd : r.length ≤ d) (hdd : d ≤ 9223372036854775807) (hla : Own w base 5 LA LC last) (hne : gb ≠ gl) (hgb : base ≤ gb) (hgl : base ≤ gl) (h1 : r.length ≤ 1000000) (h2 : last.length ≤ 1000000) (hr0 : r ≠ []) :
   Calls Tryz.prog 93 #[.bool true, .pointer (some ⟨gb, 0, none⟩), .pointer (some ⟨gl, 0, none⟩)] w (NextP w base gb gl (Blk.nextP true last r)) := by
 obtain ⟨W, hW⟩ : ∃ W, W = w.alloc (.cells #[.slice none 0 0, .slice none 0 0] 77) := ⟨_, rfl⟩
 have hbW : Below w.heap.size w W := by rw [hW]; exact (Below.refl _ _).alloc (Nat.le_refl _) _
 have hHW : W.heap[w.heap.size]? = some (.cells #[.slice none 0 0, .slice none 0 0] 77) := by rw [hW]; exact heap_alloc_new _ _
 have hgbl : gb < w.heap.size := (Array.getElem?_eq_some_iff.1 hbx).1
 have hgll : gl < w.heap.size := (Array.getElem?_eq_some_iff.1 hlx).1
 have hbX := (hbW.block _ hgbl).trans hbx
 have hlX := (hbW.block _ hgll).trans hlx
 have r0 := box_cell hbX
 have HLX := hid hlX
 have HBX := hid hbX
 have HR := hid (hr.below hbW)
 have HLA := hid (hla.below hbW)
 have HBW := hid hbW
 have HHW := hid hHW
 have hzW : W.heap.size = w.heap.size + 1 := by rw [hW]; simp
 have HZW := hid hzW
 have HR0 := hid hr0
 have hbase : base ≤ w.heap.size := by omega
 have hgbW : gb < W.heap.size := by omega
 have hglW : gl < W.heap.size := by omega
 have KT := takeF_any B d r W HR.out.rd (by omega) hrd hdd
 clear hbx hlx hr hla hbW hHW hr0 hbX hlX hzW
 rw [hW] at r0
 cases ht : Cod.take r with
 | none =>
   rw [ht] at KT
   have HT := hid ht
   have HK := hid KT
   clear KT ht
   go_enter Tryz.func93, Tryz.ntmps93
   go_wp2_with fail
   rw [← hW]
   refine HK.out.mono ?_
   rintro e w1 ⟨hb1, rfl⟩
   have HB1 := hid hb1
   clear hb1 r0 hW
   have HN : Hid (Blk.nextP true last r = none) := hid (Blk.nextP_no1 HT.out)
   have hcw := (HB1.out.block w.heap.size (by have := HZW.out; omega)).trans HHW.out
   have HCW := hid hcw
   have q0 := cell_of_row w1 w.heap.size 0 _ _ (0, 0) hcw
   have q1 := cell_of_row w1 w.heap.size 1 _ _ (0, 0) hcw
   have f0 := frozen_of_row w1 w.heap.size 0 _ _ hcw
   have f1 := frozen_of_row w1 w.heap.size 1 _ _ hcw
   simp only [List.getElem?_toArray, List.getElem?_cons_zero, List.getElem?_cons_succ] at q0 q1
   clear hcw
   have HFB := hid (HBW.out.trans (HB1.out.mono HBW.out.size))
   go_wp2_with fail
   refine bodyPost_ret (results_c3 rfl _ _ w.heap.size 77 #[.slice none 0 0, .slice none 0 0] _ _ rfl (heap_set2 HCW.out) Tryz.underlying77 rfl pair2_size) rfl ?_
   exact nextP_no HN.out ((HFB.out.setCell (by simp) _).setCell (by simp) _)
 | some v1 =>
   obtain ⟨n, R1⟩ := v1
   rw [ht] at KT
   have HT1 := hid ht
   have HK := hid KT
   have hn64 := (Cod.take_bound ht).1
   have hR1 := (Cod.take_bound ht).2
   clear KT ht
   go_enter Tryz.func93, Tryz.ntmps93
   go_wp2_with fail
   rw [← hW]
   refine HK.out.mono ?_
   rintro e w1 ⟨hb1, B1, d1, rfl, hd1, hdd1, hr1, hf1⟩
   have HB1 := hid hb1
   have HR1 := hid (HR.out.frs HR0.out hb1 hf1 hr1)
   have lx1 := box_cell ((hb1.block _ hglW).trans HLX.out)
   have HLA1 := hid (HLA.out.below hb1)
   clear hb1 r0 hW hr1 hf1
   by_cases hnl : (last.length : Int) < (n : Int)
   · have hll : IntKind.u64.wrap (last.length : Int) = (last.length : Int) := by rw [IntKind.wrap_u64]; omega
     have HN : Hid (Blk.nextP true last r = none) := hid (Blk.nextP_no2 HT1.out (by omega))
     have hcw := (HB1.out.block w.heap.size (by have := HZW.out; omega)).trans HHW.out
     have HCW := hid hcw
     have q0 := cell_of_row w1 w.heap.size 0 _ _ (0, 0) hcw
     have q1 := cell_of_row w1 w.heap.size 1 _ _ (0, 0) hcw
     have f0 := frozen_of_row w1 w.heap.size 0 _ _ hcw
     have f1 := frozen_of_row w1 w.heap.size 1 _ _ hcw
     simp only [List.getElem?_toArray, List.getElem?_cons_zero, List.getElem?_cons_succ] at q0 q1
     clear hcw
     have HFB := hid (HBW.out.trans (HB1.out.mono HBW.out.size))
     go_wp2_with fail
     refine bodyPost_ret (results_c3 rfl _ _ w.heap.size 77 #[.slice none 0 0, .slice none 0 0] _ _ rfl (heap_set2 HCW.out) Tryz.underlying77 rfl pair2_size) rfl ?_
     exact nextP_no HN.out ((HFB.out.setCell (by simp) _).setCell (by simp) _)
   by_cases hn0' : (0 : Int) < (n : Int)
   · have HN : Hid (Blk.nextP true last r = none) := hid (Blk.nextP_no2t HT1.out (by omega))
     have hcw := (HB1.out.block w.heap.size (by have := HZW.out; omega)).trans HHW.out
     have HCW := hid hcw
     have q0 := cell_of_row w1 w.heap.size 0 _ _ (0, 0) hcw
     have q1 := cell_of_row w1 w.heap.size 1 _ _ (0, 0) hcw
     have f0 := frozen_of_row w1 w.heap.size 0 _ _ hcw
     have f1 := frozen_of_row w1 w.heap.size 1 _ _ hcw
     simp only [List.getElem?_toArray, List.getElem?_cons_zero, List.getElem?_cons_succ] at q0 q1
     clear hcw
     have HFB := hid (HBW.out.trans (HB1.out.mono HBW.out.size))
     go_wp2_with fail
     refine bodyPost_ret (results_c3 rfl _ _ w.heap.size 77 #[.slice none 0 0, .slice none 0 0] _ _ rfl (heap_set2 HCW.out) Tryz.underlying77 rfl pair2_size) rfl ?_
     exact nextP_no HN.out ((HFB.out.setCell (by simp) _).setCell (by simp) _)
   have KT := takeTextS_any B1 d1 R1 w1 HR1.out.rd (by omega) hd1 hdd1
   cases ht : cutT (Cod.take R1) with
   | none =>
     rw [ht] at KT
     have HT2 := hid ht
     have HK := hid KT
     clear KT ht
     go_wp2_with fail
     refine HK.out.mono ?_
     rintro e w2 ⟨hb2, rfl⟩
     have HB2 := hid (HB1.out.trans (hb2.mono HB1.out.size))
     clear hb2 lx1
     have HN : Hid (Blk.nextP true last r = none) := hid (Blk.nextP_no3 HT1.out (by omega) (fun _ => by omega) HT2.out)
     have hcw := (HB2.out.block w.heap.size (by have := HZW.out; omega)).trans HHW.out
     have HCW := hid hcw
     have q0 := cell_of_row w2 w.heap.size 0 _ _ (0, 0) hcw
     have q1 := cell_of_row w2 w.heap.size 1 _ _ (0, 0) hcw
     have f0 := frozen_of_row w2 w.heap.size 0 _ _ hcw
     have f1 := frozen_of_row w2 w.heap.size 1 _ _ hcw
     simp only [List.getElem?_toArray, List.getElem?_cons_zero, List.getElem?_cons_succ] at q0 q1
     clear hcw
     have HFB := hid (HBW.out.trans (HB2.out.mono HBW.out.size))
     go_wp2_with fail
     refine bodyPost_ret (results_c3 rfl _ _ w.heap.size 77 #[.slice none 0 0, .slice none 0 0] _ _ rfl (heap_set2 HCW.out) Tryz.underlying77 rfl pair2_size) rfl ?_
     exact nextP_no HN.out ((HFB.out.setCell (by simp) _).setCell (by simp) _)
   | some v2 =>
     obtain ⟨k, R2⟩ := v2
     rw [ht] at KT
     have HT2 := hid ht
     have HK := hid KT
     have e2 := Frm.cutT_text ht
     have hR2 : R2.length + k.length + 1 ≤ R1.length := by rw [e2, List.length_append]; unfold Cod.text Cod.number; simp; omega
     clear KT ht e2
     go_wp2_with fail
     refine HK.out.mono ?_
     rintro e w2 ⟨hb2, A2, c2, B2, d2, rfl, ho2, hr2, hd2, hdd2, hf2⟩
     have hne1 : R1 ≠ [] := fun e => by have := hR2; rw [e] at this; simp at this
     have HB2 := hid (HB1.out.trans (hb2.mono HB1.out.size))
     have HR2 := hid (HR1.out.frs hne1 hb2 hf2 hr2)
     have HLA2 := hid (HLA1.out.below hb2)
     have HK2 := hid (ho2.mono HB1.out.size)
     clear hb2 lx1 ho2 hr2 hf2 hne1
     have KT := takeTextS_any B2 d2 R2 w2 HR2.out.rd (by omega) hd2 hdd2
     cases ht : cutT (Cod.take R2) with
     | none =>
       rw [ht] at KT
       have HT3 := hid ht
       have HK := hid KT
       clear KT ht
       go_wp2_with fail
       refine HK.out.mono ?_
       rintro e w3 ⟨hb3, rfl⟩
       have HB3 := hid (HB2.out.trans (hb3.mono HB2.out.size))
       clear hb3
       have HN : Hid (Blk.nextP true last r = none) := hid (Blk.nextP_no4 HT1.out (by omega) (fun _ => by omega) HT2.out HT3.out)
       have hcw := (HB3.out.block w.heap.size (by have := HZW.out; omega)).trans HHW.out
       have HCW := hid hcw
       have q0 := cell_of_row w3 w.heap.size 0 _ _ (0, 0) hcw
       have q1 := cell_of_row w3 w.heap.size 1 _ _ (0, 0) hcw
       have f0 := frozen_of_row w3 w.heap.size 0 _ _ hcw
       have f1 := frozen_of_row w3 w.heap.size 1 _ _ hcw
       simp only [List.getElem?_toArray, List.getElem?_cons_zero, List.getElem?_cons_succ] at q0 q1
       clear hcw
       have HFB := hid (HBW.out.trans (HB3.out.mono HBW.out.size))
       go_wp2_with fail
       refine bodyPost_ret (results_c3 rfl _ _ w.heap.size 77 #[.slice none 0 0, .slice none 0 0] _ _ rfl (heap_set2 HCW.out) Tryz.underlying77 rfl pair2_size) rfl ?_
       exact nextP_no HN.out ((HFB.out.setCell (by simp) _).setCell (by simp) _)
     | some v3 =>
       obtain ⟨v, R3⟩ := v3
       rw [ht] at KT
       have HT3 := hid ht
       have HK := hid KT
       have e3 := Frm.cutT_text ht
       have hR3 : R3.length + v.length + 1 ≤ R2.length := by rw [e3, List.length_append]; unfold Cod.text Cod.number; simp; omega
       clear KT ht e3
       go_wp2_with fail
       refine HK.out.mono ?_
       rintro e w3 ⟨hb3, A3, c3, B3, d3, rfl, ho3, hr3, hd3, hdd3, hf3⟩
       have hne2 : R2 ≠ [] := fun e => by have := hR3; rw [e] at this; simp at this
       have HB3 := hid (HB2.out.trans (hb3.mono HB2.out.size))
       have HR3 := hid (HR2.out.frs hne2 hb3 hf3 hr3)
       have HLA3 := hid (HLA2.out.below hb3)
       have HK3 := hid (HK2.out.below hb3)
       have HV3 := hid (ho3.mono (Nat.le_trans HBW.out.size HB2.out.size))
       have lx3 := box_cell ((HB3.out.block _ hglW).trans HLX.out)
       clear hb3 ho3 hr3 hf3 hne2
       have hn0 : (0 : Int) ≤ (n : Int) := by omega
       have hlc := HLA3.out.cap
       have hlcc := HLA3.out.cap_le
       have hn1 : (n : Int) ≤ (LC : Int) := by omega
       have htl : (last.take n).length = n := by rw [List.length_take]; omega
       have KC := hid (concat_two LA A2 n LC c2 (last.take n) k w3 htl.symm (HLA3.out.rd.take (by omega)) HK3.out.rd (by omega))
       obtain ⟨X, hX⟩ : ∃ X, X = last.take n ++ k := ⟨_, rfl⟩
       have hXl : X.length ≤ 2000000 := by rw [hX, List.length_append, htl]; omega
       rw [← hX] at KC
       have HXE := hid hX
       clear htl hX
       go_wp2_with fail
       refine KC.out.mono ?_
       rintro e w4 ⟨A4, c4, rfl, ho4, hb4⟩
       have hz4 : w3.heap.size + 1 ≤ w4.heap.size := by have := hb4.size; simpa using this
       have hb34 : Below w3.heap.size w3 w4 := ((Below.refl _ _).alloc (Nat.le_refl _) _).trans (hb4.mono (by simp))
       have HB4 := hid (HB3.out.trans (hb34.mono HB3.out.size))
       have HR4 := hid (HR3.out.below hb34)
       have HLA4 := hid (HLA3.out.below hb34)
       have HV4 := hid (HV3.out.below hb34)
       have hws : w.heap.size ≤ w3.heap.size := Nat.le_trans HBW.out.size HB3.out.size
       have HX4 : Hid (Own w4 w.heap.size 5 A4 c4 X) := hid (ho4.mono (by simp; omega))
       have HCAP : Hid (R3.length ≤ d3 ∧ d3 ≤ 9223372036854775807) := hid ⟨hd3, hdd3⟩
       clear ho4 hb4 hb34 lx3 KC
       have lx4 := box_cell ((HB4.out.block _ hglW).trans HLX.out)
       have HN : Hid (Blk.nextP true last r = some (⟨X, v⟩, R3)) := hid (by rw [HXE.out]; exact Blk.nextP_yes HT1.out (by omega) (fun _ => by omega) HT2.out HT3.out (fun h => by cases h))
       have hbxk := (HB4.out.block _ hgbW).trans HBX.out
       have hlxk := (HB4.out.block _ hglW).trans HLX.out
       have bxf := box_frozen hbxk
       have bxc := box_cell hbxk
       have lxf := box_frozen hlxk
       have lxc := box_cell hlxk
       have hcwk := (HB4.out.block w.heap.size (by have := HZW.out; omega)).trans HHW.out
       have HBXK := hid hbxk
       have HLXK := hid hlxk
       have HCWK := hid hcwk
       have d25 : 22 ≠ 5 := by decide
       have hbx2 : (w4.setCell ⟨gl, 0, none⟩ (.slice A4 X.length c4)).heap[gb]? = some (.cells #[.slice B r.length d] 22) := (heap_setD _ hne).trans hbxk
       have KK := hid (clone_any A4 c4 X ((w4.setCell ⟨gl, 0, none⟩ (.slice A4 X.length c4)).setCell ⟨gb, 0, none⟩ (.slice B3 R3.length d3)) (own_set_tag (own_set_tag HX4.out hlxk d25) hbx2 d25).rd (by omega))
       have hng1 : gl ≠ gb := fun e => hne e.symm
       clear hbxk hlxk hcwk hbx2 d25
       go_wp2_with fail
       refine KK.out.mono ?_
       rintro e w7 ⟨A7, c7, rfl, ho7, hb7⟩
       have HO7 := hid ho7
       have HB7 := hid hb7
       have hc7 : w7.heap[w.heap.size]? = some (.cells #[.slice none 0 0, .slice none 0 0] 77) := (hb7.block _ (by simp; have h1 := (Array.getElem?_eq_some_iff.1 HCWK.out).1; omega)).trans ((heap_setD _ (by simp; omega)).trans ((heap_setD _ (by simp; omega)).trans HCWK.out))
       have HC7 := hid hc7
       have q0 := cell_of_row w7 w.heap.size 0 _ _ (0, 0) hc7
       have q1 := cell_of_row w7 w.heap.size 1 _ _ (0, 0) hc7
       have f0 := frozen_of_row w7 w.heap.size 0 _ _ hc7
       have f1 := frozen_of_row w7 w.heap.size 1 _ _ hc7
       simp only [List.getElem?_toArray, List.getElem?_cons_zero, List.getElem?_cons_succ] at q0 q1
       have HOK := fun a1 a2 => hid (nextOk_mk (a1 := a1) (a2 := a2) (HBW.out.trans (HB4.out.mono HBW.out.size)) HCWK.out HBXK.out HLXK.out hne hgb hgl hgbl hgll HX4.out HV4.out HR4.out HCAP.out HO7.out HB7.out)
       clear ho7 hb7 hc7 KK bxf bxc lxf lxc
       go_wp2_with fail
       refine bodyPost_ret (results_c3 rfl _ _ w.heap.size 77 #[.slice A7 X.length c7, .slice A3 v.length c3] _ _ rfl (heap_set2 HC7.out) Tryz.underlying77 rfl pair2_size) rfl ?_
       rw [HN.out]
       exact ⟨⟨A7, c7, X, A3, c3, v⟩, B3, d3, A4, c4, rfl, (HOK _ _).out⟩
theorem RdS.int_at {w : World} {B : Nat} {A : Option Addr} {l : List Nat} (h : RdS Nc 1 w B A l) (hl : 0 < l.length) : ∃ b off, A = some ⟨b, off, none⟩ ∧ b < B ∧ ∀ k (hk : k < l.length), w.cell? ⟨b, off + k, none⟩ = some (.int .i64 (l[k] : Int)) := by
 obtain ⟨b, off, hA, hb, hc⟩ := RdS.row (f := Nc) (n := 1) (fun _ => rfl) (by omega) h hl
 exact ⟨b, off, hA, hb, fun k hk => by have := hc k hk 0 _ rfl; simpa using this⟩
set_option maxHeartbeats 1000000 in
set_option maxRecDepth 100000 in
theorem eqn_any (A : Option Addr) (c : Nat) (l : List Nat) (A2 : Option Addr) (c2 : Nat) (m : List Nat) (w : World) (h : RdS Nc 1 w w.heap.size A l) (h2 : RdS Nc 1 w w.heap.size A2 m) (hl : l.length ≤ 1000000) :
   Calls Tryz.prog 60 #[.slice A l.length c, .slice A2 m.length c2] w fun e w' => e = .returned (.bool (l == m)) ∧ Below w.heap.size w w' := by
 by_cases hlm : l.length = m.length
 · have HH := hid h
   have HH2 := hid h2
   have HLM := hid hlm
   rw [← hlm]
   clear h h2 hlm
   go_enter Tryz.func60, Tryz.ntmps60
   go_wp2_with fail
   go_loopw [13, 5, 15, 16, 17, 18, 19, 20, 21, 22, 23, 24] (fun i _ _ _ _ _ _ _ _ _ _ _ wr => ∃ k : Nat, k ≤ l.length ∧ i = .int .i64 (k : Int) ∧ Hid (∀ j (h1 : j < l.length) (h2 : j < m.length), j < k → l[j] = m[j]) ∧ Hid (Below w.heap.size w wr)) (fun i _ _ _ _ _ _ _ _ _ _ _ _ => l.length - (intOf i).toNat)
   case atStart => exact ⟨0, by omega, rfl, hid (fun j _ _ h => by omega), hid (Below.refl _ _)⟩
   case round =>
     obtain ⟨k, hk, rfl, HP, HB⟩ := hrel
     by_cases hlt : k < l.length
     · have hlt2 : k < m.length := by have := HLM.out; omega
       obtain ⟨b1, o1, rfl, hb1, hc1⟩ := HH.out.int_at (by omega)
       obtain ⟨b2, o2, rfl, hb2, hc2⟩ := HH2.out.int_at (by omega)
       have c1 := (HB.out.cell (p := ⟨b1, o1 + k, none⟩) hb1).trans (hc1 k hlt)
       have c2' := (HB.out.cell (p := ⟨b2, o2 + k, none⟩) hb2).trans (hc2 k hlt2)
       obtain ⟨x, hx⟩ : ∃ x, x = l[k] := ⟨_, rfl⟩
       obtain ⟨y, hy⟩ : ∃ y, y = m[k] := ⟨_, rfl⟩
       rw [← hx] at c1
       rw [← hy] at c2'
       have HXY : Hid (x = l[k] ∧ y = m[k]) := hid ⟨hx, hy⟩
       have i0 : (0 : Int) ≤ (k : Int) := by omega
       have i1 : (k : Int) < (l.length : Int) := by omega
       clear hc1 hc2 hx hy
       by_cases hxy : x = y
       · subst hxy
         have HP2 : Hid (∀ j (h1 : j < l.length) (h2 : j < m.length), j < k + 1 → l[j] = m[j]) := hid (fun j h1 h2 h3 => by
           by_cases hjk : j = k
           · subst hjk; rw [← HXY.out.1, ← HXY.out.2]
           · exact HP.out j h1 h2 (by omega))
         go_wp2_with fail
         go_quiet (fail)
         refine drewN_any ?_
         intro X hbX _
         have HBX := hid (HB.out.trans (hbX.mono HB.out.size))
         clear hbX
         go_wp2_with fail
         go_roundw
         case rel => exact ⟨k + 1, by omega, by go_num, HP2, HBX⟩
         case measure => simp [intOf]; omega
       · have HE : Hid ((l == m) = false) := hid (by
           rw [beq_eq_false_iff_ne]
           intro h
           apply hxy
           rw [HXY.out.1, HXY.out.2]
           simp only [h])
         have e1 : ((x : Int) == (y : Int)) = false := by simp; omega
         have e2 : ((x : Int) != (y : Int)) = true := by simp; omega
         clear hxy
         go_wp2_with fail
         go_quiet (fail)
         refine drewN_any ?_
         intro X hbX _
         have HBX := hid (HB.out.trans (hbX.mono HB.out.size))
         clear hbX
         go_wp2_with fail
         go_ret
         exact ⟨by rw [HE.out]; rfl, HBX.out⟩
     · have hke : k = l.length := by omega
       subst hke
       have HE : Hid ((l == m) = true) := hid (by
         rw [beq_iff_eq]
         exact List.ext_getElem HLM.out (fun i h1 h2 => HP.out i h1 h2 h1))
       go_wp2_with fail
       go_ret
       exact ⟨by rw [HE.out]; rfl, HB.out⟩
 · have e : (l == m) = false := by
     rw [beq_eq_false_iff_ne]; intro h; exact hlm (by rw [h])
   rw [e]
   have h3 : ((l.length : Int) == (m.length : Int)) = false := by simp; omega
   have h4 : ((l.length : Int) != (m.length : Int)) = true := by simp; omega
   clear h h2 e
   go_enter Tryz.func60, Tryz.ntmps60
   go_wp2_with fail
   go_ret
   exact ⟨rfl, Below.refl _ _⟩
end Go.Proofs.YtgafionfojnieaaGreatDoor

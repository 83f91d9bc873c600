/- Parts of the proof, one behind the other: The contract of the writer's close. -/
import Derived.Test.YtgafionfojnieaaGreatDoorMrg32
import Derived.Test.YtgafionfojnieaaGreatDoorMrg33
import Derived.Test.YtgafionfojnieaaGreatDoorMrg24
namespace Go.Proofs.YtgafionfojnieaaGreatDoor
open Go.RowKit
open Lib (hid)
theorem pairT : RT Tryz.prog 73 77 Pv.cells 2 48 (.agg #[.slice none 0 0, .slice none 0 0]) :=
 ⟨Tryz.underlying73, by kernel_rfl, fun _ => rfl, fun a u hu => by simp [Pv.cells] at hu; rcases hu with h | h <;> (subst h; rfl), by omega, rfl⟩
theorem blk_bytes (A : Option Addr) (c : Nat) (l : List Pv) (w : World) (h : RdPv w w.heap.size A l) (hln : l.length ≤ 1000000) (hsz : ∀ p ∈ l, p.k.length ≤ 100000 ∧ p.v.length ≤ 100000) :
   Calls Tryz.prog 44 #[.slice A l.length c, .int .i64 16] w fun e w' => ∃ A1 c1 x, e = .returned (.tuple #[.slice A1 (Tb.blkB 16 (l.map Pv.pr)).length c1, .int .i64 x]) ∧ Own w' w.heap.size 5 A1 c1 (Tb.blkB 16 (l.map Pv.pr)) ∧ Below w.heap.size w w' :=
 (blkbuild_any 16 (by omega) (by omega) A c l w h hln hsz).mono fun e w' h => by
   obtain ⟨hbe, ⟨hn, he⟩ | ⟨hy, A1, c1, he, ho⟩⟩ := h
   · have hn' : ¬ Blk.err 16 (l.map Pv.pr) = 0 := hn
     unfold Tb.blkB
     rw [if_neg hn']
     exact ⟨none, 0, _, he, Own.nil _ _ _, hbe⟩
   · have hy' : Blk.err 16 (l.map Pv.pr) = 0 := hy
     unfold Tb.blkB
     rw [if_pos hy']
     exact ⟨A1, c1, 0, he, ho, hbe⟩
theorem blkB_len (E : Int) (l : List Pr) (h : ∀ p ∈ l, p.k.length ≤ 100000 ∧ p.v.length ≤ 100000) : (Tb.blkB E l).length ≤ l.length * 200034 + 5 := by
 unfold Tb.blkB
 split
 · have h1 := Blk.run_len E.toNat l h l.length (Nat.le_refl _)
   rw [List.take_length] at h1
   unfold Blk.build
   simp only [List.length_append, Blk.hb_len]
   simp [Frm.be4]
   omega
 · simp
theorem putL_len (K : UInt8) (b : List UInt8) : (Tb.putL K b).length ≤ 100000 := by
 unfold Tb.putL
 split
 · have := Cod.number_len (n := b.length) (by omega)
   unfold Frm.put Frm.head Cod.text Frm.be4
   simp; omega
 · simp
theorem WS.rdp {w wr : World} {base gw : Nat} {s : Wr} {a : WrA} (h : WS w base gw s a wr) : RdPv wr wr.heap.size a.pA s.opn := ⟨h.opn.rd, fun p hp => (h.prs p (.inr hp)).ok⟩
theorem rd_pair_new (w : World) (p : Pv) : RdS Pv.cells 2 (w.alloc (.cells #[.slice p.kA p.k.length p.kc, .slice p.vA p.v.length p.vc] 77)) (w.heap.size + 1) (some ⟨w.heap.size, 0, none⟩) [p] := by
 refine RdS.of (f := Pv.cells) (n := 2) (l := [p]) (fun _ => rfl) _ 0 (by omega) (fun k hk j u hj => ?_)
 obtain rfl : k = 0 := by simp at hk; exact hk
 have hj' : p.cells[j]? = some u := hj
 rw [cell_of_row _ w.heap.size _ _ _ (0, 0) (heap_alloc_new w _)]
 simpa [Pv.cells] using hj'
def Tb.closed (s : Wr) (kA : Option Addr) (kc : Nat) (vA : Option Addr) (vc : Nat) : Wr :=
 let f := Tb.putL 68 (Tb.blkB 16 (s.opn.map Pv.pr))
 { out := s.out ++ f, index := s.index ++ [⟨kA, kc, ((s.opn.getLast?).map Pv.k).getD [], vA, vc, Tb.nums [s.out.length, f.length]⟩], opn := [], n := 0, bad := s.bad || !decide ((Tb.blkB 16 (s.opn.map Pv.pr)).length ≤ 65536) }
def CloseP (w : World) (base gw : Nat) (s : Wr) (a : WrA) (wr : World) (e : Ending) (w' : World) : Prop :=
 e = .returned (.tuple #[]) ∧ ∃ kA kc vA vc a', WS w base gw (if s.opn = [] then s else Tb.closed s kA kc vA vc) a' w' ∧ Mv gw a wr a' w' ∧ (s.opn = [] ∨ ∃ q ∈ s.opn, kA = q.kA) ∧ (∀ g, blk vA = some g → wr.heap.size ≤ g)
theorem close_empty (w : World) (base gw : Nat) (s : Wr) (a : WrA) (wr : World) (h : WS w base gw s a wr) (he : s.opn = []) :
   Calls Tryz.prog 41 #[.pointer (some ⟨gw, 0, none⟩)] wr (CloseP w base gw s a wr) := by
 have HW := hid h
 obtain ⟨c0, c1, c2, c3, c4, cf⟩ := h.cells
 rw [he] at c2
 have HE := hid he
 clear c0 c1 c3 c4 cf h he
 go_enter Tryz.func41, Tryz.ntmps41
 go_wp2_with fail
 go_end0
 exact ⟨rfl, none, 0, none, 0, a, by rw [if_pos HE.out]; exact HW.out, Mv.refl _ _ _, .inl HE.out, fun g hg => by cases hg⟩
set_option maxHeartbeats 4000000 in
set_option maxRecDepth 100000 in
theorem close_full (w : World) (base gw : Nat) (out : List UInt8) (index P : List Pv) (q : Pv) (n : Int) (bad : Bool) (a : WrA) (wr : World) (h : WS w base gw ⟨out, index, P ++ [q], n, bad⟩ a wr) (hln : P.length ≤ 100000) (hxn : index.length ≤ 100000) (hsz : ∀ p ∈ P ++ [q], p.k.length ≤ 100000 ∧ p.v.length ≤ 100000) (hon : out.length ≤ 1000000000000) :
   Calls Tryz.prog 41 #[.pointer (some ⟨gw, 0, none⟩)] wr (CloseP w base gw ⟨out, index, P ++ [q], n, bad⟩ a wr) := by
 have HW := hid h
 have KB := hid (blk_bytes a.pA a.pc (P ++ [q]) wr h.rdp (by simp; omega) hsz)
 obtain ⟨B, hB⟩ : ∃ B, B = Tb.blkB 16 ((P ++ [q]).map Pv.pr) := ⟨_, rfl⟩
 rw [← hB] at KB
 have HBB := hid hB
 have hlen : (P ++ [q]).length = P.length + 1 := by simp
 rw [hlen] at KB
 obtain ⟨c0, c1, c2, c3, c4, cf⟩ := h.cells
 simp only [hlen] at c0 c1 c2 c3 c4
 have hBl : B.length ≤ 70368744177664 := by
   rw [hB]
   exact Nat.le_trans (blkB_len 16 _ (fun p hp => by
     obtain ⟨r, hr, rfl⟩ := List.mem_map.1 hp
     exact hsz r hr)) (by simp; omega)
 have HLEN := hid hlen
 clear c1 c3 c4 cf h hB hlen
 go_enter Tryz.func41, Tryz.ntmps41
 go_wp2_with fail
 refine KB.out.mono ?_
 rintro e w1 ⟨A1, c1, x, rfl, ho, hb1⟩
 have HO := hid ho
 have HW1 := hid (HW.out.call hb1)
 have HM1 : Hid (Mv gw a wr a w1) := hid (Mv.call hb1)
 have KF := hid (wframe_any w base gw _ a 68 A1 c1 B w1 HW1.out ho.rd hBl hon)
 clear ho hb1 KB c0 c2
 go_wp2_with fail
 refine KF.out.mono ?_
 rintro e w2 ⟨a2, rfl, hw2, hm2⟩
 simp only at hw2
 have HW2 := hid hw2
 have HM2 : Hid (Mv gw a wr a2 w2) := hid (HM1.out.trans hm2)
 obtain ⟨F, hF⟩ : ∃ F, F = Tb.putL 68 B := ⟨_, rfl⟩
 rw [← hF] at HW2 ⊢
 have HFF := hid hF
 have hFl : F.length ≤ 100000 := by rw [hF]; exact putL_len 68 B
 clear hw2 hm2 hF KF HO HM1 HW1
 obtain ⟨oA, oc, xA, xc, pA, pc⟩ := a2
 obtain ⟨b, off, hpA, _, hrow⟩ := HW2.out.rdp.row2 (by simp)
 simp only at hpA
 subst hpA
 have hq := (hrow P.length (by simp)).1
 have hqe : (P ++ [q])[P.length]'(by simp) = q := by simp
 rw [hqe] at hq
 have HQ := hid hq
 have hXW := HW2.out.call (Below.refl w2.heap.size w2).drew
 have hM2 := HM2.out.trans (Mv.call (Below.refl w2.heap.size w2).drew)
 have hqd : w2.drew.cell? ⟨b, off + P.length * 2, none⟩ = some (.slice q.kA q.k.length q.kc) := hq
 go_wp2_with fail
 obtain ⟨X, hX⟩ : ∃ X, w2.drew = X := ⟨_, rfl⟩
 rw [hX] at hXW hM2 hqd
 have HXW := hid hXW; have HXM := hid hM2
 have HS0 : X.cell? ⟨gw, 1, none⟩ = some (.slice xA index.length xc) ∧ X.cell? ⟨gw, 2, none⟩ = some (.slice (some ⟨b, off, none⟩) (P.length + 1) pc) ∧ X.cell? ⟨b, off + P.length * 2, none⟩ = some (.slice q.kA q.k.length q.kc) := by
   obtain ⟨_, h1, h2, _⟩ := hXW.cells
   exact ⟨h1, by rw [h2]; simp, hqd⟩
 have hlt3 : (P.length : Int) < (P.length : Int) + 1 := by omega
 have hmi : IntKind.i64.wrap (P.length : Int) = (P.length : Int) := by rw [IntKind.wrap_i64]; omega
 have hgX := HXW.out.lt
 have hbX : b < X.heap.size := (HXW.out.opn.blk_ge b rfl).2
 have HSB : Hid (∀ Y, Below X.heap.size X Y → Y.cell? ⟨gw, 1, none⟩ = some (.slice xA index.length xc) ∧ Y.cell? ⟨gw, 2, none⟩ = some (.slice (some ⟨b, off, none⟩) (P.length + 1) pc) ∧ Y.cell? ⟨b, off + P.length * 2, none⟩ = some (.slice q.kA q.k.length q.kc)) := hid (fun Y hb => ⟨(hb.cell (p := ⟨gw, 1, none⟩) hgX).trans HS0.1, (hb.cell (p := ⟨gw, 2, none⟩) hgX).trans HS0.2.1, (hb.cell (p := ⟨b, off + P.length * 2, none⟩) hbX).trans HS0.2.2⟩)
 have hN1 : out.length < 9223372036854775808 := by omega
 have KN := hid (numsT_any X.heap.size 2 [out.length, F.length] (by simp) (by simp; exact ⟨hN1, by omega⟩) (X.alloc (.cells #[.int .i64 (out.length : Int), .int .i64 (F.length : Int)] 3)) (fun k hk => by
   match k, hk with
   | 0, _ => rw [cell_of_row _ X.heap.size 0 _ _ (0, 0) (heap_alloc_new X _)]; rfl
   | 1, _ => rw [cell_of_row _ X.heap.size 1 _ _ (0, 0) (heap_alloc_new X _)]; rfl) (by simp))
 refine wp_region_E 27 (fun w' => w'.cell? ⟨gw, 1, none⟩ = some (.slice xA index.length xc) ∧ w'.cell? ⟨gw, 2, none⟩ = some (.slice (some ⟨b, off, none⟩) (P.length + 1) pc) ∧ w'.cell? ⟨b, off + P.length * 2, none⟩ = some (.slice q.kA q.k.length q.kc)) (by kernel_rfl) ?_
 rw [hX]
 clear hX hXW hM2 hqd hq hqe hrow HM2 HW2 HQ
 refine wpAnyE_take (i := 0) (v := ?v0) rfl (by kernel_rfl) (by kernel_rfl) (by kernel_rfl) (by kernel_rfl) (fun _ _ _ h => h) (Or.inl ⟨by rfl, ?y0⟩) HS0 ?r0
 case y0 => (intro wy hSw; obtain ⟨s1, s2, s3⟩ := hSw; go_simp; try with_reducible rfl)
 try simp only [Act.put, List.setIfInBounds_toArray]
 refine wpAnyE_take (i := 1) (v := ?v1) rfl (by kernel_rfl) (by kernel_rfl) (by kernel_rfl) (by kernel_rfl) (fun _ _ _ h => h) (Or.inl ⟨by rfl, ?y1⟩) HS0 ?r1
 case y1 => (intro wy hSw; obtain ⟨s1, s2, s3⟩ := hSw; go_simp; try with_reducible rfl)
 try simp only [Act.put]
 refine wpAnyE_take (i := 2) (v := ?v2) rfl (by kernel_rfl) (by kernel_rfl) (by kernel_rfl) (by kernel_rfl) (fun _ _ _ h => h) (Or.inl ⟨by rfl, ?y2⟩) HS0 ?r2
 case y2 => (intro wy hSw; obtain ⟨s1, s2, s3⟩ := hSw; go_simp; try with_reducible rfl)
 try simp only [Act.put]
 refine wpAnyE_take (i := 3) (v := ?v3) rfl (by kernel_rfl) (by kernel_rfl) (by kernel_rfl) (by kernel_rfl) (fun _ _ _ h => h) (Or.inl ⟨by rfl, ?y3⟩) HS0 ?r3
 case y3 => (intro wy hSw; obtain ⟨s1, s2, s3⟩ := hSw; go_simp; try with_reducible rfl)
 try simp only [Act.put]
 refine wpAnyE_take (i := 4) (v := ?v4) rfl (by kernel_rfl) (by kernel_rfl) (by kernel_rfl) (by kernel_rfl) (fun _ _ _ h => h) (Or.inl ⟨by rfl, ?y4⟩) HS0 ?r4
 case y4 => (intro wy hSw; obtain ⟨s1, s2, s3⟩ := hSw; go_simp; try with_reducible rfl)
 try simp only [Act.put]
 refine wpAnyE_take (i := 5) (v := ?v5) rfl (by kernel_rfl) (by kernel_rfl) (by kernel_rfl) (by kernel_rfl) (fun _ _ _ h => h) (Or.inl ⟨by rfl, ?y5⟩) HS0 ?r5
 case y5 => (intro wy hSw; obtain ⟨s1, s2, s3⟩ := hSw; go_simp; try with_reducible rfl)
 try simp only [Act.put]
 refine wpAnyE_take (i := 6) (v := ?v6) rfl (by kernel_rfl) (by kernel_rfl) (by kernel_rfl) (by kernel_rfl) (fun _ _ _ h => h) (Or.inl ⟨by rfl, ?y6⟩) HS0 ?r6
 case y6 => (intro wy hSw; obtain ⟨s1, s2, s3⟩ := hSw; go_simp; try with_reducible rfl)
 try simp only [Act.put]
 refine wpAnyE_take (i := 7) (v := ?v7) rfl (by kernel_rfl) (by kernel_rfl) (by kernel_rfl) (by kernel_rfl) (fun _ _ _ h => h) (Or.inl ⟨by rfl, ?y7⟩) HS0 ?r7
 case y7 => (intro wy hSw; obtain ⟨s1, s2, s3⟩ := hSw; go_simp; try with_reducible rfl)
 try simp only [Act.put]
 refine wpAnyE_take (i := 8) (v := ?v8) rfl (by kernel_rfl) (by kernel_rfl) (by kernel_rfl) (by kernel_rfl) (fun _ _ _ h => h) (Or.inl ⟨by rfl, ?y8⟩) HS0 ?r8
 case y8 => (intro wy hSw; obtain ⟨s1, s2, s3⟩ := hSw; go_simp; try with_reducible rfl)
 try simp only [Act.put]
 refine wpAnyE_take (i := 9) (v := ?v9) rfl (by kernel_rfl) (by kernel_rfl) (by kernel_rfl) (by kernel_rfl) (fun _ _ _ h => h) (Or.inl ⟨by rfl, ?y9⟩) HS0 ?r9
 case y9 => (intro wy hSw; obtain ⟨s1, s2, s3⟩ := hSw; go_simp; try with_reducible rfl)
 try simp only [Act.put]
 refine wpAnyE_take (i := 10) (v := ?v10) rfl (by kernel_rfl) (by kernel_rfl) (by kernel_rfl) (by kernel_rfl) (fun _ _ _ h => h) (Or.inl ⟨by rfl, ?y10⟩) HS0 ?r10
 case y10 => (intro wy hSw; obtain ⟨s1, s2, s3⟩ := hSw; go_simp; try with_reducible rfl)
 try simp only [Act.put]
 refine wpAnyE_take (i := 11) (v := ?v11) rfl (by kernel_rfl) (by kernel_rfl) (by kernel_rfl) (by kernel_rfl) (fun _ _ _ h => h) (Or.inl ⟨by rfl, ?y11⟩) HS0 ?r11
 case y11 => (intro wy hSw; obtain ⟨s1, s2, s3⟩ := hSw; go_simp; try with_reducible rfl)
 try simp only [Act.put]
 refine wpAnyE_take (i := 12) (v := ?v12) rfl (by kernel_rfl) (by kernel_rfl) (by kernel_rfl) (by kernel_rfl) (fun _ _ _ h => h) (Or.inl ⟨by rfl, ?y12⟩) HS0 ?r12
 case y12 => (intro wy hSw; obtain ⟨s1, s2, s3⟩ := hSw; go_simp; try with_reducible rfl)
 try simp only [Act.put]
 refine wpAnyE_take (i := 13) (v := ?v13) rfl (by kernel_rfl) (by kernel_rfl) (by kernel_rfl) (by kernel_rfl) (fun _ _ _ h => h) (Or.inl ⟨by rfl, ?y13⟩) HS0 ?r13
 case y13 => (intro wy hSw; obtain ⟨s1, s2, s3⟩ := hSw; go_simp; try with_reducible rfl)
 try simp only [Act.put]
 refine wpAnyE_take (i := 14) (v := ?v14) rfl (by kernel_rfl) (by kernel_rfl) (by kernel_rfl) (by kernel_rfl) (fun _ _ _ h => h) (Or.inl ⟨by rfl, ?y14⟩) HS0 ?r14
 case y14 => (intro wy hSw; obtain ⟨s1, s2, s3⟩ := hSw; go_simp; try with_reducible rfl)
 try simp only [Act.put]
 refine wpAnyE_take (i := 15) (v := ?v15) rfl (by kernel_rfl) (by kernel_rfl) (by kernel_rfl) (by kernel_rfl) (fun _ _ _ h => h) (Or.inl ⟨by rfl, ?y15⟩) HS0 ?r15
 case y15 => (intro wy hSw; obtain ⟨s1, s2, s3⟩ := hSw; go_simp; try with_reducible rfl)
 try simp only [Act.put]
 refine wpAnyE_take (i := 16) (v := ?v16) rfl (by kernel_rfl) (by kernel_rfl) (by kernel_rfl) (by kernel_rfl) (fun _ _ _ h => h) (Or.inl ⟨by rfl, ?y16⟩) HS0 ?r16
 case y16 => (intro wy hSw; obtain ⟨s1, s2, s3⟩ := hSw; go_simp; try with_reducible rfl)
 try simp only [Act.put]
 refine wpAnyE_take (i := 17) (v := ?v17) rfl (by kernel_rfl) (by kernel_rfl) (by kernel_rfl) (by kernel_rfl) (fun _ _ _ h => h) (Or.inl ⟨by rfl, ?y17⟩) HS0 ?r17
 case y17 => (intro wy hSw; obtain ⟨s1, s2, s3⟩ := hSw; go_simp; try with_reducible rfl)
 try simp only [Act.put]
 refine wpAnyE_take (i := 18) (v := ?v18) rfl (by kernel_rfl) (by kernel_rfl) (by kernel_rfl) (by kernel_rfl) (fun _ _ _ h => h) (Or.inl ⟨by rfl, ?y18⟩) HS0 ?r18
 case y18 => (intro wy hSw; obtain ⟨s1, s2, s3⟩ := hSw; go_simp; try with_reducible rfl)
 try simp only [Act.put]
 refine wpAnyE_take (i := 19) (v := ?v19) rfl (by kernel_rfl) (by kernel_rfl) (by kernel_rfl) (by kernel_rfl) (fun _ _ _ h => h) (Or.inl ⟨by rfl, ?y19⟩) HS0 ?r19
 case y19 => (intro wy hSw; obtain ⟨s1, s2, s3⟩ := hSw; go_simp; try with_reducible rfl)
 try simp only [Act.put]
 refine wpAnyE_one (i := 20) (by kernel_rfl) rfl (fun K hK => ?_)
 go_simp
 have hb1 := (Below.refl X.heap.size X).alloc (Nat.le_refl _) (.cells #[.int .i64 (out.length : Int), .int .i64 (F.length : Int)] 3)
 refine hK _ _ (HSB.out _ hb1) ?_
 refine wpAnyE_one (i := 21) (by kernel_rfl) rfl (fun K hK => ?_)
 go_simp
 refine KN.out.mono ?_
 rintro e w5 ⟨A5, c5, rfl, ho5, hb5⟩
 have hb15 : Below X.heap.size X w5 := hb1.trans (hb5.mono (by simp))
 have HB15 := hid hb15
 have HO5 := hid ho5
 obtain ⟨NM, hNM⟩ : ∃ NM, NM = Tb.nums [out.length, F.length] := ⟨_, rfl⟩
 rw [← hNM] at HO5 ⊢
 have HNM := hid hNM
 clear hNM ho5 hb5 hb1
 refine hK _ _ (HSB.out _ hb15) ?_
 try simp only [Act.put]
 refine wpAnyE_one (i := 22) (by kernel_rfl) rfl (fun K hK => ?_)
 go_simp
 refine hK _ _ (HSB.out _ hb15) ?_
 try simp only [Act.put]
 refine wpAnyE_one (i := 23) (by kernel_rfl) rfl (fun K hK => ?_)
 go_simp
 have hbY : Below X.heap.size X (w5.alloc (.cells #[.slice q.kA q.k.length q.kc, .slice A5 NM.length c5] 77)) := hb15.alloc hb15.size _
 refine hK _ _ (HSB.out _ hbY) ?_
 have HY := hid (HXW.out.call hbY)
 have HBY := hid hbY
 refine wpAnyE_one (i := 24) (by kernel_rfl) rfl (fun K hK => ?_)
 refine step_append_sd _ (by rfl) (some 52) (by rfl) (.tmp 32) (.tmp 51) pairT (by rfl) base xA xc index rfl HY.out.idx (w5.heap.size + 1) (some ⟨w5.heap.size, 0, none⟩) 1 1 [⟨q.kA, q.kc, q.k, A5, c5, NM⟩] rfl rfl (rd_pair_new w5 ⟨q.kA, q.kc, q.k, A5, c5, NM⟩) (by simp; omega) (by unfold maxLen; simp; omega) HY.out.size ?_
 intro A6 c6 L w6 hL ho6 hg6 hat6
 have HL6 : Hid (L = index ++ [⟨q.kA, q.kc, q.k, A5, c5, NM⟩]) := hid hL
 have HO6 := hid ho6; have HG6 := hid hg6; have HT6 := hid hat6
 have hgY := HY.out.lt
 have hbY2 : b < (w5.alloc (.cells #[.slice q.kA q.k.length q.kc, .slice A5 NM.length c5] 77)).heap.size := (HY.out.opn.blk_ge b rfl).2
 have hne1 : some gw ≠ blk xA := fun e => by
   rcases HY.out.d2.ne (r := some gw) (by simp) with h1 | h1
   · exact absurd (e.trans h1) (by simp)
   · exact h1 e.symm
 have hne2 : some b ≠ blk xA := fun e => by
   rcases HY.out.d2.ne (r := blk (some ⟨b, off, none⟩)) (by simp) with h1 | h1
   · exact absurd (e.trans h1) (by simp)
   · exact h1 e.symm
 have hSY := HSB.out _ hbY
 have k1 : ∀ j, w6.cell? ⟨gw, j, none⟩ = (w5.alloc (.cells #[.slice q.kA q.k.length q.kc, .slice A5 NM.length c5] 77)).cell? ⟨gw, j, none⟩ := fun j => World.cell?_of_block (hg6.block gw hgY hne1)
 have k2 : ∀ j, w6.cell? ⟨b, j, none⟩ = (w5.alloc (.cells #[.slice q.kA q.k.length q.kc, .slice A5 NM.length c5] 77)).cell? ⟨b, j, none⟩ := fun j => World.cell?_of_block (hg6.block b hbY2 hne2)
 have hS6 := And.intro ((k1 1).trans hSY.1) (And.intro ((k1 2).trans hSY.2.1) ((k2 _).trans hSY.2.2))
 have hbx6 := (hg6.block gw hgY hne1).trans HY.out.box
 have fz6 : w6.frozen? ⟨gw, 1, none⟩ = false := frozen_of_row w6 gw 1 _ _ hbx6
 have HBX6 := hid hbx6
 refine hK _ _ hS6 ?_
 clear hL ho6 hg6 hat6 hSY k1 k2 hbx6 hbY hb15
 try simp only [Act.put]
 refine wpAnyE_one (i := 25) (by kernel_rfl) rfl (fun K hK => ?_)
 go_simp
 refine hK _ _ hS6 ?_
 try simp only [Act.put]
 refine wpAnyE_one (i := 26) (by kernel_rfl) rfl (fun K hK => ?_)
 go_simp
 refine hK _ _ hS6 ?_
 try simp only [Act.put]
 obtain ⟨g1, _, _⟩ := hS6
 refine wpAnyE_last (by kernel_rfl) (by kernel_rfl) rfl (fun K hK => ?_)
 go_simp
 refine hK _ _ ?_
 have hpv : PvO (w5.alloc (.cells #[.slice q.kA q.k.length q.kc, .slice A5 NM.length c5] 77)) base ((⟨oA, oc, xA, xc, some ⟨b, off, none⟩, pc⟩ : WrA).R gw) ⟨q.kA, q.kc, q.k, A5, c5, NM⟩ := by
   have h0 := HY.out.prs q (.inr (by simp))
   refine ⟨h0.k, (HO5.out.alloc _).mono (by have := HXW.out.size; simp; omega), h0.ko, ?_⟩
   exact Off.fresh (n := X.heap.size) (fun g hg => by have := (HO5.out.blk_ge g hg).1; simp at this; omega) HXW.out.lts
 have hw7 : WS w base gw ⟨out ++ F, L, P ++ [q], n, bad || !decide (B.length ≤ 65536)⟩ ⟨oA, oc, A6, c6, some ⟨b, off, none⟩, pc⟩ (w6.setCell ⟨gw, 1, none⟩ (.slice A6 L.length c6)) := by
   have ho := HO6.out
   have hL := HL6.out
   subst hL
   exact HY.out.app_idx hpv ho HG6.out HT6.out (heap_set1_ HBX6.out)
 have hm7 : Mv gw a wr ⟨oA, oc, A6, c6, some ⟨b, off, none⟩, pc⟩ (w6.setCell ⟨gw, 1, none⟩ (.slice A6 L.length c6)) := by
   refine (HXM.out.trans (Mv.call HBY.out)).trans ((Mv.grow HG6.out (.inr (by simp [WrA.R])) (fun g hg' => ?_)).trans (Mv.set ⟨gw, 1, none⟩ rfl _))
   simp only [WrA.R, List.mem_cons, List.not_mem_nil, or_false] at hg' ⊢
   rcases hg' with h1 | h1 | h1 | h1
   · exact .inl (.inl h1)
   · exact .inl (.inr (.inl h1))
   · rcases HT6.out with h2 | h2
     · exact .inl (.inr (.inr (.inl (h1.trans h2))))
     · have := h1.trans h2; injection this with this; exact .inr (Nat.le_of_eq this.symm)
   · exact .inl (.inr (.inr (.inr h1)))
 obtain ⟨Z, hZ⟩ : ∃ Z, w6.setCell ⟨gw, 1, none⟩ (.slice A6 L.length c6) = Z := ⟨_, rfl⟩
 rw [hZ] at hw7 hm7 ⊢
 obtain ⟨z0, z1, z2, z3, z4, zf⟩ := hw7.cells
 have zf2 := zf 2
 have zf3 := zf 3
 have hgr := only_setCell (p := ⟨gw, 3, none⟩) (grownBy_set Z ⟨gw, 2, none⟩ (.slice none 0 0)) rfl (.int .i64 0)
 have hw8 := hw7.nil_opn (n := 0) hgr (heap_set3_ (heap_set2_ hw7.box))
 have hm8 : Mv gw a wr ⟨oA, oc, A6, c6, none, 0⟩ ((Z.setCell ⟨gw, 2, none⟩ (.slice none 0 0)).setCell ⟨gw, 3, none⟩ (.int .i64 0)) := by
   refine hm7.trans (Mv.grow hgr (.inr (by simp [WrA.R])) (fun g hg' => ?_))
   simp only [WrA.R, List.mem_cons, List.not_mem_nil, or_false] at hg' ⊢
   rcases hg' with h1 | h1 | h1 | h1
   · exact .inl (.inl h1)
   · exact .inl (.inr (.inl h1))
   · exact .inl (.inr (.inr (.inl h1)))
   · cases h1
 have hvge : ∀ g, blk A5 = some g → wr.heap.size ≤ g := fun g hg => by
   have h1 := (HO5.out.blk_ge g hg).1
   have h1 : X.heap.size + 1 ≤ g := by simpa using h1
   have h2 := HXM.out.size
   omega
 have HFIN : Hid (CloseP w base gw ⟨out, index, P ++ [q], n, bad⟩ a wr (.returned (.tuple #[])) ((Z.setCell ⟨gw, 2, none⟩ (.slice none 0 0)).setCell ⟨gw, 3, none⟩ (.int .i64 0))) := hid ⟨rfl, q.kA, q.kc, A5, c5, _, by
   rw [if_neg (by simp)]
   unfold Tb.closed
   simp only [List.getLast?_append, List.getLast?_singleton, Option.some_or, Option.map_some, Option.getD_some]
   rw [← HBB.out, ← HFF.out, ← HNM.out, ← HL6.out]
   exact hw8, hm8, .inr ⟨q, by simp, rfl⟩, fun g hg => hvge g hg⟩
 clear hvge hw7 hm7 hw8 hm8 hgr hpv zf hZ g1 fz6 hne1 hne2 hgY hbY2 HS0 z0 z1 z4 HY HXW HSB
 go_wp2_with fail
 go_end0
 exact HFIN.out
end Go.Proofs.YtgafionfojnieaaGreatDoor

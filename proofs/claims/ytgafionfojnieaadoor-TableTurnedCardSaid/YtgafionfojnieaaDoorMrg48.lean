/- Parts of the proof, one behind the other: The contract of the reference's Build (written by a program). -/
import Derived.Test.YtgafionfojnieaaDoorMrg39
namespace Go.Proofs.YtgafionfojnieaaDoor
open Go.RowKit

theorem own_below {w wr w2 : World} {n : Nat} {row : Option Nat} (h : Below n w wr) (hz : n ≤ wr.heap.size) (hg : wr.grownBy w2 row) (hr : ∀ k, row = some k → n ≤ k) : Below n w w2 := h.grown hg hz hr
theorem two_keep {W w' : World} {b o p : Nat} {x0 x1 x2 x3 y0 y1 y2 y3 : Value} (h : W.cell? ⟨b, o, none⟩ = some x0 ∧ W.cell? ⟨b, o + 1, none⟩ = some x1 ∧ W.cell? ⟨b, o + 2, none⟩ = some x2 ∧ W.cell? ⟨b, o + 3, none⟩ = some x3 ∧
    W.cell? ⟨b, p, none⟩ = some y0 ∧ W.cell? ⟨b, p + 1, none⟩ = some y1 ∧ W.cell? ⟨b, p + 2, none⟩ = some y2 ∧ W.cell? ⟨b, p + 3, none⟩ = some y3) (hb : b < W.heap.size) (hw : Below W.heap.size W w') :
    w'.cell? ⟨b, o, none⟩ = some x0 ∧ w'.cell? ⟨b, o + 1, none⟩ = some x1 ∧ w'.cell? ⟨b, o + 2, none⟩ = some x2 ∧ w'.cell? ⟨b, o + 3, none⟩ = some x3 ∧
    w'.cell? ⟨b, p, none⟩ = some y0 ∧ w'.cell? ⟨b, p + 1, none⟩ = some y1 ∧ w'.cell? ⟨b, p + 2, none⟩ = some y2 ∧ w'.cell? ⟨b, p + 3, none⟩ = some y3 ∧ Below W.heap.size W w' :=
  ⟨(hw.cell (p := ⟨b, o, none⟩) hb).trans h.1, (hw.cell (p := ⟨b, o + 1, none⟩) hb).trans h.2.1, (hw.cell (p := ⟨b, o + 2, none⟩) hb).trans h.2.2.1, (hw.cell (p := ⟨b, o + 3, none⟩) hb).trans h.2.2.2.1,
    (hw.cell (p := ⟨b, p, none⟩) hb).trans h.2.2.2.2.1, (hw.cell (p := ⟨b, p + 1, none⟩) hb).trans h.2.2.2.2.2.1, (hw.cell (p := ⟨b, p + 2, none⟩) hb).trans h.2.2.2.2.2.2.1, (hw.cell (p := ⟨b, p + 3, none⟩) hb).trans h.2.2.2.2.2.2.2, hw⟩
/-- What lies in a round of the second loop. -/
structure KR (w : World) (l : List Rv) (k : Nat) (KA : Option Addr) (KC : Nat) (wr : World) : Prop where
  keys : OwnS Bs.cells 1 wr w.heap.size 25 KA KC ((l.take k).map Rv.bs)
  below : Below w.heap.size w wr
  size : w.heap.size ≤ wr.heap.size
  ord : ∀ i (hi : i < l.length), 0 < i → i < k → Tb.ahead (l[i - 1]'(by omega)) l[i] = true
theorem KR.call {w wr w2 : World} {l : List Rv} {k : Nat} {KA : Option Addr} {KC : Nat} (h : KR w l k KA KC wr) (hb : Below wr.heap.size wr w2) : KR w l k KA KC w2 :=
  ⟨h.keys.below hb, h.below.trans (hb.mono h.size), Nat.le_trans h.size hb.size, h.ord⟩
set_option maxHeartbeats 8000000 in
set_option maxRecDepth 100000 in
theorem rtbuild_any (A : Option Addr) (c : Nat) (l : List Rv) (size bits : Int) (w : World) (h : RdRv w w.heap.size A l) (hl : l.length ≤ 1000000) (hkv : ∀ r ∈ l, r.k.length ≤ 1000000 ∧ r.v.length ≤ 1000000) :
    Calls Tryd.prog 8 #[.slice A l.length c, .int .i64 size, .int .i64 bits] w (GivesR w (Tb.build l size bits).1 (Tb.build l size bits).2) := by
  by_cases b1 : size < 64
  · have HG := Lib.hid (@gives_bad w w l size bits (by simp [b1]) (Below.refl _ _))
    go_enter Tryd.func8, Tryd.ntmps8
    go_wp2_with fail
    go_ret2
    exact HG.out
  by_cases b2 : 32768 < size
  · have HG := Lib.hid (@gives_bad w w l size bits (by simp [b2]) (Below.refl _ _))
    go_enter Tryd.func8, Tryd.ntmps8
    go_wp2_with fail
    go_ret2
    exact HG.out
  by_cases b3 : bits < 1
  · have HG := Lib.hid (@gives_bad w w l size bits (by simp [b3]) (Below.refl _ _))
    go_enter Tryd.func8, Tryd.ntmps8
    go_wp2_with fail
    go_ret2
    exact HG.out
  by_cases b4 : 32 < bits
  · have HG := Lib.hid (@gives_bad w w l size bits (by simp [b4]) (Below.refl _ _))
    go_enter Tryd.func8, Tryd.ntmps8
    go_wp2_with fail
    go_ret2
    exact HG.out
  by_cases b5 : (l.length : Int) < 1
  · have HG := Lib.hid (@gives_bad w w l size bits (by omega) (Below.refl _ _))
    go_enter Tryd.func8, Tryd.ntmps8
    go_wp2_with fail
    go_ret2
    exact HG.out
  by_cases b6 : 20000 < (l.length : Int)
  · have HG := Lib.hid (@gives_bad w w l size bits (by omega) (Below.refl _ _))
    go_enter Tryd.func8, Tryd.ntmps8
    go_wp2_with fail
    go_ret2
    exact HG.out
  have hl2 : l.length ≤ 20000 := by omega
  have hp : 0 < l.length := by omega
  have HH := Lib.hid h
  have HKV := Lib.hid hkv
  have HB6 : Hid (¬ size < 64 ∧ ¬ 32768 < size ∧ ¬ bits < 1 ∧ ¬ 32 < bits) := Lib.hid ⟨b1, b2, b3, b4⟩
  obtain ⟨b, off, hA, hbl, hrow⟩ := h.row4 hp
  subst hA
  have HROW := Lib.hid hrow
  have q0 := (hrow 0 hp).2.1
  rw [Nat.zero_mul, Nat.add_zero] at q0
  obtain ⟨s0, hs0⟩ : ∃ s0, s0 = l[0].seq := ⟨_, rfl⟩
  rw [← hs0] at q0
  have HQ0 := Lib.hid q0
  have HLO : Hid (Tb.lowK l 0 = s0 ∧ Tb.highK l 0 = s0) := Lib.hid ⟨by rw [hs0]; exact Tb.lowK_zero l hp, by rw [hs0]; exact Tb.highK_zero l hp⟩
  clear h hkv hrow b5 hs0 q0
  go_enter Tryd.func8, Tryd.ntmps8
  go_wp2_with fail
  go_loopw [8, 9] (fun i _ wr => ∃ (k : Nat), k ≤ l.length ∧ i = .int .i64 (k : Int) ∧ Hid (∀ j (hj : j < l.length), j < k → Tb.right l[j] = true) ∧ Hid (Below w.heap.size w wr)) (fun i _ _ => l.length - (intOf i).toNat)
  case atStart => exact ⟨0, by omega, rfl, Lib.hid (fun j _ h => by omega), Lib.hid (Below.refl _ _)⟩
  case round =>
    obtain ⟨k, hk, rfl, HRK, HB⟩ := hrel
    by_cases hlt : k < l.length
    · obtain ⟨r, hrv⟩ : ∃ r, r = l[k] := ⟨_, rfl⟩
      have hmem : r ∈ l := by rw [hrv]; exact List.getElem_mem hlt
      obtain ⟨c0, c1, c2, c3⟩ := HROW.out k hlt
      rw [← hrv] at c0 c1 c2 c3
      have r0 := (HB.out.cell (p := ⟨b, off + k * 4, none⟩) hbl).trans c0
      have r1 := (HB.out.cell (p := ⟨b, off + k * 4 + 1, none⟩) hbl).trans c1
      have r2 := (HB.out.cell (p := ⟨b, off + k * 4 + 2, none⟩) hbl).trans c2
      have r3 := (HB.out.cell (p := ⟨b, off + k * 4 + 3, none⟩) hbl).trans c3
      have KRT := Lib.hid (rrightT_any r (HKV.out r hmem).1 (HKV.out r hmem).2 wr)
      obtain ⟨rt, hrt⟩ : ∃ rt, rt = Tb.right r := ⟨_, rfl⟩
      rw [← hrt] at KRT
      have HRT := Lib.hid hrt
      have HRV := Lib.hid hrv
      clear c0 c1 c2 c3 hmem hrv hrt
      obtain ⟨kA, kc, kk, seq, del, vA, vc, vv⟩ := r
      simp only [Rv.val] at r0 r1 r2 r3 KRT
      rcases rt with _ | _
      · have HG : Hid (∀ w', Below w.heap.size w w' → GivesR w (Tb.build l size bits).1 (Tb.build l size bits).2 (.returned (.tuple #[.slice none 0 0, .int .i64 1])) w') := Lib.hid (fun w' hb' => gives_bad (.inr (.inr (.inr (.inr (.inr (.inr (List.any_eq_true.2 ⟨l[k], List.getElem_mem hlt, by rw [← HRV.out, ← HRT.out]; rfl⟩))))))) hb')
        go_wp2_with fail
        refine KRT.out.mono ?_
        rintro e w1 ⟨rfl, hb1⟩
        have HB1 := Lib.hid (HB.out.trans (hb1.mono HB.out.size))
        clear hb1
        go_wp2_with fail
        go_ret2
        exact HG.out _ HB1.out
      · go_wp2_with fail
        refine KRT.out.mono ?_
        rintro e w1 ⟨rfl, hb1⟩
        have HB1 := Lib.hid (HB.out.trans (hb1.mono HB.out.size))
        clear hb1 r0 r1 r2 r3
        go_wp2_with fail
        go_roundw
        case rel => exact ⟨k + 1, by omega, by go_num, Lib.hid (fun j hj h1 => by
          by_cases hjk : j = k
          · subst hjk; rw [← HRV.out, ← HRT.out]
          · exact HRK.out j hj (by omega)), HB1⟩
        case measure => simp [intOf]; omega
    · obtain rfl : k = l.length := by omega
      have hr : ∀ r ∈ l, Tb.right r = true := fun r hr => by
        obtain ⟨j, hj, rfl⟩ := List.mem_iff_getElem.1 hr
        exact HRK.out j hj hj
      have HR := Lib.hid hr
      have hany : l.any (fun r => !Tb.right r) = false := by
        rw [List.any_eq_false]
        intro r hm; simp [hr r hm]
      have HNO : Hid (¬ (size < 64 ∨ 32768 < size ∨ bits < 1 ∨ 32 < bits ∨ l.length < 1 ∨ 20000 < l.length ∨ l.any (fun r => !Tb.right r) = true)) := Lib.hid (by
        rw [hany]
        have := HB6.out
        rintro (h1 | h1 | h1 | h1 | h1 | h1 | h1)
        · omega
        · omega
        · omega
        · omega
        · omega
        · omega
        · cases h1)
      have q1 := (HB.out.cell (p := ⟨b, off + 1, none⟩) hbl).trans HQ0.out
      have hone : (1 : Int) ≤ (l.length : Int) := by omega
      have HK0 : Hid (KR w l 0 none 0 wr) := Lib.hid ⟨OwnS.nil _ _ _, HB.out, HB.out.size, fun i _ h0 h1 => by omega⟩
      clear hr hany HRK HB
      go_wp2_with fail
      go_loopw [10, 11, 12, 13] (fun lo hi ks i wr => ∃ (k : Nat) (KA : Option Addr) (KC : Nat) (L H : Int), k ≤ l.length ∧ i = .int .i64 (k : Int) ∧ ks = .slice KA k KC ∧ lo = .int .i64 L ∧ hi = .int .i64 H ∧ Hid (L = Tb.lowK l k ∧ H = Tb.highK l k) ∧ Hid (KR w l k KA KC wr)) (fun _ _ _ i _ => l.length - (intOf i).toNat)
      case atStart => exact ⟨0, none, 0, s0, s0, by omega, rfl, rfl, rfl, rfl, Lib.hid ⟨HLO.out.1.symm, HLO.out.2.symm⟩, HK0⟩
      case round =>
        obtain ⟨k, KA, KC, L, H, hk, rfl, rfl, rfl, rfl, HLH, HKR⟩ := hrel
        clear HK0 q1
        by_cases hlt : k < l.length
        · obtain ⟨r, hrv⟩ : ∃ r, r = l[k] := ⟨_, rfl⟩
          have hmem : r ∈ l := by rw [hrv]; exact List.getElem_mem hlt
          have HRT := Lib.hid (HR.out r hmem)
          have hbb := HKR.out.below
          have hbz := HKR.out.size
          obtain ⟨c0, c1, c2, c3⟩ := HROW.out k hlt
          rw [← hrv] at c0 c1 c2 c3
          have r0 := (hbb.cell (p := ⟨b, off + k * 4, none⟩) hbl).trans c0
          have r1 := (hbb.cell (p := ⟨b, off + k * 4 + 1, none⟩) hbl).trans c1
          have r2 := (hbb.cell (p := ⟨b, off + k * 4 + 2, none⟩) hbl).trans c2
          have r3 := (hbb.cell (p := ⟨b, off + k * 4 + 3, none⟩) hbl).trans c3
          have HRV := Lib.hid hrv
          have HMEM := Lib.hid hmem
          have HC0 : Hid (∀ w', Below w.heap.size w w' → w'.cell? ⟨b, off + k * 4, none⟩ = some (.slice r.kA r.k.length r.kc) ∧ w'.cell? ⟨b, off + k * 4 + 1, none⟩ = some (.int .i64 r.seq)) := Lib.hid (fun w' hb' => ⟨(hb'.cell (p := ⟨b, off + k * 4, none⟩) hbl).trans c0, (hb'.cell (p := ⟨b, off + k * 4 + 1, none⟩) hbl).trans c1⟩)
          clear c0 c1 c2 c3 hmem hrv
          obtain ⟨kA, kc, kk, seq, del, vA, vc, vv⟩ := r
          simp only at r0 r1 r2 r3 HC0
          by_cases h0 : 0 < k
          case' pos =>
            obtain ⟨j, hj⟩ : ∃ j, k = j + 1 := ⟨k - 1, by omega⟩
            have hjl : j < l.length := by omega
            obtain ⟨r', hr'⟩ : ∃ r', r' = l[j] := ⟨_, rfl⟩
            have hmem' : r' ∈ l := by rw [hr']; exact List.getElem_mem hjl
            obtain ⟨c0, c1, c2, c3⟩ := HROW.out j hjl
            rw [← hr'] at c0 c1 c2 c3
            have p0 := (hbb.cell (p := ⟨b, off + j * 4, none⟩) hbl).trans c0
            have p1 := (hbb.cell (p := ⟨b, off + j * 4 + 1, none⟩) hbl).trans c1
            have p2 := (hbb.cell (p := ⟨b, off + j * 4 + 2, none⟩) hbl).trans c2
            have p3 := (hbb.cell (p := ⟨b, off + j * 4 + 3, none⟩) hbl).trans c3
            have KO : Hid (∀ w', Below wr.heap.size wr w' → Calls Tryd.prog 23 #[r'.val, (⟨kA, kc, kk, seq, del, vA, vc, vv⟩ : Rv).val] w' fun e w'' => e = .returned (.bool (Tb.ahead r' ⟨kA, kc, kk, seq, del, vA, vc, vv⟩)) ∧ Below w'.heap.size w' w'') := Lib.hid (fun w' hb' => by
              have hb2 : Below w.heap.size w w' := hbb.trans (hb'.mono hbz)
              exact aheadT_any _ _ w' (((HH.out.ok r' hmem').below hb2 (Nat.le_refl _)).more hb2.size) (((HH.out.ok _ HMEM.out).below hb2 (Nat.le_refl _)).more hb2.size))
            have HJ : Hid (j + 1 = k ∧ ∀ (h : j < l.length), r' = l[j]) := Lib.hid ⟨hj.symm, fun _ => hr'⟩
            clear hr' hmem' c0 c1 c2 c3
            obtain ⟨o, ho⟩ : ∃ o, o = Tb.ahead r' ⟨kA, kc, kk, seq, del, vA, vc, vv⟩ := ⟨_, rfl⟩
            rw [← ho] at KO
            have HOI := Lib.hid ho
            clear ho
            obtain ⟨kA', kc', kk', seq', del', vA', vc', vv'⟩ := r'
            simp only [Rv.val] at p0 p1 p2 p3 KO
            have hb3 : b < wr.heap.size := Nat.lt_of_lt_of_le hbl hbz
            have HKEEP := Lib.hid (fun (w' : World) => two_keep (w' := w') ⟨p0, p1, p2, p3, r0, r1, r2, r3⟩ hb3)
            have hk0 : (0 : Int) < (k : Int) := by omega
            have hk1 : decide ((0 : Int) < (k : Int)) = true := decide_eq_true hk0
            have hsum : IntKind.i64.wrap ((k : Int) - 1) = (j : Int) := by rw [IntKind.wrap_i64]; omega
            have hj0 : (0 : Int) ≤ (j : Int) := by omega
            have hj1 : (j : Int) < (l.length : Int) := by omega
            have HBB := Lib.hid hbb
            have HBZ := Lib.hid hbz
            clear hj hbb hbz hb3
            rcases o with _ | _
            case false =>
              have HTEN : Hid (∀ w', Below w.heap.size w w' → GivesR w (Tb.build l size bits).1 (Tb.build l size bits).2 (.returned (.tuple #[.slice none 0 0, .int .i64 10])) w') := Lib.hid (fun w' hb' => by
                refine gives_ten HNO.out (Tb.sorted_no (i := k) hlt h0 ?_) hb'
                obtain ⟨e1, e2⟩ := HJ.out
                subst e1
                show Tb.ahead l[j] l[j + 1] = false
                rw [← e2 hjl, ← HRV.out]
                exact HOI.out.symm)
              clear hjl
              go_wp2_with fail
              go_region_held (fun w' => w'.cell? ⟨b, off + j * 4, none⟩ = some (.slice kA' kk'.length kc') ∧ w'.cell? ⟨b, off + j * 4 + 1, none⟩ = some (.int .i64 seq') ∧ w'.cell? ⟨b, off + j * 4 + 2, none⟩ = some (.bool del') ∧ w'.cell? ⟨b, off + j * 4 + 3, none⟩ = some (.slice vA' vv'.length vc') ∧ w'.cell? ⟨b, off + k * 4, none⟩ = some (.slice kA kk.length kc) ∧ w'.cell? ⟨b, off + k * 4 + 1, none⟩ = some (.int .i64 seq) ∧ w'.cell? ⟨b, off + k * 4 + 2, none⟩ = some (.bool del) ∧ w'.cell? ⟨b, off + k * 4 + 3, none⟩ = some (.slice vA vv.length vc) ∧ Below wr.heap.size wr w')
            (first | exact HKEEP.out _ ((Below.refl _ _).drew) | exact HKEEP.out _ B3)
            (first | (go_at_call 23; refine (KO.out _ (by go_split_ands; assumption)).mono ?_; rintro e w1 ⟨rfl, hb1⟩; have B3 := Below.trans (b := _) (by go_split_ands; assumption : Below wr.heap.size wr _) (hb1.mono (by go_split_ands; exact Below.size (by assumption)))))
              go_wp2_with fail
              go_ret2
              exact HTEN.out _ (HBB.out.trans (B3.mono HBZ.out))
            have HORD : Hid (∀ i (hi : i < l.length), 0 < i → i < k + 1 → Tb.ahead (l[i - 1]'(Nat.lt_of_le_of_lt (Nat.sub_le i 1) hi)) l[i] = true) := Lib.hid (fun i hi h1 h2 => by
              by_cases hik : i = k
              · obtain ⟨e1, e2⟩ := HJ.out
                subst hik
                subst e1
                show Tb.ahead l[j] l[j + 1] = true
                rw [← e2 hjl, ← HRV.out]
                exact HOI.out.symm
              · exact HKR.out.ord i hi h1 (by omega))
            clear hjl
            go_wp2_with fail
            go_region_held (fun w' => w'.cell? ⟨b, off + j * 4, none⟩ = some (.slice kA' kk'.length kc') ∧ w'.cell? ⟨b, off + j * 4 + 1, none⟩ = some (.int .i64 seq') ∧ w'.cell? ⟨b, off + j * 4 + 2, none⟩ = some (.bool del') ∧ w'.cell? ⟨b, off + j * 4 + 3, none⟩ = some (.slice vA' vv'.length vc') ∧ w'.cell? ⟨b, off + k * 4, none⟩ = some (.slice kA kk.length kc) ∧ w'.cell? ⟨b, off + k * 4 + 1, none⟩ = some (.int .i64 seq) ∧ w'.cell? ⟨b, off + k * 4 + 2, none⟩ = some (.bool del) ∧ w'.cell? ⟨b, off + k * 4 + 3, none⟩ = some (.slice vA vv.length vc) ∧ Below wr.heap.size wr w')
            (first | exact HKEEP.out _ ((Below.refl _ _).drew) | exact HKEEP.out _ B3)
            (first | (go_at_call 23; refine (KO.out _ (by go_split_ands; assumption)).mono ?_; rintro e w1 ⟨rfl, hb1⟩; have B3 := Below.trans (b := _) (by go_split_ands; assumption : Below wr.heap.size wr _) (hb1.mono (by go_split_ands; exact Below.size (by assumption)))))
            obtain ⟨X, hXw⟩ : ∃ X, X = w1 := ⟨_, rfl⟩
            rw [← hXw] at B3 ⊢
            have HKX := Lib.hid (HKR.out.call B3)
            obtain ⟨x0, x1⟩ := HC0.out X HKX.out.below
            clear B3 hk1 r0 r1 r2 r3 KO HJ HOI HKEEP p0 p1 p2 p3 hsum hj0 hj1 HBB HBZ
            subst hXw
          case' neg =>
            have hk0 : ¬ ((0 : Int) < (k : Int)) := by omega
            have hk1 : decide ((0 : Int) < (k : Int)) = false := decide_eq_false hk0
            have HORD : Hid (∀ i (hi : i < l.length), 0 < i → i < k + 1 → Tb.ahead (l[i - 1]'(Nat.lt_of_le_of_lt (Nat.sub_le i 1) hi)) l[i] = true) := Lib.hid (fun i hi h1 h2 => by omega)
            go_wp2_with fail
            go_quiet (fail)
            refine drewN_any ?_
            intro X hbX hXh
            have HKX := Lib.hid (HKR.out.call hbX)
            obtain ⟨x0, x1⟩ := HC0.out X HKX.out.below
            clear hbX hXh hk1 r0 r1 r2 r3
          all_goals
            have HQL : Hid (((l.take k).map Rv.bs).length = k) := Lib.hid (by simp; omega)
            have HQK := Lib.hid HKX.out.keys
            obtain ⟨Q, hQ⟩ : ∃ Q, Q = (l.take k).map Rv.bs := ⟨_, rfl⟩
            rw [← hQ] at HQL HQK
            have HQE := Lib.hid hQ
            have hsX := HKX.out.size
            have hLOW := Tb.lowK_succ l k hlt
            have hHIG := Tb.highK_succ l k hlt
            rw [← HRV.out, ← HLH.out.1] at hLOW
            rw [← HRV.out, ← HLH.out.2] at hHIG
            have HLH2 : Hid (min L seq = Tb.lowK l (k + 1) ∧ max H seq = Tb.highK l (k + 1)) := Lib.hid ⟨hLOW.symm, hHIG.symm⟩
            have HKL : Hid (kk.length ≤ 1000000) := Lib.hid ((HKV.out _ HMEM.out).1)
            clear hQ hLOW hHIG
            go_wp2_with (at_builtin; refine wpList_append_s _ rfl _ _ bsT rfl w.heap.size KA KC Q (by show Value.slice KA k KC = Value.slice KA Q.length KC; rw [HQL.out]) (HQK.out.alloc _) (X.heap.size + 1) (some ⟨X.heap.size, 0, none⟩) 1 1 [⟨kA, kc, kk⟩] rfl rfl (rd_bs_new X ⟨kA, kc, kk⟩) (by rw [HQL.out]; simp; omega) (by rw [HQL.out]; unfold maxLen; simp; omega) (by simp; omega) ?_)
            intro KA' KC' LK w9 hLK hoK hgK hatK
            have hLKn : LK.length = k + 1 := by rw [hLK, List.length_append, HQL.out]; rfl
            have hLK2 : LK = (l.take (k + 1)).map Rv.bs := by
              rw [hLK, HQE.out, List.take_succ_eq_append_getElem hlt, ← HRV.out]
              simp [Rv.bs]
            rw [hLK2] at hoK
            have HKN : Hid (KR w l (k + 1) KA' KC' w9) := Lib.hid ⟨hoK, ((HKX.out.below.alloc hsX _).grown hgK (by simp; omega) (fun g hg => (HQK.out.blk_ge g hg).1)), Nat.le_trans hsX (Nat.le_trans (by simp) hgK.size), HORD.out⟩
            rw [hLKn]
            clear hLK hLK2 hoK hgK hatK hLKn hsX x0 x1
            go_wp2_with fail
            go_roundw
            case rel => exact ⟨k + 1, KA', KC', _, _, by omega, by go_num, rfl, rfl, rfl, HLH2, HKN⟩
            case measure => simp [intOf]; omega
        · obtain rfl : k = l.length := by omega
          have HSO : Hid (Tb.sorted l = true) := Lib.hid (Tb.sorted_yes (fun i hi h0 => HKR.out.ord i hi h0 hi))
          have KP := Lib.hid (part_any (some ⟨b, off, none⟩) c l size wr ((HH.out.below HKR.out.below (Nat.le_refl _)).more HKR.out.size) hl2 HR.out)
          go_wp2_with fail
          refine KP.out.mono ?_
          rintro e w2 ⟨GA, gc, gs, rfl, hgr, hgs⟩
          have hs64 : 64 ≤ size := by have := HB6.out; omega
          obtain ⟨hclo, hnil⟩ := Tb.close_run size hs64 l hp
          obtain ⟨PP, hPP⟩ : ∃ PP, PP = (Tb.parts size l).1 := ⟨_, rfl⟩
          have hpb := Tb.parts_bytes size l HR.out l.length (Nat.le_refl _)
          have hpl := Tb.parts_len size l l.length (Nat.le_refl _)
          have hplen := Tb.parts_lens size l l.length (Nat.le_refl _)
          have hpp := Tb.parts_pos size hs64 l hp
          rw [List.take_length] at hpb hpl hplen
          rw [← hPP] at hclo hnil hpb hpl hplen hpp hgs
          have hgsl : gs.length = PP.length := by rw [← hgs, List.length_map]
          have hgl2 : gs.length ≤ 20000 := by omega
          have hgl0 : 0 < gs.length := by rw [hgsl]; exact List.length_pos_iff.2 hpp
          have HGS : Hid (∀ k (hk : k < gs.length), ∃ hk2 : k < PP.length, PP[k] = gs[k].pr) := Lib.hid (fun k hk => ⟨by omega, by subst hgs; simp⟩)
          have HCLO := Lib.hid hclo
          have HNIL := Lib.hid hnil
          have HPB := Lib.hid hpb
          have HPLEN := Lib.hid hplen
          have HPP := Lib.hid hPP
          have HGL := Lib.hid hgsl
          have HGR := Lib.hid hgr
          obtain ⟨gA, hGA, hgAlt, hcells⟩ := hgr.at_ hgl0
          have HCELLS := Lib.hid hcells
          have HGALT := Lib.hid hgAlt
          subst hGA
          have HRK : Hid (RdBs w2 wr.heap.size KA ((l.take l.length).map Rv.bs)) := Lib.hid ⟨HKR.out.keys.rd.below hgr.below (Nat.le_refl _), fun p hp => by
            obtain ⟨r, hr, rfl⟩ := List.mem_map.1 hp
            rw [List.take_length] at hr
            exact (((HH.out.ok r hr).key.below HKR.out.below (Nat.le_refl _)).more HKR.out.size).below hgr.below (Nat.le_refl _)⟩
          have HRK2 : Hid (RdBs w2 w2.heap.size KA (l.map Rv.bs)) := Lib.hid (by
            have h1 := HRK.out.more hgr.below.size
            rwa [List.take_length] at h1)
          have HBW2 : Hid (Below w.heap.size w w2) := Lib.hid (HKR.out.below.trans (hgr.below.mono HKR.out.size))
          have HE0 : Hid (ER w2 w2.heap.size none 0 [] none 0 [] w2) := Lib.hid ⟨Own.nil _ _ _, OwnS.nil _ _ _, (fun q hq => by cases hq), (fun q hq => by cases hq), (fun g hg => by cases hg), Below.refl _ _, Nat.le_refl _⟩
          clear hs64 hclo hnil hpb hpl hplen hpp hgs hgsl hPP hgr hcells KP hgAlt
          go_wp2_with fail
          go_loopw [14, 15, 17, 18, 19, 20, 21, 22] (fun oo xx i _ _ _ _ _ w3 => ∃ (k : Nat) (OA : Option Addr) (OC : Nat) (out : List UInt8) (XA : Option Addr) (XC : Nat) (IX : List Pv), k ≤ gs.length ∧ i = .int .i64 (k : Int) ∧ oo = .slice OA out.length OC ∧ xx = .slice XA IX.length XC ∧ Hid (out = (Tb.emits (PP.take k)).out ∧ IX.map Pv.pr = (Tb.emits (PP.take k)).index ∧ ∀ j (hj : j < PP.length), j < k → Tb.fits (Tb.blkB 16 PP[j]) = true) ∧ Hid (ER w2 w2.heap.size OA OC out XA XC IX w3)) (fun _ _ i _ _ _ _ _ _ => gs.length - (intOf i).toNat)
          case atStart => exact ⟨0, none, 0, [], none, 0, [], by omega, rfl, rfl, rfl, Lib.hid ⟨rfl, rfl, fun j _ h => by omega⟩, HE0⟩
          case round =>
            obtain ⟨k, OA, OC, out, XA, XC, IX, hk, rfl, rfl, rfl, HC, HER⟩ := hrel
            clear HE0
            by_cases hlt : k < gs.length
            · obtain ⟨g, hg⟩ : ∃ g, g = gs[k] := ⟨_, rfl⟩
              have hgm : g ∈ gs := by rw [hg]; exact List.getElem_mem hlt
              have hgc := HCELLS.out k hlt
              rw [← hg] at hgc
              have hb3 := HER.out.below
              have cg := (hb3.cell (p := ⟨gA, k, none⟩) HGALT.out).trans hgc
              have hrd := HGR.out.rdp hgm
              obtain ⟨hk2, hPk⟩ := HGS.out k hlt
              rw [← hg] at hPk
              have HPK := Lib.hid hPk
              have hPm : g.pr ∈ PP := by rw [← hPk]; exact List.getElem_mem hk2
              have hgb := HPB.out _ hPm
              have hgn := HNIL.out _ hPm
              have hgl := HPLEN.out _ hPm
              have hpl0 : 0 < g.ps.length := List.length_pos_iff.2 (fun e => hgn (by unfold Gv.pr; rw [e]; rfl))
              have hgll : g.ps.length ≤ 20000 := by unfold Gv.pr at hgl; rw [List.length_map] at hgl; omega
              have hsz : ∀ p ∈ g.ps, p.k.length ≤ 100000 ∧ p.v.length ≤ 100000 := fun p hp => by
                have := hgb p.pr (List.mem_map.2 ⟨p, hp, rfl⟩)
                exact ⟨Nat.le_trans this.1 (by omega), Nat.le_trans this.2 (by omega)⟩
              obtain ⟨gb, goff, hgA2, hgbl, hrow2⟩ := hrd.row2 hpl0
              have KB := rblk_bytes g.A g.c g.ps _ ((hrd.below hb3 (Nat.le_refl _)).more HER.out.size) (by omega) hsz
              rw [show g.ps.map Pv.pr = g.pr from rfl] at KB
              obtain ⟨BB, hBB⟩ : ∃ BB, BB = Tb.blkB 16 g.pr := ⟨_, rfl⟩
              rw [← hBB] at KB
              have HKB := Lib.hid KB
              have hBBl : BB.length ≤ 70368744177664 := by
                rw [hBB]
                exact Nat.le_trans (blkB_len 16 _ (fun p hp => by
                  have := hgb p hp
                  exact ⟨Nat.le_trans this.1 (by omega), Nat.le_trans this.2 (by omega)⟩)) (by unfold Gv.pr; rw [List.length_map]; omega)
              obtain ⟨n0, hn0⟩ : ∃ n0, g.ps.length = n0 + 1 := ⟨g.ps.length - 1, by omega⟩
              have clast := (hrow2 n0 (by omega)).1
              have HOKQ : Hid (RdB w2 w2.heap.size (g.ps[n0]'(by omega)).kA (g.ps[n0]'(by omega)).k ∧ (g.ps[n0]'(by omega)).k.length ≤ (g.ps[n0]'(by omega)).kc ∧ (g.ps[n0]'(by omega)).kc ≤ 9223372036854775807) := Lib.hid (by
                have h1 := hrd.ok _ (List.getElem_mem (by omega : n0 < g.ps.length))
                exact ⟨h1.key, h1.kc, h1.kcm⟩)
              have HLAST : Hid (((g.pr.getLast?).map Pr.k).getD [] = (g.ps[n0]'(by omega)).k) := Lib.hid (by
                unfold Gv.pr
                rw [List.getLast?_map, List.getLast?_eq_getElem?, List.getElem?_eq_getElem (by omega)]
                simp [hn0, Pv.pr])
              obtain ⟨q0, hq0⟩ : ∃ q0 : Pv, q0 = g.ps[n0]'(by omega) := ⟨_, rfl⟩
              rw [← hq0] at clast HOKQ HLAST
              have HCL := Lib.hid (fun (w' : World) (hb' : Below w2.heap.size w2 w') => (hb'.cell (p := ⟨gb, goff + n0 * 2, none⟩) hgbl).trans clast)
              have HCG := Lib.hid (fun (w' : World) (hb' : Below w2.heap.size w2 w') => (hb'.cell (p := ⟨gA, k, none⟩) HGALT.out).trans hgc)
              have HBB := Lib.hid hBB
              have HPM := Lib.hid hPm
              have HBBL := Lib.hid hBBl
              obtain ⟨pn, hpn⟩ : ∃ pn, pn = g.ps.length := ⟨_, rfl⟩
              rw [← hpn] at cg HCG HKB hgll hn0
              obtain ⟨gAd, hgAd⟩ : ∃ gAd, gAd = g.A := ⟨_, rfl⟩
              obtain ⟨gcd, hgcd⟩ : ∃ gcd, gcd = g.c := ⟨_, rfl⟩
              rw [← hgAd, ← hgcd] at cg HCG HKB
              rw [← hgAd] at hgA2
              subst hgA2
              have HN0 := Lib.hid hn0
              have HGBL := Lib.hid hgbl
              have HGLL := Lib.hid hgll
              clear hn0 hgbl hgll hBBl
              clear hgc hb3 hrd hPm hgb hgn hgl hpl0 hsz hrow2 clast KB hBB hq0 hpn hgAd hgcd hgm hg
              go_wp2_with fail
              refine HKB.out.mono ?_
              rintro e w4 ⟨A1, c1, xe, rfl, hoB, hb4⟩
              have HE4 := Lib.hid (HER.out.call hb4)
              have KF := Lib.hid (rfput_any 68 A1 c1 BB w4 hoB.rd HBBL.out)
              clear hoB hb4 cg
              go_wp2_with fail
              refine KF.out.mono ?_
              rintro e w5 ⟨hb5, ⟨hnf, rfl⟩ | ⟨hf, FA, fc, rfl, hoF⟩⟩
              · have HG := Lib.hid (gives_two (w := w) (w' := w5) (Tb.build_over HNO.out HSO.out (g := g.pr) (by rw [← HPP.out]; exact HPM.out) (by unfold Tb.fits; rw [← HBB.out]; exact hnf)) (HBW2.out.trans ((HE4.out.below.trans (hb5.mono HE4.out.size)).mono HBW2.out.size)))
                clear hnf hb5
                go_wp2_with fail
                go_ret2
                exact HG.out
              have hbl5 : BB.length ≤ 65536 := of_decide_eq_true hf
              obtain ⟨F, hF⟩ : ∃ F, F = Frm.put 68 BB := ⟨_, rfl⟩
              rw [← hF] at hoF ⊢
              have HFE : Hid (F = Tb.putL 68 BB) := Lib.hid (by unfold Tb.putL; rw [if_pos hbl5]; exact hF)
              have HFL : Hid (F.length ≤ 100000) := Lib.hid (by rw [HFE.out]; exact putL_len 68 BB)
              have HFT : Hid (Tb.fits BB = true) := Lib.hid hf
              have HE5 := Lib.hid (HE4.out.call hb5)
              have HXLT : Hid (∀ g, blk XA = some g → g < w4.heap.size) := Lib.hid (fun g hg => (HE4.out.idx.blk_ge g hg).2)
              have HOF5 := Lib.hid hoF
              have HBS5 : Hid (w2.heap.size ≤ w4.heap.size) := Lib.hid HE4.out.size
              have cg5 := HCG.out w5 HE5.out.below
              have cl5 := HCL.out w5 HE5.out.below
              have hpn1 : pn = n0 + 1 := HN0.out
              have hsum : IntKind.i64.wrap ((pn : Int) - 1) = (n0 : Int) := by have := HGLL.out; rw [IntKind.wrap_i64]; omega
              have hi0 : (0 : Int) ≤ (n0 : Int) := by omega
              have hi1 : (n0 : Int) < (pn : Int) := by omega
              have HOL : Hid (out.length ≤ 2000000000) := Lib.hid (by
                have h1 := (Tb.emits_bd PP HNIL.out HPB.out (by have := HGL.out; omega) k (by have := HGL.out; omega)).1
                rw [HC.out.1]; omega)
              clear hf hbl5 hF hb5 hoF HE4 KF hpn1
              go_wp2_with fail
              go_quiet (fail)
              refine drewN_any ?_
              intro X hbX hXh
              have HEX := Lib.hid (HE5.out.call hbX)
              have HOX := Lib.hid (HOF5.out.below hbX)
              have hl1 := HOL.out
              have hl2' := HFL.out
              have KN := Lib.hid (rnumsT_any X.heap.size 2 [out.length, F.length] (by simp) (by simp; omega) (X.alloc (.cells #[.int .i64 (out.length : Int), .int .i64 (F.length : Int)] 3)) (fun k hk => by
                match k, hk with
                | 0, _ => rw [cell_of_row _ X.heap.size 0 _ _ (0, 0) (heap_alloc_new X _)]; rfl
                | 1, _ => rw [cell_of_row _ X.heap.size 1 _ _ (0, 0) (heap_alloc_new X _)]; rfl) (by simp))
              clear hbX hXh cg5 cl5 hsum hi0 hi1 hl1 hl2' HE5 HOF5
              go_wp2_with fail
              refine KN.out.mono ?_
              rintro e w6 ⟨NA, nc, rfl, hoN, hb6⟩
              obtain ⟨NM, hNM⟩ : ∃ NM, NM = Tb.nums [out.length, F.length] := ⟨_, rfl⟩
              rw [← hNM] at hoN ⊢
              have hb16 : Below X.heap.size X w6 := ((Below.refl _ _).alloc (Nat.le_refl _) _).trans (hb6.mono (by simp))
              have HE6 := Lib.hid (HEX.out.call hb16)
              have HOF6 := Lib.hid (HOX.out.below hb16)
              have HNO6 : Hid (Own w6 w2.heap.size 5 NA nc NM) := Lib.hid (hoN.mono (by have := HEX.out.size; simp; omega))
              have HOFF : Hid (Off [blk OA, blk XA] (blk NA)) := Lib.hid (Off.fresh (n := X.heap.size) (fun g hg => by
                have h1 := (hoN.blk_ge g hg).1
                have h2 : X.heap.size + 1 ≤ g := by simpa using h1
                omega) (fun g hg => by
                simp only [List.mem_cons, List.not_mem_nil, or_false] at hg
                rcases hg with h1 | h1
                · exact (HEX.out.out.blk_ge g h1.symm).2
                · exact (HEX.out.idx.blk_ge g h1.symm).2))
              have HIXL : Hid (IX.length ≤ 20000) := Lib.hid (by
                have h1 := (Tb.emits_bd PP HNIL.out HPB.out (by have := HGL.out; omega) k (by have := HGL.out; omega)).2.1
                rw [← HC.out.2.1, List.length_map] at h1; omega)
              have HNME := Lib.hid hNM
              obtain ⟨q, hq⟩ : ∃ q : Pv, q = ⟨q0.kA, q0.kc, q0.k, NA, nc, NM⟩ := ⟨_, rfl⟩
              have HQE := Lib.hid hq
              clear hoN hNM hb6 hb16 HEX HOX KN hq
              go_wp2_with (at_builtin; refine wpList_append_s _ rfl _ _ pairT rfl w2.heap.size XA XC IX rfl (HE6.out.idx.alloc _) (w6.heap.size + 1) (some ⟨w6.heap.size, 0, none⟩) 1 1 [⟨q0.kA, q0.kc, q0.k, NA, nc, NM⟩] rfl rfl (rd_pair_new w6 ⟨q0.kA, q0.kc, q0.k, NA, nc, NM⟩) (by have := HIXL.out; simp; omega) (by have := HIXL.out; unfold maxLen; simp; omega) (by have := HE6.out.size; simp; omega) ?_)
              intro XA' XC' LX w7 hLX hoX hgX hatX
              rw [← HQE.out] at hLX
              have hbA : Below w6.heap.size w6 (w6.alloc (.cells #[.slice q0.kA q0.k.length q0.kc, .slice NA NM.length nc] 48)) := (Below.refl _ _).alloc (Nat.le_refl _) _
              have HE7 : Hid (ER w2 w2.heap.size OA OC out XA' XC' LX w7) := Lib.hid (by
                rw [hLX]
                exact (HE6.out.call hbA).app_idx (by rw [HQE.out]; exact HOKQ.out) (by rw [HQE.out]; exact HNO6.out.alloc _) (by rw [HQE.out]; exact HOFF.out) (by rw [← hLX]; exact hoX) hgX (by simpa using hatX))
              have HOF7 := Lib.hid ((HOF6.out.alloc _).kept hgX (by
                rcases hx : blk FA with _ | g
                · exact .inl rfl
                · refine .inr (fun e => ?_)
                  have h1 := (HOF6.out.blk_ge g hx).1
                  have h2 := HXLT.out g e.symm
                  omega))
              have HLX := Lib.hid hLX
              have hl1 := HOL.out
              have hl2' := HFL.out
              clear hLX hoX hgX hatX hbA HE6 HOF6 HNO6 HOFF
              go_wp2_with (at_builtin; refine wpList_append_b _ rfl _ _ bt rfl w2.heap.size OA OC out rfl HE7.out.out _ FA F.length fc F rfl rfl HOF7.out.rd (by omega) HE7.out.size ?_)
              intro OA' OC' LO w8 hLO hoO hgO hatO
              have HE8 := Lib.hid (HE7.out.app_out hoO hgO hatO)
              have HC2 : Hid (LO = (Tb.emits (PP.take (k + 1))).out ∧ LX.map Pv.pr = (Tb.emits (PP.take (k + 1))).index ∧ ∀ j (hj : j < PP.length), j < k + 1 → Tb.fits (Tb.blkB 16 PP[j]) = true) := Lib.hid (by
                have hkp : k < PP.length := by have := HGL.out; omega
                have hpk : PP[k] = g.pr := HPK.out
                rw [Tb.emits_succ PP k hkp, Tb.emit_eq _ _ (HNIL.out _ (List.getElem_mem hkp)), hpk, HLAST.out, ← HBB.out, ← HFE.out, ← HC.out.1]
                refine ⟨hLO, ?_, fun j hj h1 => ?_⟩
                · rw [HLX.out, List.map_append, HC.out.2.1, HQE.out, ← HNME.out]; rfl
                · by_cases hjk : j = k
                  · subst hjk; rw [hpk, ← HBB.out]; exact HFT.out
                  · exact HC.out.2.2 j hj (by omega))
              clear hLO hoO hgO hatO HE7 HOF7 hl1 hl2'
              go_wp2_with fail
              go_roundw
              case rel => exact ⟨k + 1, OA', OC', LO, XA', XC', LX, by omega, by go_num, rfl, rfl, HC2, HE8⟩
              case measure => simp [intOf]; omega
            · obtain rfl : k = gs.length := by omega
              obtain ⟨w3, hw3⟩ : ∃ w3, w3 = wr := ⟨_, rfl⟩
              subst hw3
              have hC := HC.out
              rw [show PP.take gs.length = PP by rw [HGL.out, List.take_length]] at hC
              have hfit : ∀ x ∈ PP, Tb.fits (Tb.blkB 16 x) = true := fun x hx => by
                obtain ⟨j, hj, rfl⟩ := List.mem_iff_getElem.1 hx
                exact hC.2.2 j hj (by have := HGL.out; omega)
              have hbd := Tb.emits_bd PP HNIL.out HPB.out (by have := HGL.out; omega) PP.length (Nat.le_refl _)
              rw [List.take_length] at hbd
              have HST : Hid ((⟨out, IX, [], 0, false⟩ : Wr).st = Tb.close (Tb.run size l)) := Lib.hid (by
                rw [HCLO.out, Tb.emits_form PP (by intro e; have h1 := HGL.out; rw [e] at h1; simp only [List.length_nil] at h1; omega) HNIL.out hfit]
                simp only [Wr.st, hC.2.1, ← hC.1]; rfl)
              have HOL : Hid (out.length ≤ 2000000000) := Lib.hid (by have h1 := hbd.1; rw [← hC.1] at h1; have h2 : PP.length ≤ 20000 := (by have := HGL.out; omega); omega)
              have HIXL : Hid (IX.length ≤ 20000 ∧ ∀ p ∈ IX, p.k.length ≤ 100000 ∧ p.v.length ≤ 100000) := Lib.hid ⟨by
                have h1 := hbd.2.1
                rw [← hC.2.1, List.length_map] at h1
                have := HGL.out; omega, fun p hp => by
                have h1 := hbd.2.2 p.pr (by rw [← hC.2.1]; exact List.mem_map.2 ⟨p, hp, rfl⟩)
                exact ⟨Nat.le_trans h1.1 (by omega), Nat.le_trans h1.2 (by omega)⟩⟩
              have hzE : ((bits.toNat : Nat) : Int) = bits := by have := HB6.out; omega
              obtain ⟨B, hB⟩ : ∃ B, B = Blm.build bits.toNat (l.map Rv.k) := ⟨_, rfl⟩
              have KBL := rbbuild_any bits.toNat (by have := HB6.out; omega) (by have := HB6.out; omega) KA KC (l.map Rv.bs) _ ((HRK2.out.below HER.out.below (Nat.le_refl _)).more HER.out.size) (by simp; omega) (fun p hp => by
                obtain ⟨r, hr, rfl⟩ := List.mem_map.1 hp
                have := (Tb.right_iff _).1 (HR.out r hr)
                exact ⟨by show 0 < r.k.length; omega, by show r.k.length ≤ 100000; omega⟩)
              rw [hzE, List.length_map, List.map_map, show (Bs.l ∘ Rv.bs) = Rv.k from rfl, ← hB] at KBL
              have HKBL := Lib.hid KBL
              have HBE := Lib.hid hB
              have HBL : Hid (B.length ≤ 70368744177664) := Lib.hid (by
                rw [hB, ← Blm.upto_all, Blm.upto_len]
                have h1 := HB6.out
                unfold Blm.size
                have : bits.toNat * (l.map Rv.k).length ≤ 32 * 20000 := Nat.mul_le_mul (by omega) (by simp; omega)
                omega)
              clear hC hfit hbd hzE KBL hB
              go_wp2_with fail
              refine HKBL.out.mono ?_
              rintro e w4 ⟨hb4, ⟨hbad, _⟩ | ⟨_, FA, fc, rfl, hoB⟩⟩
              · exact absurd rfl hbad
              have HE4 := Lib.hid (HER.out.call hb4)
              have HS4 : Hid (w3.heap.size ≤ w4.heap.size) := Lib.hid hb4.size
              have HOB4 := Lib.hid hoB
              obtain ⟨XX, hXX⟩ : ∃ XX, XX = Tb.blkB 16 (IX.map Pv.pr) := ⟨_, rfl⟩
              have KX := Lib.hid (rblk_bytes XA XC IX w4 HE4.out.rdpv (by have := HIXL.out.1; omega) HIXL.out.2)
              rw [← hXX] at KX
              have HXE := Lib.hid hXX
              have HXL : Hid (XX.length ≤ 70368744177664) := Lib.hid (by
                rw [hXX]
                refine Nat.le_trans (blkB_len 16 _ (fun p hp => ?_)) (by have := HIXL.out.1; simp; omega)
                obtain ⟨q, hq, rfl⟩ := List.mem_map.1 hp
                exact HIXL.out.2 q hq)
              clear hb4 hoB hXX HKBL
              go_wp2_with fail
              refine KX.out.mono ?_
              rintro e w5 ⟨XB, xc, xe, rfl, hoX, hb5⟩
              have HE5 := Lib.hid (HE4.out.call hb5)
              have HS5 : Hid (w4.heap.size ≤ w5.heap.size) := Lib.hid hb5.size
              have HOB5 := Lib.hid (HOB4.out.below hb5)
              have HOX5 := Lib.hid hoX
              clear hb5 hoX KX HE4 HOB4
              go_wp2_with fail
              have hlh := Tb.lohi_bd l HR.out hp l.length (Nat.le_refl _)
              rw [Tb.lowK_all, Tb.highK_all] at hlh
              have hLH := HLH.out
              rw [Tb.lowK_all, Tb.highK_all] at hLH
              obtain ⟨NL, hNL⟩ : ∃ NL : List Nat, NL = [size.toNat, bits.toNat, l.length, (Tb.low l).toNat, (Tb.high l).toNat] := ⟨_, rfl⟩
              have v0 : ((size.toNat : Nat) : Int) = size := by have := HB6.out; omega
              have v1 : ((bits.toNat : Nat) : Int) = bits := by have := HB6.out; omega
              have v3 : (((Tb.low l).toNat : Nat) : Int) = L := by rw [hLH.1]; omega
              have v4 : (((Tb.high l).toNat : Nat) : Int) = H := by rw [hLH.2]; omega
              have KN := Lib.hid (rnumsT_any w5.heap.size 5 [size.toNat, bits.toNat, l.length, (Tb.low l).toNat, (Tb.high l).toNat] (by simp) (by
                  intro n hn
                  have := HB6.out
                  simp only [List.mem_cons, List.not_mem_nil, or_false] at hn
                  rcases hn with h | h | h | h | h <;> omega)
                (w5.alloc (.cells #[.int .i64 size, .int .i64 bits, .int .i64 (l.length : Int), .int .i64 L, .int .i64 H] 3)) (fun k hk => by
                  match k, hk with
                  | 0, _ => rw [cell_of_row _ w5.heap.size 0 _ _ (0, 0) (heap_alloc_new w5 _)]; show _ = some (Value.int .i64 ((size.toNat : Nat) : Int)); rw [v0]; rfl
                  | 1, _ => rw [cell_of_row _ w5.heap.size 1 _ _ (0, 0) (heap_alloc_new w5 _)]; show _ = some (Value.int .i64 ((bits.toNat : Nat) : Int)); rw [v1]; rfl
                  | 2, _ => rw [cell_of_row _ w5.heap.size 2 _ _ (0, 0) (heap_alloc_new w5 _)]; rfl
                  | 3, _ => rw [cell_of_row _ w5.heap.size 3 _ _ (0, 0) (heap_alloc_new w5 _)]; show _ = some (Value.int .i64 (((Tb.low l).toNat : Nat) : Int)); rw [v3]; rfl
                  | 4, _ => rw [cell_of_row _ w5.heap.size 4 _ _ (0, 0) (heap_alloc_new w5 _)]; show _ = some (Value.int .i64 (((Tb.high l).toNat : Nat) : Int)); rw [v4]; rfl) (by simp))
              obtain ⟨N, hN⟩ : ∃ N, N = Tb.nums [size.toNat, bits.toNat, l.length, (Tb.low l).toNat, (Tb.high l).toNat] := ⟨_, rfl⟩
              rw [← hN] at KN
              have hNl : N.length ≤ 70368744177664 := by
                have := Tb.nums_len [size.toNat, bits.toNat, l.length, (Tb.low l).toNat, (Tb.high l).toNat] (by
                  intro n hn
                  have := HB6.out
                  simp only [List.mem_cons, List.not_mem_nil, or_false] at hn
                  rcases hn with h | h | h | h | h <;> omega) 5 (by simp)
                rw [List.take_of_length_le (by simp)] at this
                rw [hN]; omega
              have HNE := Lib.hid hN
              have HNLn := Lib.hid hNl
              clear hlh hLH hNL v0 v1 v3 v4 hN hNl
              have hbase5 := HE5.out.size
              refine KN.out.mono ?_
              rintro e w6 ⟨NA, nc, rfl, hoN, hb6⟩
              have hb56 : Below w5.heap.size w5 w6 := ((Below.refl _ _).alloc (Nat.le_refl _) _).trans (hb6.mono (by simp))
              have HE6 := Lib.hid (HE5.out.call hb56)
              have HS6 : Hid (w5.heap.size ≤ w6.heap.size) := Lib.hid hb56.size
              have HOB6 := Lib.hid (HOB5.out.below hb56)
              have HOX6 := Lib.hid (HOX5.out.below hb56)
              have HON6 := Lib.hid hoN
              clear hoN hb6 hb56 KN hbase5 HE5 HOB5 HOX5
              go_wp2_with fail
              have hbZ : Below w6.heap.size w6 ((w6.alloc (.cells #[.slice FA B.length fc, .slice XB XX.length xc, .slice NA N.length nc] 25)).alloc (.cells #[.int .u8 70, .int .u8 73, .int .u8 90] 5)) := ((Below.refl _ _).alloc (Nat.le_refl _) _).alloc (by simp) _
              have HE7 := Lib.hid (HE6.out.call hbZ)
              have HOB7 := Lib.hid (HOB6.out.below hbZ)
              have HOX7 := Lib.hid (HOX6.out.below hbZ)
              have HON7 := Lib.hid (HON6.out.below hbZ)
              have HGP7 : Hid (((w6.alloc (.cells #[.slice FA B.length fc, .slice XB XX.length xc, .slice NA N.length nc] 25)).alloc (.cells #[.int .u8 70, .int .u8 73, .int .u8 90] 5)).heap[w6.heap.size]? = some (.cells #[.slice FA B.length fc, .slice XB XX.length xc, .slice NA N.length nc] 25)) := Lib.hid (by
                have h1 := ((Below.refl _ _).alloc (Nat.le_refl _) (.cells #[.int .u8 70, .int .u8 73, .int .u8 90] 5) : Below (w6.alloc (.cells #[.slice FA B.length fc, .slice XB XX.length xc, .slice NA N.length nc] 25)).heap.size (w6.alloc (.cells #[.slice FA B.length fc, .slice XB XX.length xc, .slice NA N.length nc] 25)) _)
                exact (h1.block w6.heap.size (by simp)).trans (heap_alloc_new w6 _))
              have HGK7 : Hid (((w6.alloc (.cells #[.slice FA B.length fc, .slice XB XX.length xc, .slice NA N.length nc] 25)).alloc (.cells #[.int .u8 70, .int .u8 73, .int .u8 90] 5)).heap[w6.heap.size + 1]? = some (.cells #[.int .u8 70, .int .u8 73, .int .u8 90] 5)) := Lib.hid (by
                have h1 := heap_alloc_new (w6.alloc (.cells #[.slice FA B.length fc, .slice XB XX.length xc, .slice NA N.length nc] 25)) (.cells #[.int .u8 70, .int .u8 73, .int .u8 90] 5)
                simpa using h1)
              have HZ7 : Hid (((w6.alloc (.cells #[.slice FA B.length fc, .slice XB XX.length xc, .slice NA N.length nc] 25)).alloc (.cells #[.int .u8 70, .int .u8 73, .int .u8 90] 5)).heap.size = w6.heap.size + 2) := Lib.hid (by simp)
              obtain ⟨w7, hw7⟩ : ∃ w7, ((w6.alloc (.cells #[.slice FA B.length fc, .slice XB XX.length xc, .slice NA N.length nc] 25)).alloc (.cells #[.int .u8 70, .int .u8 73, .int .u8 90] 5)) = w7 := ⟨_, rfl⟩
              rw [hw7] at HE7 HOB7 HOX7 HON7 HGP7 HGK7 HZ7 ⊢
              obtain ⟨D, hD⟩ : ∃ D : List (UInt8 × Bs), D = [(70, ⟨FA, fc, B⟩), (73, ⟨XB, xc, XX⟩), (90, ⟨NA, nc, N⟩)] := ⟨_, rfl⟩
              have HD := Lib.hid hD
              have HF0 : Hid (FR w7 w2.heap.size w3.heap.size OA OC out w7) := Lib.hid ⟨HE7.out.out, fun _ _ _ => rfl, fun g hg => .inl (HER.out.out.blk_ge g hg).2, Below.refl _ _, HE7.out.size, Nat.le_refl _⟩
              clear hw7 hbZ hD
              go_loopw [14, 29, 30, 31] (fun oo i _ _ w8 => ∃ (k : Nat) (OA : Option Addr) (OC : Nat) (o2 : List UInt8), k ≤ 3 ∧ i = .int .i64 (k : Int) ∧ oo = .slice OA o2.length OC ∧ Hid (o2 = out ++ (D.take k).flatMap (fun p => Tb.putL p.1 p.2.l) ∧ ∀ j (hj : j < D.length), j < k → Tb.fits D[j].2.l = true) ∧ Hid (FR w7 w2.heap.size w3.heap.size OA OC o2 w8)) (fun _ i _ _ _ => 3 - (intOf i).toNat)
              case atStart => exact ⟨0, OA, OC, out, by omega, rfl, rfl, Lib.hid ⟨by simp, fun j _ h => by omega⟩, HF0⟩
              case round =>
                obtain ⟨k, OA4, OC4, o2, hk, rfl, rfl, HC4, HFR⟩ := hrel
                have HFC := Lib.hid (fun (hlt : k < 3) => four_cells HFR.out (Nat.le_trans HS4.out (Nat.le_trans HS5.out HS6.out)) HZ7.out HGP7.out HGK7.out HOB7.out HOX7.out HON7.out (Nat.le_refl _) HS4.out (Nat.le_trans HS4.out (Nat.le_trans HS5.out (by simp))) k hlt)
                have HFE := Lib.hid (four_end (tb_end HNO.out HSO.out ⟨out, IX, [], 0, false⟩ HST.out B XX N HBE.out HXE.out HNE.out) D HD.out)
                have HW8 : Hid (Below w.heap.size w wr) := Lib.hid (HBW2.out.trans ((HE7.out.below.trans HFR.out.below).mono HBW2.out.size))
                have HBWZ : Hid (w.heap.size ≤ w2.heap.size) := Lib.hid HBW2.out.size
                have HDE : Hid (∀ d, [((70, ⟨FA, fc, B⟩) : UInt8 × Bs), (73, ⟨XB, xc, XX⟩), (90, ⟨NA, nc, N⟩)][k]? = some d → ∃ h : k < D.length, D[k] = d) := Lib.hid (fun d hd => by
                  rw [← HD.out] at hd
                  obtain ⟨h1, h2⟩ := List.getElem?_eq_some_iff.1 hd
                  exact ⟨h1, h2⟩)
                have HDS : Hid (∀ d ∈ D, d.2.l.length ≤ 70368744177664) := Lib.hid (fun d hd => by
                  rw [HD.out] at hd
                  simp only [List.mem_cons, List.not_mem_nil, or_false] at hd
                  rcases hd with rfl | rfl | rfl
                  · exact HBL.out
                  · exact HXL.out
                  · exact HNLn.out)
                have HOL4 : Hid (o2.length ≤ 2000500000) := Lib.hid (by
                  have h1 := HOL.out
                  have h2 : ((D.take k).flatMap (fun p => Tb.putL p.1 p.2.l)).length ≤ k * 100000 := by
                    refine Nat.le_trans (len_flat (c := 100000) _ (fun p _ => putL_len p.1 p.2.l)) ?_
                    exact Nat.mul_le_mul_right _ (List.length_take_le _ _)
                  rw [HC4.out.1, List.length_append]
                  have h3 : k * 100000 ≤ 3 * 100000 := Nat.mul_le_mul_right _ hk
                  omega)
                by_cases hlt : k < 3
                · obtain ⟨d, hd, cp, ck, hrd⟩ := HFC.out hlt
                  obtain ⟨hdl, hde⟩ := HDE.out d hd
                  have hdm : d ∈ D := by rw [← hde]; exact List.getElem_mem hdl
                  have hds := HDS.out d hdm
                  have HDM := Lib.hid hdm
                  have HDL : Hid (∃ h : k < D.length, D[k] = d) := Lib.hid ⟨hdl, hde⟩
                  have HHH : Hid (∀ w', Below wr.heap.size wr w' → RdB w' w'.heap.size d.2.A d.2.l) := Lib.hid (fun w' hb => (hrd.below hb (Nat.le_refl _)).more hb.size)
                  have hi0 : (0 : Int) ≤ (k : Int) := by omega
                  have hi1 : (k : Int) < 3 := by omega
                  have HZW : Hid (w6.heap.size + 1 < wr.heap.size) := Lib.hid (by have := HFR.out.size; rw [HZ7.out] at this; omega)
                  have HKEEP : Hid (∀ w', Below wr.heap.size wr w' → w'.cell? ⟨w6.heap.size, k, none⟩ = some (.slice d.2.A d.2.l.length d.2.c) ∧ w'.cell? ⟨w6.heap.size + 1, k, none⟩ = some (.int .u8 (d.1.toNat : Int)) ∧ Below wr.heap.size wr w') := Lib.hid (fun w' hb =>
                    ⟨(hb.cell (p := ⟨w6.heap.size, k, none⟩) (by have := HZW.out; simp; omega)).trans cp, (hb.cell (p := ⟨w6.heap.size + 1, k, none⟩) (by have := HZW.out; simpa using this)).trans ck, hb⟩)
                  by_cases hfit : d.2.l.length ≤ 65536
                  · have KP : Hid (∀ w', Below wr.heap.size wr w' → _) := Lib.hid (fun w' hb => rfput_yes d.1 d.2.A d.2.c d.2.l w' (HHH.out w' hb) hfit)
                    have HC5 : Hid (o2 ++ Frm.put d.1 d.2.l = out ++ (D.take (k + 1)).flatMap (fun p => Tb.putL p.1 p.2.l) ∧ ∀ j (hj : j < D.length), j < k + 1 → Tb.fits D[j].2.l = true) := Lib.hid ⟨by
                      rw [List.take_succ_eq_append_getElem hdl, hde, List.flatMap_append, HC4.out.1, List.append_assoc]
                      simp [Tb.putL, hfit], fun j hj h1 => by
                      by_cases hjk : j = k
                      · subst hjk; rw [hde]; simp [Tb.fits, hfit]
                      · exact HC4.out.2 j hj (by omega)⟩
                    have HPL : Hid ((Frm.put d.1 d.2.l).length ≤ 100000) := Lib.hid (by have := putL_len d.1 d.2.l; unfold Tb.putL at this; rwa [if_pos hfit] at this)
                    obtain ⟨F, hF⟩ : ∃ F, F = Frm.put d.1 d.2.l := ⟨_, rfl⟩
                    rw [← hF] at HC5 HPL KP
                    obtain ⟨⟨kx, dA, dc, dl⟩, hdd⟩ : ∃ d', d' = d := ⟨_, rfl⟩
                    subst hdd
                    simp only at cp ck HKEEP KP
                    obtain ⟨kn, hkn⟩ : ∃ kn, kn = kx.toNat := ⟨_, rfl⟩
                    rw [← hkn] at ck HKEEP KP
                    clear hF hd hdl hde hdm hds hrd hfit HDL HDM HHH hkn
                    go_wp2_with fail
                    go_region_held (fun w' => w'.cell? ⟨w6.heap.size, k, none⟩ = some (.slice dA dl.length dc) ∧ w'.cell? ⟨w6.heap.size + 1, k, none⟩ = some (.int .u8 (kn : Int)) ∧ Below wr.heap.size wr w')
                      (first | exact HKEEP.out _ ((Below.refl _ _).drew) | exact HKEEP.out _ B3)
                      (first | (go_at_call 26; refine (KP.out _ (by go_split_ands; assumption)).mono ?_; rintro e w1 ⟨FA5, fc5, rfl, ho5, hb1⟩; have B3 := Below.trans (b := _) (by go_split_ands; assumption : Below wr.heap.size wr _) (hb1.mono (by go_split_ands; exact Below.size (by assumption)))))
                    have HFR5 := Lib.hid (HFR.out.call B3)
                    have HOF := Lib.hid ho5
                    have hl1 := HOL4.out
                    have hl2' := HPL.out
                    clear cp ck B3 ho5 hb1 KP HKEEP
                    go_wp2_with (at_builtin; refine wpList_append_b _ rfl _ _ bt rfl w2.heap.size OA4 OC4 o2 rfl HFR5.out.out _ FA5 F.length fc5 F rfl rfl HOF.out.rd (by omega) (Nat.le_trans HFR5.out.base HFR5.out.size) ?_)
                    intro OA5 OC5 LO w9 hLO hoO hgO hatO
                    have HFR6 := Lib.hid (HFR5.out.app hoO hgO hatO)
                    rw [← hLO] at HC5
                    clear hLO hoO hgO hatO hl1 hl2' HFR5 HOF
                    go_wp2_with fail
                    go_roundw
                    case rel => exact ⟨k + 1, OA5, OC5, LO, by omega, by go_num, rfl, HC5, HFR6⟩
                    case measure => simp [intOf]; omega
                  · have KP : Hid (∀ w', Below wr.heap.size wr w' → _) := Lib.hid (fun w' hb => rfput_no d.1 d.2.A d.2.c d.2.l w' (HHH.out w' hb) hds hfit)
                    have HG : Hid (∀ w', Below wr.heap.size wr w' → GivesR w (Tb.build l size bits).1 (Tb.build l size bits).2 (.returned (.tuple #[.slice none 0 0, .int .i64 2])) w') := Lib.hid (fun w' hb => gives_two (HFE.out.2 d hdm hfit) (HW8.out.trans (hb.mono HW8.out.size)))
                    obtain ⟨⟨kx, dA, dc, dl⟩, hdd⟩ : ∃ d', d' = d := ⟨_, rfl⟩
                    subst hdd
                    simp only at cp ck HKEEP KP
                    obtain ⟨kn, hkn⟩ : ∃ kn, kn = kx.toNat := ⟨_, rfl⟩
                    rw [← hkn] at ck HKEEP KP
                    clear hd hdl hde hdm hds hrd hfit HDL HDM HHH hkn
                    go_wp2_with fail
                    go_region_held (fun w' => w'.cell? ⟨w6.heap.size, k, none⟩ = some (.slice dA dl.length dc) ∧ w'.cell? ⟨w6.heap.size + 1, k, none⟩ = some (.int .u8 (kn : Int)) ∧ Below wr.heap.size wr w')
                      (first | exact HKEEP.out _ ((Below.refl _ _).drew) | exact HKEEP.out _ B3)
                      (first | (go_at_call 26; refine (KP.out _ (by go_split_ands; assumption)).mono ?_; rintro e w1 ⟨rfl, hb1⟩; have B3 := Below.trans (b := _) (by go_split_ands; assumption : Below wr.heap.size wr _) (hb1.mono (by go_split_ands; exact Below.size (by assumption)))))
                    go_wp2_with fail
                    go_ret2
                    exact HG.out _ B3
                · obtain rfl : k = 3 := by omega
                  have h9 := (HFE.out.1 (HC4.out.2))
                  rw [← HC4.out.1] at h9
                  have HG := Lib.hid (gives_well (w := w) h9 HW8.out (HFR.out.out.mono HBWZ.out))
                  clear h9 hlt
                  go_wp2_with fail
                  go_ret2
                  exact HG.out
end Go.Proofs.YtgafionfojnieaaDoor

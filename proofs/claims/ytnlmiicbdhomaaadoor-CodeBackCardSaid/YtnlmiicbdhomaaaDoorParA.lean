/- The contracts of the program's number and text. -/
import Derived.Test.YtnlmiicbdhomaaaDoorPar
import Derived.Test.YtnlmiicbdhomaaaDoorTakD
namespace Go.Proofs.YtnlmiicbdhomaaaDoor
open Go.RowKit

theorem results_c3 {P : Program} {fn : Func} {p u v : Tmp} {ty : TypeId} (h : fn.results = #[.cell p ty, .tmp u, .tmp v]) (tmps : Array Value) (w : World) (g : Nat) (t : TypeId) (cs : Array Value) (fr : Nat × Nat) (d : TypeDesc)
    (hp : tmps.getD p undef = .pointer (some ⟨g, 0, none⟩)) (hg : w.heap[g]? = some (.cells cs t fr)) (hu : P.underlying ty = some d) (hd : (match d, hu with | .struct _, _ => true | .array _ _, _ => true | _, _ => false) = true) (hs : (P.info? ty).map (fun x => x.size) = some cs.size) :
    (results fn tmps).run P w = .ok (.tuple #[.agg cs, tmps.getD u undef, tmps.getD v undef]) w := by
  have h1 := results_cell_row (P := P) (fn := { fn with results := #[.cell p ty] }) (p := p) (ty := ty) rfl tmps w g t cs fr d hp hg hu hd hs
  have h2 : ((asAddr (tmps.getD p undef)).run P w).andThen (fun a w1 => (loadVar ty a).run P w1) = .ok (.agg cs) w := by
    simpa [results] using h1
  rw [hp] at h2
  have h3 : (loadVar ty ⟨g, 0, none⟩).run P w = .ok (.agg cs) w := by simpa [asAddr] using h2
  have hp2 := hp
  simp at hp2
  simp [results, h, asAddr, hp2, h3]
theorem part_size : (Tryd.prog.info? 41).map (fun x => x.size) = some 3 := by kernel_rfl

theorem heap_two (w : World) (o p : Obj) : ((w.alloc o).alloc p).drew.heap[w.heap.size]? = some o :=
  (heap_alloc_old (w.alloc o) p (by simp)).trans (heap_alloc_new w o)
theorem join8 {n x : Nat} (hn : n < 72057594037927936) (hx : x < 256) : bits .or .u64 ((n : Int) * 256) (x : Int) = ((n * 256 + x : Nat) : Int) := by
  have e1 : ((n : Int) * 256) = ((n * 256 : Nat) : Int) := by omega
  rw [e1, u64_or_nat _ _ (by omega) (by omega), nat_join8 (n * 256) x (by omega) (by omega)]
def PtV (p : Pt) : Value := .agg #[.bool p.t, .int .u64 (p.n : Int), .string p.s]
/-- What was taken: a part, as Go's three results. -/
def TakenP (w : World) (B : Nat) (v : Option (Pt × List UInt8)) (e : Ending) (w' : World) : Prop :=
  Below w.heap.size w w' ∧ match v with
  | none => e = .returned (.tuple #[PtV ⟨false, 0, .empty⟩, .slice none 0 0, .int .i64 3])
  | some (p, y) => ∃ A c, e = .returned (.tuple #[PtV p, .slice A y.length c, .int .i64 0]) ∧ y.length ≤ c ∧ c ≤ 9223372036854775807 ∧ RdB w' B A y
theorem rdB_on2 {w w' : World} {B : Nat} {A : Option Addr} {l : List UInt8} (h : RdB w B A l) (hb : Below w.heap.size w w') (hB : B ≤ w.heap.size) : RdB w' B A l := h.below hb hB
theorem takenP_none {w w' : World} {B : Nat} {v : Option (Pt × List UInt8)} (hv : v = none) (hb : Below w.heap.size w w') : TakenP w B v (.returned (.tuple #[PtV ⟨false, 0, .empty⟩, .slice none 0 0, .int .i64 3])) w' := by
  subst hv; exact ⟨hb, rfl⟩

theorem takenP_some {w w' : World} {B : Nat} {v : Option (Pt × List UInt8)} {p q : Pt} {y : List UInt8} {A : Option Addr} {k c : Nat} (hv : v = some (p, y)) (hb : Below w.heap.size w w') (hpq : q = p) (hk : k = y.length) (hc : y.length ≤ c) (hcc : c ≤ 9223372036854775807) (hr : RdB w' B A y) :
    TakenP w B v (.returned (.tuple #[PtV q, .slice A k c, .int .i64 0])) w' := by
  subst hv hpq hk; exact ⟨hb, A, c, rfl, hc, hcc, hr⟩
set_option maxHeartbeats 1000000 in
set_option maxRecDepth 100000 in
theorem num_any (t : UInt8) (A : Option Addr) (c : Nat) (b : List UInt8) (w : World) (x : Nat) (hx : x = t.toNat) (B : Nat) (hB : B ≤ w.heap.size) (h : RdB w B A b) (hl : b.length ≤ 140737488355328) (hc : b.length ≤ c) (hcc : c ≤ 9223372036854775807) :
    Calls Tryd.prog 34 #[.int .u8 (x : Int), .slice A b.length c] w (TakenP w B (Cod.num t b)) := by
  have hal : ∀ o, Below w.heap.size w (w.alloc o) := fun o => (Below.refl _ _).alloc (Nat.le_refl _) o
  have HAL := Lib.hid hal; clear hal
  by_cases h1 : x < 16
  · have e : Cod.num t b = none := by unfold Cod.num; rw [← hx, if_pos (.inl h1)]
    have HE := Lib.hid e; clear e
    have h1' : (x : Int) - 16 < 0 := by omega
    go_enter Tryd.func34, Tryd.ntmps34
    go_wp2
    refine bodyPost_ret (results_c3 rfl _ _ w.heap.size 41 #[.bool false, .int .u64 0, .string ⟨#[]⟩] _ _ rfl (heap_alloc_new _ _) Tryd.underlying41 rfl part_size) rfl ?_
    exact takenP_none HE.out (HAL.out _)
  · obtain ⟨W, hxW⟩ : ∃ W, x = 16 + W := ⟨x - 16, by omega⟩
    have htW : t.toNat = 16 + W := by omega
    have hW : (x : Int) - 16 = (W : Int) := by omega
    have hW0 : ¬ ((W : Int) < 0) := by omega
    have hxb : (x : Int) < 256 := by have := t.toNat_lt; omega
    have HTW := Lib.hid htW
    clear h1 hxW hx htW
    by_cases h8 : (8 : Int) < (W : Int)
    · have e : Cod.num t b = none := by unfold Cod.num; rw [HTW.out, if_pos (.inr (.inl (by omega)))]
      have HE := Lib.hid e; clear e
      go_enter Tryd.func34, Tryd.ntmps34
      go_wp2
      refine bodyPost_ret (results_c3 rfl _ _ w.heap.size 41 #[.bool false, .int .u64 0, .string ⟨#[]⟩] _ _ rfl (heap_alloc_new _ _) Tryd.underlying41 rfl part_size) rfl ?_
      exact takenP_none HE.out (HAL.out _)
    · by_cases hbW : b.length < W
      · have e : Cod.num t b = none := by unfold Cod.num; rw [HTW.out, if_pos (.inr (.inr (.inl (by omega))))]
        have HE := Lib.hid e; clear e
        go_enter Tryd.func34, Tryd.ntmps34
        go_wp2
        refine bodyPost_ret (results_c3 rfl _ _ w.heap.size 41 #[.bool false, .int .u64 0, .string ⟨#[]⟩] _ _ rfl (heap_alloc_new _ _) Tryd.underlying41 rfl part_size) rfl ?_
        exact takenP_none HE.out (HAL.out _)
      · by_cases hW1 : 0 < W
        · obtain ⟨g, off, rfl, hab, hcell0⟩ := h.at_ (k := 0) (by omega)
          rw [Nat.add_zero] at hcell0
          have hab2 : g < w.heap.size := by omega
          by_cases hz : (b[0]'(by omega)) = 0
          · have e : Cod.num t b = none := by
              unfold Cod.num
              rw [HTW.out, if_pos (.inr (.inr (.inr ⟨by omega, by rw [List.head?_eq_getElem?, List.getElem?_eq_getElem (by omega), hz]⟩)))]
            have HE := Lib.hid e; clear e
            have hz0 : (b[0]'(by omega)).toNat = 0 := by rw [hz]; rfl
            rw [hz0] at hcell0
            clear hz hz0
            go_enter Tryd.func34, Tryd.ntmps34
            go_wp2
            refine bodyPost_ret (results_c3 rfl _ _ w.heap.size 41 #[.bool false, .int .u64 0, .string ⟨#[]⟩] _ _ rfl (heap_alloc_new _ _) Tryd.underlying41 rfl part_size) rfl ?_
            exact takenP_none HE.out (HAL.out _)
          · have e : Cod.num t b = some (⟨false, Cod.val 0 (b.take W), .empty⟩, b.drop W) := by
              unfold Cod.num
              have e1 : 16 + W - 16 = W := by omega
              rw [HTW.out, e1, if_neg]
              rintro (h1 | h1 | h1 | ⟨_, h1⟩)
              · omega
              · omega
              · omega
              · rw [List.head?_eq_getElem?, List.getElem?_eq_getElem (by omega)] at h1
                injection h1 with h1
                exact hz h1
            have HE := Lib.hid e; clear e
            have hz0 : (b[0]'(by omega)).toNat ≠ 0 := fun e => hz (UInt8.toNat_inj.1 (by rw [e]; rfl))
            obtain ⟨y, hy⟩ : ∃ y, y = (b[0]'(by omega)).toNat := ⟨_, rfl⟩
            rw [← hy] at hcell0 hz0
            have hz1 : ((y : Int) == 0) = false := by simp; omega
            clear hz hy
            go_enter Tryd.func34, Tryd.ntmps34
            go_wp2
            have HH := Lib.hid h
            have hn1 : W ≤ b.length := by omega
            go_loopw [41, 10] (fun i q wr => ∃ k n : Nat, k ≤ W ∧ i = .int .i64 (k : Int) ∧ Hid (n = Cod.val 0 (b.take k)) ∧ wr = (w.alloc (.cells #[.bool false, .int .u64 0, .string ⟨#[]⟩] 41)).alloc (.cells #[.bool false, .int .u64 (n : Int), .string ⟨#[]⟩] 41)) (fun i _ _ => W - (intOf i).toNat)
            case atStart => exact ⟨0, 0, by omega, rfl, Lib.hid rfl, rfl⟩
            case round =>
              clear hcell0 h
              obtain ⟨k, n, hk, rfl, HN, rfl⟩ := hrel
              by_cases hlt : k < W
              · obtain ⟨g', off', e0, _, hcell⟩ := HH.out.at_ (k := k) (by omega)
                injection e0 with e0
                injection e0 with e1 e2
                subst e1 e2
                have hN := HN.out
                have hnb : n < 256 ^ 7 := by
                  have h1 := Cod.val_bound (b.take k) 0
                  have h2 : (b.take k).length ≤ 7 := by rw [List.length_take]; omega
                  have h3 : (256 : Nat) ^ (b.take k).length ≤ 256 ^ 7 := Nat.pow_le_pow_right (by omega) h2
                  rw [hN]; omega
                have h256 : (256 : Nat) ^ 7 = 72057594037927936 := by decide
                rw [h256] at hnb
                have hxx := b[k].toNat_lt
                obtain ⟨v, hv⟩ : ∃ v, v = (b[k]'(by omega)).toNat := ⟨_, rfl⟩
                rw [← hv] at hcell hxx
                have hj := join8 (n := n) (x := v) (by omega) (by omega)
                have hnext : Hid (n * 256 + v = Cod.val 0 (b.take (k + 1))) := Lib.hid (by
                  rw [List.take_succ_eq_append_getElem (by omega), Cod.val_snoc, ← hN, ← hv])
                have hv2 : (v : Int) < 256 := by omega
                have hn2 : (n : Int) < 72057594037927936 := by omega
                clear hN hnb hv hxx HN
                go_wp2
                go_roundw
                case rel => exact ⟨k + 1, n * 256 + v, by omega, by go_num, hnext, rfl⟩
                case measure => simp [intOf]; omega
              · have hkW : k = W := by omega
                subst hkW
                have hn := HN.out
                have HNN := Lib.hid hn; clear hn HN
                have hcut := HH.out.cut (k := k) (c := c) (by omega) hc
                have HC := Lib.hid hcut; clear hcut
                have hbl : Below w.heap.size w ((w.alloc (.cells #[.bool false, .int .u64 (n : Int), .string ⟨#[]⟩] 41)).alloc (.cells #[.bool false, .int .u64 (n : Int), .string ⟨#[]⟩] 41)).drew := ((HAL.out _).alloc (by simp) _).drew
                have HBL := Lib.hid hbl; clear hbl
                go_wp2
                go_region
                go_wp2
                all_goals refine bodyPost_ret (results_c3 rfl _ _ w.heap.size 41 #[.bool false, .int .u64 (n : Int), .string ⟨#[]⟩] _ _ rfl (heap_two _ _ _) Tryd.underlying41 rfl part_size) rfl ?_
                all_goals exact takenP_some (q := ⟨false, n, .empty⟩) HE.out HBL.out (by rw [HNN.out]) (by simp) (by simp; omega) (by omega) (by
                  have q := rdB_on2 HC.out HBL.out hB
                  first
                    | exact q
                    | (rw [if_pos (by assumption)] at q; exact q)
                    | (rw [if_neg (by assumption)] at q; exact q))
        · obtain rfl : W = 0 := by omega
          have e : Cod.num t b = some (⟨false, 0, .empty⟩, b) := by
            unfold Cod.num
            rw [HTW.out, if_neg]
            · simp [Cod.val]
            · rintro (h1 | h1 | h1 | ⟨h2, h1⟩)
              · omega
              · omega
              · omega
              · omega
          have HE := Lib.hid e; clear e
          have HH := Lib.hid h; clear h
          have hbl : Below w.heap.size w ((w.alloc (.cells #[.bool false, .int .u64 0, .string ⟨#[]⟩] 41)).alloc (.cells #[.bool false, .int .u64 0, .string ⟨#[]⟩] 41)).drew := ((HAL.out _).alloc (by simp) _).drew
          have HBL := Lib.hid hbl; clear hbl
          have hx0 : (x : Int) - 16 = 0 := by omega
          clear hW
          cases A with
          | none =>
            go_enter Tryd.func34, Tryd.ntmps34
            go_wp2
            refine wp_loop_rounds 1 ?_
            rw [rounds_succ]
            go_wp2
            go_region
            go_wp2
            all_goals refine bodyPost_ret (results_c3 rfl _ _ w.heap.size 41 #[.bool false, .int .u64 0, .string ⟨#[]⟩] _ _ rfl (heap_two _ _ _) Tryd.underlying41 rfl part_size) rfl ?_
            all_goals exact takenP_some (q := ⟨false, 0, .empty⟩) HE.out HBL.out rfl rfl hc hcc (rdB_on2 HH.out HBL.out hB)
          | some ad =>
            go_enter Tryd.func34, Tryd.ntmps34
            go_wp2
            refine wp_loop_rounds 1 ?_
            rw [rounds_succ]
            go_wp2
            go_region
            go_wp2
            all_goals refine bodyPost_ret (results_c3 rfl _ _ w.heap.size 41 #[.bool false, .int .u64 0, .string ⟨#[]⟩] _ _ rfl (heap_two _ _ _) Tryd.underlying41 rfl part_size) rfl ?_
            all_goals exact takenP_some (q := ⟨false, 0, .empty⟩) HE.out HBL.out rfl rfl hc hcc (rdB_on2 HH.out HBL.out hB)
end Go.Proofs.YtnlmiicbdhomaaaDoor

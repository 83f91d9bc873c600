/- Parts of the proof, one behind the other: Contracts of the store: named, meet.; Contracts of the store: meet.; Contracts of the store: the closures of its changes; change.; A store of which a file is new, or has turned.; Contracts of the store: change.; Contracts of the store: Create.; Contracts of the store: with.; Contracts of the store: Sync, Remove.; Contracts of the store: Remove.; Contracts of the store: Rename.; Contracts of the store: Rename, walked. -/
import Derived.Test.YtekbdedpombgcaaGreatDoorMrg20
import Derived.Test.YtekbdedpombgcaaGreatDoorMrg44
import Derived.Test.YtekbdedpombgcaaGreatDoorMrg05
import Derived.Maps.OwnOps
import Derived.StringKeys
import Derived.Maps.OwnSet
import Derived.Deep.QuietTactic
import Derived.BigQuiet
import Derived.Test.YtekbdedpombgcaaGreatDoorMrg01
namespace Go.Proofs.YtekbdedpombgcaaGreatDoor
open Go.RowKit Go.Maps

namespace Sto
def S1 (n : Str) : List Value := [str n]
theorem str_size (n : Str) : (⟨n.toArray⟩ : ByteArray).size = n.length := by simp [ByteArray.size]
theorem isName_no {n : Str} {j : Nat} (hj : j < n.length) (h : nameChar n[j] = false) : isName n = false := by
  unfold isName
  rw [Bool.and_eq_false_iff]
  exact .inr (List.all_eq_false.2 ⟨_, List.getElem_mem hj, by rw [h]; decide⟩)
theorem isName_yes {n : Str} (h1 : 1 ≤ n.length) (h2 : n.length ≤ 64) (h : ∀ j (hj : j < n.length), nameChar n[j] = true) : isName n = true := by
  unfold isName
  rw [Bool.and_eq_true]
  refine ⟨decide_eq_true ⟨h1, h2⟩, List.all_eq_true.2 fun c hc => ?_⟩
  obtain ⟨j, hj, e⟩ := List.getElem_of_mem hc
  rw [← e]; exact h j hj
theorem isName_size {n : Str} (h : ¬ (1 ≤ n.length ∧ n.length ≤ 64)) : isName n = false := by
  unfold isName
  rw [Bool.and_eq_false_iff]
  exact .inl (decide_eq_false h)
theorem all_no {l : List Str} {k : Nat} (hk : k < l.length) (h : isName l[k] = false) : l.all isName = false := List.all_eq_false.2 ⟨_, List.getElem_mem hk, by rw [h]; decide⟩
theorem nameChar_iff (c : UInt8) (x : Nat) (hx : x = c.toNat) : nameChar c = decide ((97 ≤ x ∧ x ≤ 122) ∨ (48 ≤ x ∧ x ≤ 57) ∨ x = 45 ∨ x = 46) := by
  subst hx
  unfold nameChar
  refine decide_eq_decide.2 ?_
  rw [UInt8.le_iff_toNat_le, UInt8.le_iff_toNat_le, UInt8.le_iff_toNat_le, UInt8.le_iff_toNat_le, ← UInt8.toNat_inj, ← UInt8.toNat_inj]
  exact Iff.rfl
set_option maxHeartbeats 4000000 in
set_option maxRecDepth 100000 in
theorem named_any (A : Option Addr) (c : Nat) (l : List Str) (w : World) (h : RdS S1 1 w w.heap.size A l) (hl : l.length ≤ 1000) (hn : ∀ n ∈ l, n.length ≤ 9223372036854775807) :
    Calls Tryz.prog 34 #[.slice A l.length c] w fun e w' => e = .returned (.bool (l.all isName)) ∧ Below w.heap.size w w' := by
  have HR := Lib.hid h
  have HN := Lib.hid hn
  clear h hn
  obtain ⟨q, hq⟩ : ∃ q, q = l.all isName := ⟨_, rfl⟩
  rw [← hq]
  have HQ := Lib.hid hq
  clear hq
  go_enter Tryz.func34, Tryz.ntmps34
  go_wp2_with fail
  go_loopw [9] (fun i wr => ∃ k : Nat, k ≤ l.length ∧ i = .int .i64 (k : Int) ∧ Hid (Below w.heap.size w wr) ∧ Hid (∀ j (hj : j < l.length), j < k → isName l[j] = true)) (fun i _ => l.length - (intOf i).toNat)
  case atStart => exact ⟨0, by omega, rfl, Lib.hid (Below.refl _ _), Lib.hid (fun j hj hk => by omega)⟩
  case round =>
    obtain ⟨k, hk, rfl, HB, HJ⟩ := hrel
    by_cases hlt : k < l.length
    · obtain ⟨b, off, hA, hb, hc⟩ := RdS.row (f := S1) (n := 1) (fun _ => rfl) (by omega) HR.out (by omega)
      have c0 := hc k hlt 0 _ rfl
      rw [Nat.add_zero, Nat.mul_one] at c0
      have q0 := (HB.out.cell (p := ⟨b, off + k, none⟩) hb).trans c0
      obtain ⟨n, hne⟩ : ∃ n, n = l[k] := ⟨_, rfl⟩
      rw [← hne] at q0
      have hnl : n.length ≤ 9223372036854775807 := HN.out n (by rw [hne]; exact List.getElem_mem _)
      have HNO : Hid (isName n = false → q = false) := Lib.hid (fun h => by rw [HQ.out]; exact all_no hlt (by rw [← hne]; exact h))
      have HYES : Hid (isName n = true → ∀ j (hj : j < l.length), j < k + 1 → isName l[j] = true) := Lib.hid (fun h j hj hjk => by
        rcases Nat.lt_or_ge j k with h3 | h3
        · exact HJ.out j hj h3
        · obtain rfl : j = k := by omega
          rw [← hne]; exact h)
      subst hA
      clear c0 hc hne
      unfold str at q0
      obtain ⟨S, hS⟩ : ∃ S, S = (⟨n.toArray⟩ : ByteArray) := ⟨_, rfl⟩
      rw [← hS] at q0
      obtain ⟨L, hL⟩ : ∃ L, L = n.length := ⟨_, rfl⟩
      have hsz : S.size = L := by rw [hS, hL]; exact str_size n
      have HS := Lib.hid hS
      have HL := Lib.hid hL
      clear hS hL
      rw [HL.out.symm] at hnl
      by_cases h0 : L = 0
      · have hS0 : S = ⟨#[]⟩ := by
          rw [HS.out]
          have := HL.out
          rw [h0] at this
          rw [List.length_eq_zero_iff.1 this.symm]
        have hq0 := HNO.out (isName_size (by have := HL.out; omega))
        subst hS0
        clear hsz
        go_wp2_with fail
        go_ret
        exact ⟨by first | rfl | (rw [hq0]; rfl), HB.out⟩
      · have hS0 : S.toList.isEmpty = false := by
          rw [HS.out, ByteArray.toList_eq]
          have := HL.out
          cases n with
          | nil => exact absurd this h0
          | cons a n => rfl
        by_cases h64 : (64 : Int) < (L : Int)
        · have hq0 := HNO.out (isName_size (by have := HL.out; omega))
          go_wp2_with fail
          go_ret
          exact ⟨by first | rfl | (rw [hq0]; rfl), HB.out⟩
        · have hL64 : L ≤ 64 := by omega
          have HX : Hid (1 ≤ n.length ∧ n.length ≤ 64) := Lib.hid (by have := HL.out; omega)
          go_wp2_with (with_reducible refine at_conv ?_; refine wpList_conv_b _ rfl (.tmp 20) bt Tryz.underlying9 rfl S rfl (by omega) ?_; intro cp w3 hcp1 hcp2 hr3 hb3 hz3; rw [hsz])
          have HR3 : Hid (RdB w3 w3.heap.size (some ⟨wr.heap.size, 0, none⟩) n) := Lib.hid (by
            have := HS.out
            rw [this] at hr3
            exact hr3)
          have HB3 := Lib.hid (HB.out.trans (hb3.mono HB.out.size))
          rw [hsz] at hcp1
          clear hr3 hb3 hz3 q0 hS0
          go_loopw [23] (fun i wr2 => ∃ j : Nat, j ≤ L ∧ i = .int .i64 (j : Int) ∧ wr2 = w3 ∧ Hid (∀ z (hz : z < n.length), z < j → nameChar n[z] = true)) (fun i _ => L - (intOf i).toNat)
          case atStart => exact ⟨0, by omega, rfl, rfl, Lib.hid (fun z hz hj => by omega)⟩
          case round =>
            obtain ⟨j, hj, rfl, rfl, HZ⟩ := hrel
            by_cases hjl : j < L
            · have hjn : j < n.length := by have := HL.out; omega
              obtain ⟨x, hx⟩ : ∃ x : Nat, x = n[j].toNat := ⟨_, rfl⟩
              obtain ⟨gg, oo, he, hlt2, hc3⟩ := HR3.out.at_ hjn
              simp only [Option.some.injEq, Addr.mk.injEq] at he
              obtain ⟨he1, he2, _⟩ := he
              subst he1 he2
              rw [Nat.zero_add, ← hx] at hc3
              have hch := nameChar_iff n[j] x hx
              have HCH := Lib.hid hch
              have HBAD : Hid (nameChar n[j] = false → q = false) := Lib.hid (fun h => HNO.out (isName_no hjn h))
              have HGOOD : Hid (nameChar n[j] = true → ∀ z (hz : z < n.length), z < j + 1 → nameChar n[z] = true) := Lib.hid (fun h z hz hzj => by
                rcases Nat.lt_or_ge z j with h3 | h3
                · exact HZ.out z hz h3
                · obtain rfl : z = j := by omega
                  exact h)
              clear hx hch hlt2
              have hcases : (97 ≤ x ∧ x ≤ 122) ∨ (48 ≤ x ∧ x ≤ 57) ∨ x = 45 ∨ x = 46 ∨ ((x < 48 ∧ x ≠ 45 ∧ x ≠ 46) ∨ (58 ≤ x ∧ x < 97) ∨ 122 < x) := by omega
              rcases hcases with ⟨t1, t2⟩ | ⟨t1, t2⟩ | t1 | t1 | ⟨t1, t2, t3⟩ | ⟨t1, t2⟩ | t1
              · have HG := Lib.hid (HGOOD.out (by rw [HCH.out]; simp; omega))
                go_wp2_with fail
                go_roundw
                case rel => exact ⟨j + 1, by omega, by simp, trivial, HG⟩
                case measure =>
                  show L - ((j : Int) + 1).toNat < L - ((j : Int)).toNat
                  omega
              · have HG := Lib.hid (HGOOD.out (by rw [HCH.out]; simp; omega))
                go_wp2_with fail
                go_roundw
                case rel => exact ⟨j + 1, by omega, by simp, trivial, HG⟩
                case measure =>
                  show L - ((j : Int) + 1).toNat < L - ((j : Int)).toNat
                  omega
              · subst t1
                have HG := Lib.hid (HGOOD.out (by rw [HCH.out]; rfl))
                go_wp2_with fail
                go_roundw
                case rel => exact ⟨j + 1, by omega, by simp, trivial, HG⟩
                case measure =>
                  show L - ((j : Int) + 1).toNat < L - ((j : Int)).toNat
                  omega
              · subst t1
                have HG := Lib.hid (HGOOD.out (by rw [HCH.out]; rfl))
                go_wp2_with fail
                go_roundw
                case rel => exact ⟨j + 1, by omega, by simp, trivial, HG⟩
                case measure =>
                  show L - ((j : Int) + 1).toNat < L - ((j : Int)).toNat
                  omega
              · have hq0 := HBAD.out (by rw [HCH.out]; simp; omega)
                have e1 : ((x : Int) == 45) = false := by simp; omega
                have e2 : ((x : Int) == 46) = false := by simp; omega
                have e3 : ((x : Int) != 45) = true := by simp; omega
                have e4 : ((x : Int) != 46) = true := by simp; omega
                go_wp2_with fail
                go_ret
                exact ⟨by first | rfl | (rw [hq0]; rfl), HB3.out⟩
              · have hq0 := HBAD.out (by rw [HCH.out]; simp; omega)
                have e1 : ((x : Int) == 45) = false := by simp; omega
                have e2 : ((x : Int) == 46) = false := by simp; omega
                have e3 : ((x : Int) != 45) = true := by simp; omega
                have e4 : ((x : Int) != 46) = true := by simp; omega
                go_wp2_with fail
                go_ret
                exact ⟨by first | rfl | (rw [hq0]; rfl), HB3.out⟩
              · have hq0 := HBAD.out (by rw [HCH.out]; simp; omega)
                have e1 : ((x : Int) == 45) = false := by simp; omega
                have e2 : ((x : Int) == 46) = false := by simp; omega
                have e3 : ((x : Int) != 45) = true := by simp; omega
                have e4 : ((x : Int) != 46) = true := by simp; omega
                go_wp2_with fail
                go_ret
                exact ⟨by first | rfl | (rw [hq0]; rfl), HB3.out⟩
            · have HOK := Lib.hid (HYES.out (isName_yes HX.out.1 HX.out.2 (fun z hz => HZ.out z hz (by have := HL.out; omega))))
              go_wp2_with fail
              go_roundw
              case rel => exact ⟨k + 1, by omega, by simp, HB3, HOK⟩
              case measure =>
                show l.length - ((k : Int) + 1).toNat < l.length - ((k : Int)).toNat
                omega
    · have hq1 : q = true := by
        rw [HQ.out]
        refine List.all_eq_true.2 fun n hn => ?_
        obtain ⟨j, hj, e⟩ := List.getElem_of_mem hn
        rw [← e]; exact HJ.out j hj (by omega)
      go_wp2_with fail
      go_ret
      exact ⟨by first | rfl | (rw [hq1]; rfl), HB.out⟩
end Sto
end Go.Proofs.YtekbdedpombgcaaGreatDoor

namespace Go.Proofs.YtekbdedpombgcaaGreatDoor
open Go.RowKit Go.Maps

namespace Sto
section
variable {w w' : World} {base g : Nat} {s : St} {m : Mem}
theorem grownBy_setS (w : World) (p : Addr) (v : Value) : w.grownBy (w.setCell p v) (some p.block) := ⟨rfl, rfl, rfl, by simp, fun k _ hk => heap_setCell_other w p k v (fun e => hk (by rw [e]))⟩
theorem heap_setG {x0 x1 x2 x3 x4 x5 : Value} {T : TypeId} (h : w.heap[g]? = some (.cells #[x0, x1, x2, x3, x4, x5] T)) (v : Value) :
    (w.setCell ⟨g, 1, none⟩ v).heap[g]? = some (.cells #[x0, v, x2, x3, x4, x5] T) ∧ (w.setCell ⟨g, 2, none⟩ v).heap[g]? = some (.cells #[x0, x1, v, x3, x4, x5] T) ∧ (w.setCell ⟨g, 3, none⟩ v).heap[g]? = some (.cells #[x0, x1, x2, v, x4, x5] T) ∧
    (w.setCell ⟨g, 4, none⟩ v).heap[g]? = some (.cells #[x0, x1, x2, x3, v, x5] T) ∧ (w.setCell ⟨g, 5, none⟩ v).heap[g]? = some (.cells #[x0, x1, x2, x3, x4, v] T) := by
  refine ⟨?_, ?_, ?_, ?_, ?_⟩
  · have := heap_setCell_same w g 1 _ T v h; simpa using this
  · have := heap_setCell_same w g 2 _ T v h; simpa using this
  · have := heap_setCell_same w g 3 _ T v h; simpa using this
  · have := heap_setCell_same w g 4 _ T v h; simpa using this
  · have := heap_setCell_same w g 5 _ T v h; simpa using this
/-- The cells of a store. -/
theorem StAt.cells (h : StAt w base g s m) : w.cell? ⟨g, 0, none⟩ = some (.int .i64 s.room) ∧ w.cell? ⟨g, 1, none⟩ = some (.map (some m.mn)) ∧ w.cell? ⟨g, 2, none⟩ = some (.map (some m.md)) ∧ w.cell? ⟨g, 3, none⟩ = some (.slice m.KA m.vs.length m.kc) ∧ w.cell? ⟨g, 4, none⟩ = some (.slice m.PA s.plan.length m.pc) ∧ w.cell? ⟨g, 5, none⟩ = some (.bool s.off) := by
  have hb := h.box
  unfold stObj at hb
  refine ⟨?_, ?_, ?_, ?_, ?_, ?_⟩
  all_goals (rw [cell_of_row w g _ _ _ (0, 0) hb]; rfl)
theorem StAt.frozen (h : StAt w base g s m) (j : Nat) : w.frozen? ⟨g, j, none⟩ = false := frozen_of_row w g j _ _ h.box
theorem StAt.setG (h : StAt w base g s m) (j : Nat) (v : Value) : StR (w.setCell ⟨g, j, none⟩ v) base g s m :=
  h.r.keep (by simp) ⟨_, _, heap_setCell_same w g j _ _ v h.box⟩ (fun k hk hne _ => heap_setCell_other w ⟨g, j, none⟩ k v (fun e => hne e))
theorem StR.turn (h : StR w base g s m) {p : List UInt8} {o : Bool} {A : Option Addr} {c : Nat} (hp : RdB w w.heap.size A p) (hc : p.length ≤ c) (hm : c ≤ 9223372036854775807) (ho : ∀ k, blk A = some k → blk m.PA = some k) : StR w base g { s with plan := p, off := o } { m with PA := A, pc := c } :=
  ⟨h.gt, h.gb, h.now, h.disk, h.nb, h.db, h.ne, h.bsl, h.rwl, h.fl, h.bb, h.bnd, h.rnd, h.krow, h.kl, h.kok, hp, hc, hm, fun k e => h.poff k (ho k e), h.ok.turn p o⟩
theorem StAt.setOff (h : StAt w base g s m) (o : Bool) : StAt (w.setCell ⟨g, 5, none⟩ (.bool o)) base g { s with off := o } m :=
  ⟨(heap_setG h.box _).2.2.2.2, ((h.setG 5 (.bool o)).turn (h.setG 5 (.bool o)).plan (h.setG 5 (.bool o)).pcap h.r.pmax (fun _ e => e))⟩
theorem StAt.setPlan (h : StAt w base g s m) {p : List UInt8} {A : Option Addr} {c : Nat} (hp : RdB w w.heap.size A p) (hc : p.length ≤ c) (hm : c ≤ 9223372036854775807) (ho : ∀ k, blk A = some k → blk m.PA = some k) : StAt (w.setCell ⟨g, 4, none⟩ (.slice A p.length c)) base g { s with plan := p } { m with PA := A, pc := c } := by
  refine ⟨(heap_setG h.box _).2.2.2.1, ((h.setG 4 _).turn (p := p) (o := s.off) (A := A) (c := c) ?_ hc hm ho)⟩
  refine rdB_keepS hp (by simp) (fun k e hlt => ?_)
  exact heap_setCell_other w _ k _ (fun e2 => (h.r.foot_ne (.inr (.inr (.inr (.inr (.inr (.inl (ho k e)))))))) e2)
theorem Aft.setG (j : Nat) (v : Value) : Aft w (w.setCell ⟨g, j, none⟩ v) g m m := Aft.grown (row := some g) (grownBy_setS w ⟨g, j, none⟩ v) (fun k e _ => .inl (by injection e with e; exact e.symm))
theorem Aft.setPlan (j : Nat) (v : Value) {A : Option Addr} {c : Nat} (ho : ∀ k, blk A = some k → blk m.PA = some k) : Aft w (w.setCell ⟨g, j, none⟩ v) g m { m with PA := A, pc := c } := by
  have h1 : Aft w (w.setCell ⟨g, j, none⟩ v) g m m := Aft.setG j v
  exact ⟨h1.os, h1.tape, h1.output, h1.size, h1.block, h1.turn, fun k hk e => ho k e⟩
end
/-- What meeting comes to. -/
def MeetP (w : World) (base g : Nat) (m : Mem) (x : Int × St) (e : Ending) (w' : World) : Prop := e = .returned (.int .i64 x.1) ∧ ∃ A c, StAt w' base g x.2 { m with PA := A, pc := c } ∧ Aft w w' g m { m with PA := A, pc := c }
set_option maxHeartbeats 2000000 in
set_option maxRecDepth 100000 in
theorem meet_any (A : Option Addr) (c : Nat) (l : List Str) (w : World) (base g : Nat) (s : St) (m : Mem) (h : StAt w base g s m) (hr : RdS S1 1 w w.heap.size A l) (hl : l.length ≤ 1000) (hn : ∀ n ∈ l, n.length ≤ 9223372036854775807) :
    Calls Tryz.prog 157 #[.pointer (some ⟨g, 0, none⟩), .slice A l.length c] w (MeetP w base g m (meet s l)) := by
  have KN := Lib.hid (named_any A c l w hr hl hn)
  have H := Lib.hid h
  clear h hr hn
  obtain ⟨q, hq⟩ : ∃ q, q = l.all isName := ⟨_, rfl⟩
  rw [← hq] at KN
  have HQ := Lib.hid hq
  clear hq
  go_enter Tryz.func157, Tryz.ntmps157
  go_wp2_with fail
  refine KN.out.mono ?_
  rintro e w1 ⟨rfl, hb1⟩
  have H1 := Lib.hid (H.out.below hb1)
  have HA1 : Hid (Aft w w1 g m m) := Lib.hid (Aft.of_below hb1)
  clear hb1
  rcases q with _ | _
  · have HE : Hid (meet s l = (1, s)) := Lib.hid (by unfold meet; rw [← HQ.out]; rfl)
    go_wp2_with fail
    go_ret
    rw [HE.out]
    exact ⟨rfl, m.PA, m.pc, H1.out, HA1.out⟩
  obtain ⟨c0, c1, c2, c3, c4, c5⟩ := H1.out.cells
  obtain ⟨o, ho⟩ : ∃ o, o = s.off := ⟨_, rfl⟩
  rw [← ho] at c5
  have HO := Lib.hid ho
  clear ho c0 c1 c2 c3
  rcases o with _ | _
  · rcases hp : s.plan with _ | ⟨x, p⟩
    · have HE : Hid (meet s l = (0, s)) := Lib.hid (by unfold meet; rw [← HQ.out, ← HO.out, hp]; rfl)
      rw [hp] at c4
      clear hp
      go_wp2_with fail
      go_ret
      rw [HE.out]
      exact ⟨rfl, m.PA, m.pc, H1.out, HA1.out⟩
    · have hpl := H1.out.r.plan
      have hpc := H1.out.r.pcap
      have hpm := H1.out.r.pmax
      rw [hp] at hpl hpc c4
      obtain ⟨pg, po, hPA, hlt, hcell⟩ := hpl.at_ (k := 0) (by simp)
      rw [Nat.add_zero] at hcell
      obtain ⟨X, hX⟩ : ∃ X : Nat, X = x.toNat := ⟨_, rfl⟩
      have hcell2 : w1.cell? ⟨pg, po, none⟩ = some (.int .u8 (X : Int)) := by rw [hX]; exact hcell
      have hdrop := hpl.drop (k := 1) (cap := m.pc) (by simp) hpc
      rw [List.drop_one, List.tail_cons] at hdrop
      obtain ⟨N, hN⟩ : ∃ N, N = p.length := ⟨_, rfl⟩
      have hpn : (x :: p).length = N + 1 := by rw [hN]; rfl
      rw [hpn] at c4 hpc
      rw [hPA] at c4
      obtain ⟨C, hC⟩ : ∃ C, C = m.pc := ⟨_, rfl⟩
      rw [← hC] at c4 hpc hpm hdrop
      have fz4 := H1.out.frozen 4
      have fz5 : ∀ v : Value, (w1.setCell ⟨g, 4, none⟩ v).frozen? ⟨g, 5, none⟩ = false := fun v => frozen_of_row _ g 5 _ _ (heap_setG H1.out.box v).2.2.2.1
      have key : ∀ (A' : Option Addr) (C' : Nat), RdB w1 w1.heap.size A' p → N ≤ C' → C' ≤ C → (A' = some ⟨pg, po, none⟩ ∨ A' = some ⟨pg, po + 1, none⟩) →
          StAt (w1.setCell ⟨g, 4, none⟩ (.slice A' N C')) base g { s with plan := p } { m with PA := A', pc := C' } ∧ Aft w (w1.setCell ⟨g, 4, none⟩ (.slice A' N C')) g m { m with PA := A', pc := C' } := fun A' C' h1 h2 h3 h4 => by
        have hb : ∀ k, blk A' = some k → blk m.PA = some k := fun k e => by
          rw [hPA]
          rcases h4 with h4 | h4 <;> (rw [h4] at e; simpa [blk] using e)
        have := H1.out.setPlan (p := p) (A := A') (c := C') h1 (by omega) (by omega) hb
        rw [← hN] at this
        exact ⟨this, HA1.out.trans (Aft.setPlan 4 _ hb)⟩
      have KEY := Lib.hid key
      have HX := Lib.hid hX
      have HME : Hid (meet s l = if x = 1 then (7, { s with plan := p }) else if x = 2 then (8, { s with plan := p, off := true }) else (0, { s with plan := p })) := Lib.hid (by
        unfold meet
        rw [← HQ.out, ← HO.out, hp]; rfl)
      have HX1 : Hid (x = 1 ↔ X = 1) := Lib.hid (by rw [hX, ← UInt8.toNat_inj]; rfl)
      have HX2 : Hid (x = 2 ↔ X = 2) := Lib.hid (by rw [hX, ← UInt8.toNat_inj]; rfl)
      clear key hX hcell hpl hp hpn hN hC
      have fin : ∀ (A' : Option Addr) (C' : Nat), StAt (w1.setCell ⟨g, 4, none⟩ (.slice A' N C')) base g { s with plan := p } { m with PA := A', pc := C' } ∧ Aft w (w1.setCell ⟨g, 4, none⟩ (.slice A' N C')) g m { m with PA := A', pc := C' } →
          (X = 1 → MeetP w base g m (meet s l) (.returned (.int .i64 7)) (w1.setCell ⟨g, 4, none⟩ (.slice A' N C'))) ∧
          (X = 2 → MeetP w base g m (meet s l) (.returned (.int .i64 8)) ((w1.setCell ⟨g, 4, none⟩ (.slice A' N C')).setCell ⟨g, 5, none⟩ (.bool true))) ∧
          (X ≠ 1 → X ≠ 2 → MeetP w base g m (meet s l) (.returned (.int .i64 0)) (w1.setCell ⟨g, 4, none⟩ (.slice A' N C'))) := fun A' C' ⟨h1, h2⟩ => by
        rw [HME.out]
        refine ⟨fun hx => ?_, fun hx => ?_, fun hx hx2 => ?_⟩
        · rw [if_pos (HX1.out.2 hx)]
          exact ⟨rfl, _, _, h1, h2⟩
        · rw [if_neg (fun e => by have := HX1.out.1 e; omega), if_pos (HX2.out.2 hx)]
          exact ⟨rfl, _, _, h1.setOff true, h2.trans (Aft.setG 5 _)⟩
        · rw [if_neg (fun e => hx (HX1.out.1 e)), if_neg (fun e => hx2 (HX2.out.1 e))]
          exact ⟨rfl, _, _, h1, h2⟩
      have FIN := Lib.hid fin
      clear fin
      by_cases hC1 : C = 1
      · subst hC1
        rw [if_pos rfl, hPA] at hdrop
        have hN0 : N = 0 := by omega
        subst hN0
        have HF := Lib.hid (FIN.out _ _ (KEY.out _ 0 hdrop (by omega) (by omega) (.inl rfl)))
        clear hdrop KEY FIN HME
        by_cases t1 : X = 1
        · subst t1
          go_wp2_with fail
          go_ret
          exact HF.out.1 (by trivial)
        · by_cases t2 : X = 2
          · subst t2
            go_wp2_with fail
            go_ret
            exact HF.out.2.1 (by trivial)
          · have u1 : ((X : Int) == 1) = false := by simp; omega
            have u2 : ((X : Int) == 2) = false := by simp; omega
            have HFF := Lib.hid (HF.out.2.2 t1 t2)
            clear t1 t2
            go_wp2_with fail
            go_ret
            exact HFF.out
      · obtain ⟨D, rfl⟩ : ∃ D, C = D + 2 := ⟨C - 2, by omega⟩
        rw [if_neg (by omega), hPA] at hdrop
        have HF := Lib.hid (FIN.out _ _ (KEY.out (some ⟨pg, po + 1, none⟩) (D + 1) hdrop (by omega) (by omega) (.inr rfl)))
        clear hdrop KEY FIN HME
        by_cases t1 : X = 1
        · subst t1
          go_wp2_with fail
          go_ret
          exact HF.out.1 (by trivial)
        · by_cases t2 : X = 2
          · subst t2
            go_wp2_with fail
            go_ret
            exact HF.out.2.1 (by trivial)
          · have u1 : ((X : Int) == 1) = false := by simp; omega
            have u2 : ((X : Int) == 2) = false := by simp; omega
            have HFF := Lib.hid (HF.out.2.2 t1 t2)
            clear t1 t2
            go_wp2_with fail
            go_ret
            exact HFF.out
  · have HE : Hid (meet s l = (8, s)) := Lib.hid (by unfold meet; rw [← HQ.out, ← HO.out]; rfl)
    go_wp2_with fail
    go_ret
    rw [HE.out]
    exact ⟨rfl, m.PA, m.pc, H1.out, HA1.out⟩
end Sto
end Go.Proofs.YtekbdedpombgcaaGreatDoor

namespace Go.Proofs.YtekbdedpombgcaaGreatDoor
open Go.RowKit Go.Maps

namespace Sto
theorem law : Keyed Tryz.prog 9 := string_keyed Tryz.underlying9
theorem hkey (n : Str) (h : n.length ≤ maxLen) : keyOf Tryz.prog 9 (.string ⟨n.toArray⟩) = some (.string n) := Go.WideMaps.keyOf_string_mk Tryz.underlying9 (by rw [str_size]; exact h)
theorem fnT : RT Tryz.prog 42 262 V1 1 8 (.nilFunc) :=
  ⟨Tryz.underlying42, by kernel_rfl, fun _ => rfl, fun v u hu => by simp [V1] at hu; subst hu; rfl, by omega, rfl⟩
section
variable {w w' : World} {base g : Nat} {s : St} {m : Mem}
/-- A store of which the names now, and what is kept, have turned. -/
theorem StR.remake (h : StR w base g s m) (hs : w.heap.size ≤ w'.heap.size) (ht : Tag w' g 44) (hk : ∀ k, k < w.heap.size → k ≠ g → k ≠ m.mn → blk m.KA ≠ some k → Foot w g m k → w'.heap[k]? = w.heap[k]?)
    {l : Dir} (hd : DirAt w' m.mn m.bs l) {KA : Option Addr} {kc : Nat} {vs : List Cl} (hr : OwnS V1 1 w' base 262 KA kc vs) {kept : List Chg} (hkl : vs.length = kept.length)
    (hko : ∀ (i : Nat) (c : Chg) (v : Cl), kept[i]? = some c → vs[i]? = some v → (s.kept[i]? = some c ∧ m.vs[i]? = some v) ∨ KcOk w' m.bs c v) (hok : Ok { s with now := l, kept := kept }) :
    StR w' base g { s with now := l, kept := kept } { m with KA := KA, kc := kc, vs := vs } := by
  have nk : ∀ {k : Nat} {T : TypeId}, Tag w k T → T ≠ 262 → blk m.KA ≠ some k := fun {k T} hT hn e => (hT.ne (ownTagS h.krow e) hn) rfl
  have hm : ∀ k, (k ∈ m.bs ∨ ∃ r ∈ m.rows, blk r.1 = some k) → w'.heap[k]? = w.heap[k]? := fun k h1 => by
    rcases h1 with e | ⟨r, hr, e⟩
    · have ht := h.bs_tag e
      exact hk k ht.lt (h.foot_ne (.inr (.inr (.inl e)))) (fun e2 => ht.map_ne h.now e2.symm) (nk ht (by decide)) (.inl (.inr (.inr (.inr (.inl e)))))
    · have ht := h.row_tag hr e
      exact hk k ht.lt (h.foot_ne (.inr (.inr (.inr (.inr (.inl ⟨r, hr, e⟩)))))) (fun e2 => ht.map_ne h.now e2.symm) (nk ht (by decide)) (.inl (.inr (.inr (.inr (.inr (.inr ⟨r, hr, e⟩))))))
  have hmd : w'.heap[m.md]? = w.heap[m.md]? := by
    refine hk m.md h.disk.lt (h.foot_ne (.inr (.inl rfl))) (fun e => h.ne e.symm) (fun e => ?_) (.inl (.inr (.inr (.inl rfl))))
    exact (ownTagS h.krow e).map_ne h.disk rfl
  have htg : ∀ k, Tag w k 9 ∨ Tag w k 103 → w'.heap[k]? = w.heap[k]? := fun k e => by
    have hlt : k < w.heap.size := by rcases e with e | e <;> exact e.lt
    refine hk k hlt (h.foot_ne (.inr (.inr (.inr (.inr (.inr (.inr e))))))) (fun e2 => ?_) ?_ (.inr (.inr e))
    · rcases e with e | e <;> exact e.map_ne h.now e2.symm
    · rcases e with e | e <;> exact nk e (by decide)
  have hpa : ∀ k, blk m.PA = some k → k < w.heap.size → w'.heap[k]? = w.heap[k]? := fun k e hlt => by
    have ht := (h.poff k e).2.1
    exact hk k hlt (h.foot_ne (.inr (.inr (.inr (.inr (.inr (.inl e))))))) (fun e2 => ht.map_ne h.now e2.symm) (nk ht (by decide)) (.inr (.inl e))
  refine ⟨ht, h.gb, hd, ownsMap_keepS h.disk hmd, h.nb, h.db, h.ne, h.bsl, h.rwl, fun i hi => ?_, h.bb, h.bnd, h.rnd, hr, hkl, fun i c v hc hv => ?_, ?_, h.pcap, h.pmax, fun k e => ?_, hok⟩
  · have hi' : i < s.files.length := hi
    exact (h.fl i hi').keep (hm _ (.inl (bs_mem (by have := h.bsl; omega)))) (fun k e => hm k (.inr ⟨_, row_mem (by have := h.rwl; omega), e⟩))
  · rcases hko i c v hc hv with ⟨h1, h2⟩ | h1
    · exact (h.kok i c v h1 h2).keep htg
    · exact h1
  · exact rdB_keepS h.plan hs hpa
  · obtain ⟨h1, h2, h3⟩ := h.poff k e
    obtain ⟨cs, fr, h4⟩ := h2
    exact ⟨h1, ⟨cs, fr, (hpa k e (Array.getElem?_eq_some_iff.1 h4).1).trans h4⟩, h3⟩
/-- A change made, and kept. -/
theorem StAt.changed (h : StAt w base g s m) {c : Chg} {v : Cl} {w1 w3 : World} (hg1 : w.grownBy w1 (some m.mn)) (hd : DirAt w1 m.mn m.bs (made s.now c)) {o : Obj} {KA : Option Addr} {kc : Nat} (hg3 : (w1.alloc o).grownBy w3 (blk m.KA))
    (ho : OwnS V1 1 w3 base 262 KA kc (m.vs ++ [v])) (hat : blk KA = blk m.KA ∨ blk KA = some (w1.heap.size + 1)) (hk : KcOk w m.bs c v) (hok : Ok (change s c)) :
    StAt (w3.setCell ⟨g, 3, none⟩ (.slice KA (m.vs ++ [v]).length kc)) base g (change s c) { m with KA := KA, kc := kc, vs := m.vs ++ [v] } ∧ Aft w (w3.setCell ⟨g, 3, none⟩ (.slice KA (m.vs ++ [v]).length kc)) g m { m with KA := KA, kc := kc, vs := m.vs ++ [v] } := by
  have hsz : w.heap.size ≤ w3.heap.size := by have := hg1.size; have := hg3.size; simp at this; omega
  have kg : ∀ k, k < w.heap.size → k ≠ m.mn → blk m.KA ≠ some k → w3.heap[k]? = w.heap[k]? := fun k hlt h1 h2 => by
    have e1 := hg3.block k (by simp; have := hg1.size; omega) (fun e => h2 e.symm)
    rw [e1, Below.heap_alloc _ _ _ (by have := hg1.size; omega)]
    exact hg1.block k hlt (fun e => h1 (by injection e))
  have hgn : g ≠ m.mn := fun e => h.r.gt.map_ne h.r.now e.symm
  have hgk : blk m.KA ≠ some g := fun e => (ownTagS h.r.krow e).ne h.r.gt (by decide) rfl
  have hb3 : w3.heap[g]? = some (stObj m s) := (kg g h.r.gt.lt hgn hgk).trans h.box
  have hmk : blk m.KA ≠ some m.mn := fun e => (ownTagS h.r.krow e).map_ne h.r.now rfl
  have hd3 : DirAt w3 m.mn m.bs (made s.now c) := by
    refine ownsMap_keepS hd ?_
    have hlt : m.mn < w1.heap.size := hd.lt
    rw [hg3.block m.mn (by simp; omega) (fun e => hmk e.symm), Below.heap_alloc _ _ _ hlt]
  have hmn : m.mn ≠ g := fun e => hgn e.symm
  have hKg : blk KA ≠ some g := fun e => by
    rcases hat with h1 | h1
    · exact hgk (h1 ▸ e)
    · rw [h1] at e
      injection e with e
      have := h.r.gt.lt; have := hg1.size
      omega
  refine ⟨⟨(heap_setG hb3 _).2.2.1, ?_⟩, ?_⟩
  · refine h.r.remake (by simpa using hsz) ⟨_, _, (heap_setG hb3 _).2.2.1⟩ (fun k hlt h1 h2 h3 _ => ?_) (ownsMap_keepS hd3 (heap_setCell_other w3 ⟨g, 3, none⟩ m.mn _ hmn)) (ho.keep (fun k e => heap_setCell_other w3 ⟨g, 3, none⟩ k _ (fun e2 => hKg (by rw [← show k = g from e2]; exact e)))) (by simp [h.r.kl]) (fun i d u hc hv => ?_) hok
    · rw [heap_setCell_other w3 ⟨g, 3, none⟩ k _ h1]
      exact kg k hlt h2 h3
    · have hkl := h.r.kl
      rcases Nat.lt_or_ge i s.kept.length with hi | hi
      · rw [List.getElem?_append_left hi] at hc
        rw [List.getElem?_append_left (by omega)] at hv
        exact .inl ⟨hc, hv⟩
      · rw [List.getElem?_append_right hi] at hc
        rw [List.getElem?_append_right (by omega)] at hv
        rcases hz : i - s.kept.length with _ | z
        · rw [hz] at hc
          have hz2 : i - m.vs.length = 0 := by omega
          rw [hz2] at hv
          have e1 : c = d := by simpa using hc
          have e2 : v = u := by simpa using hv
          subst e1 e2
          refine .inr (hk.keep (fun k e => ?_))
          have hlt : k < w.heap.size := by rcases e with e | e <;> exact e.lt
          have h1 : k ≠ g := h.r.foot_ne (.inr (.inr (.inr (.inr (.inr (.inr e))))))
          rw [heap_setCell_other w3 ⟨g, 3, none⟩ k _ h1]
          refine kg k hlt (fun e2 => ?_) (fun e2 => ?_)
          · rcases e with e | e <;> exact e.map_ne h.r.now e2.symm
          · rcases e with e | e <;> exact e.ne (ownTagS h.r.krow e2) (by decide) rfl
        · rw [hz] at hc; simp at hc
  · refine ⟨?_, ?_, ?_, by simpa using hsz, fun k hlt hn => ?_, fun k hlt hm => ?_, fun k hlt e => e⟩
    · exact hg3.os.trans hg1.os
    · exact hg3.tape.trans hg1.tape
    · exact hg3.output.trans hg1.output
    · rw [heap_setCell_other w3 ⟨g, 3, none⟩ k _ (fun e => hn (.inl e))]
      exact kg k hlt (fun e => hn (.inr (.inl e))) (fun e => hn (.inr (.inr (.inr (.inr (.inl e))))))
    · rcases hm with e | e | e | e | e | e
      · exact .inl e
      · exact .inr (.inl e)
      · exact .inr (.inr (.inl e))
      · exact .inr (.inr (.inr (.inl e)))
      · rcases hat with h1 | h1
        · exact .inr (.inr (.inr (.inr (.inl (h1 ▸ e)))))
        · have e' : blk KA = some k := e
          rw [h1] at e'
          injection e' with e'
          have := hg1.size
          omega
      · exact .inr (.inr (.inr (.inr (.inr e))))
end
set_option maxHeartbeats 1000000 in
/-- The closure of a file that was made. -/
theorem put_any (w : World) (b : Nat) (bs : List Nat) (l : Dir) (n : Str) (i x y : Nat) (hd : DirAt w b bs l) (hl : l.length < maxLen) (hn : n.length ≤ maxLen) (hx : w.heap[x]? = some (.cells #[.pointer (some ⟨bs.getD i 0, 0, none⟩)] 103)) (hy : w.heap[y]? = some (.cells #[str n] 9)) :
    Calls Tryz.prog 179 #[.map (some b), .pointer (some ⟨x, 0, none⟩), .pointer (some ⟨y, 0, none⟩)] w fun e w' => e = .returned (.tuple #[]) ∧ DirAt w' b bs (put l n i) ∧ w.grownBy w' (some b) := by
  have q0 : w.cell? ⟨x, 0, none⟩ = some (.pointer (some ⟨bs.getD i 0, 0, none⟩)) := by rw [cell_of_row w x 0 _ _ (0, 0) hx]; rfl
  have q1 : w.cell? ⟨y, 0, none⟩ = some (.string ⟨n.toArray⟩) := by rw [cell_of_row w y 0 _ _ (0, 0) hy]; rfl
  have HD := Lib.hid hd
  clear hx hy hd
  obtain ⟨S, hS⟩ : ∃ S, S = (⟨n.toArray⟩ : ByteArray) := ⟨_, rfl⟩
  have hk := hkey n hn
  rw [← hS] at q1 hk
  have HK := Lib.hid hk
  clear hS hk
  go_enter Tryz.func179, Tryz.ntmps179
  go_wp2_with (at_mapUpdate; refine wpList_mapUpdate_own _ rfl (.tmp 4) (.tmp 5) (.tmp 6) 41 rfl 9 103 law Tryz.underlying41 ptrR b l.length _ rfl HD.out hl _ _ (.string n) rfl rfl HK.out (pd (bs.getD i 0)) [] (ptrR_mk _) ?_; intro w1 hown1 hgrow1)
  go_end0
  refine ⟨rfl, ?_, hgrow1⟩
  rw [dirD_put] at hown1
  exact ownsMap_tight hown1 (by rw [dirD_size]; exact Nat.le_refl _)
end Sto
end Go.Proofs.YtekbdedpombgcaaGreatDoor

namespace Go.Proofs.YtekbdedpombgcaaGreatDoor
open Go.RowKit Go.Maps

namespace Sto
section
variable {w w' : World} {base g : Nat} {s : St} {m : Mem}
theorem getD_app {α : Type} (l : List α) (x d : α) {i : Nat} (h : i < l.length) : (l ++ [x]).getD i d = l.getD i d := by
  rw [List.getD_eq_getElem?_getD, List.getElem?_append_left h, ← List.getD_eq_getElem?_getD]
theorem getD_last {α : Type} (l : List α) (x d : α) : (l ++ [x]).getD l.length d = x := by
  rw [List.getD_eq_getElem?_getD, List.getElem?_append_right (Nat.le_refl _)]; simp
theorem ids_mem {l : Dir} {p : Str × Nat} (h : p ∈ l) : p.2 ∈ ids l := List.mem_map_of_mem (f := (·.2)) h
theorem KcOk.more {bs : List Nat} {x : Nat} {c : Chg} {v : Cl} (h : KcOk w bs c v) (hc : ∀ i, c.at = some i → i < bs.length) : KcOk w (bs ++ [x]) c v := by
  cases c with
  | put n i =>
    obtain ⟨a, b, e, h1, h2⟩ := h
    exact ⟨a, b, e, by rw [getD_app _ _ _ (hc i rfl)]; exact h1, h2⟩
  | del n => exact h
  | ren f t i =>
    obtain ⟨x, a, y, e, h1, h2, h3⟩ := h
    exact ⟨x, a, y, e, h1, by rw [getD_app _ _ _ (hc i rfl)]; exact h2, h3⟩
/-- A file more. -/
theorem StAt.newFile (h : StAt w base g s m) : StAt (w.alloc (.cells #[.slice none 0 0, .int .i64 0] 107)) base g { s with files := s.files ++ [⟨[], 0⟩] } { m with bs := m.bs ++ [w.heap.size], rows := m.rows ++ [(none, 0)] } ∧
    Aft w (w.alloc (.cells #[.slice none 0 0, .int .i64 0] 107)) g m { m with bs := m.bs ++ [w.heap.size], rows := m.rows ++ [(none, 0)] } := by
  obtain ⟨O, hO⟩ : ∃ O, O = Obj.cells #[.slice none 0 0, .int .i64 0] 107 := ⟨_, rfl⟩
  rw [← hO]
  have hb : Below w.heap.size w (w.alloc O) := (Below.refl _ _).alloc (Nat.le_refl _) _
  have h1 := h.below hb
  have hbl := h.r.bsl
  have hrl := h.r.rwl
  have gr : ∀ i, i < s.files.length → ({ m with bs := m.bs ++ [w.heap.size], rows := m.rows ++ [(none, 0)] } : Mem).row i = m.row i := fun i hi => getD_app _ _ _ (by omega)
  have gl : ({ m with bs := m.bs ++ [w.heap.size], rows := m.rows ++ [(none, 0)] } : Mem).row s.files.length = (none, 0) := by
    show (m.rows ++ [(none, 0)]).getD s.files.length (none, 0) = _
    rw [← hrl]; exact getD_last _ _ _
  have gbl : (m.bs ++ [w.heap.size]).getD s.files.length 0 = w.heap.size := by
    rw [← hbl]; exact getD_last _ _ _
  refine ⟨⟨h1.box, h1.r.gt, h1.r.gb, ?_, ?_, h1.r.nb, h1.r.db, h1.r.ne, by simp [hbl], by simp [hrl], fun i hi => ?_, fun b hbm => ?_, ?_, fun i j hi hj hij k hk => ?_, h1.r.krow, h1.r.kl, fun i c v hc hv => ?_, h1.r.plan, h1.r.pcap, h1.r.pmax, fun k hk => ?_, h1.r.ok.more⟩, ?_⟩
  · show World.ownsMap _ _ _ _ _ _ (dirD (m.bs ++ [w.heap.size]) s.now)
    rw [dirD_more _ (fun p hp => by rw [hbl]; exact h.r.ok.gnow.lt _ (ids_mem hp))]
    exact h1.r.now
  · show World.ownsMap _ _ _ _ _ _ (dirD (m.bs ++ [w.heap.size]) s.disk)
    rw [dirD_more _ (fun p hp => by rw [hbl]; exact h.r.ok.gdisk.lt _ (ids_mem hp))]
    exact h1.r.disk
  · rcases Nat.lt_or_ge i s.files.length with h2 | h2
    · rw [gr i h2]
      show FlAt _ _ ((m.bs ++ [w.heap.size]).getD i 0) _ _
      rw [getD_app _ _ _ (by omega)]
      have e : (s.files ++ [(⟨[], 0⟩ : Fl)])[i]'hi = s.files[i] := List.getElem_append_left h2
      simp only [e]
      exact h1.r.fl i h2
    · obtain rfl : i = s.files.length := by simp at hi; omega
      rw [gl]
      show FlAt _ _ ((m.bs ++ [w.heap.size]).getD s.files.length 0) _ _
      rw [gbl]
      have e : (s.files ++ [(⟨[], 0⟩ : Fl)])[s.files.length]'hi = ⟨[], 0⟩ := by simp
      simp only [e]
      exact ⟨by rw [heap_alloc_new, hO]; rfl, Own.nil _ _ _⟩
  · have hbm : b ∈ m.bs ++ [w.heap.size] := hbm
    rw [List.mem_append, List.mem_singleton] at hbm
    rcases hbm with h2 | h2
    · exact h1.r.bb b h2
    · have := h.r.gb; have := h.r.gt.lt; omega
  · show (m.bs ++ [w.heap.size]).Nodup
    rw [List.nodup_append]
    refine ⟨h.r.bnd, by simp, fun x hx y hy => ?_⟩
    have := (h.r.bs_tag hx).lt
    rw [List.mem_singleton] at hy
    omega
  · have hi2 : i < s.files.length + 1 := by simpa using hi
    have hj2 : j < s.files.length + 1 := by simpa using hj
    rcases Nat.lt_or_ge i s.files.length with h2 | h2
    · rw [gr i h2] at hk
      rcases Nat.lt_or_ge j s.files.length with h3 | h3
      · rw [gr j h3]
        exact h1.r.rnd i j h2 h3 hij k hk
      · obtain rfl : j = s.files.length := by omega
        rw [gl]
        intro e; cases e
    · obtain rfl : i = s.files.length := by omega
      rw [gl] at hk
      cases hk
  · have hc' : s.kept[i]? = some c := hc
    refine (h1.r.kok i c v hc hv).more (fun j hj => ?_)
    rw [hbl]
    exact h.r.ok.kept c (List.mem_of_getElem? hc') j hj
  · obtain ⟨a1, a2, a3⟩ := h1.r.poff k hk
    refine ⟨a1, a2, fun r hr => ?_⟩
    have hr : r ∈ m.rows ++ [(none, 0)] := hr
    rw [List.mem_append, List.mem_singleton] at hr
    rcases hr with h2 | h2
    · exact a3 r h2
    · subst h2
      intro e; cases e
  · refine ⟨hb.os, hb.tape, hb.output, hb.size, fun k hk _ => hb.block k hk, fun k hk hm => ?_, fun k _ e => e⟩
    rcases hm with e | e | e | e | e | ⟨r, hr, e⟩
    · exact .inl e
    · exact .inr (.inl e)
    · exact .inr (.inr (.inl e))
    · have e : k ∈ m.bs ++ [w.heap.size] := e
      rw [List.mem_append, List.mem_singleton] at e
      rcases e with e | e
      · exact .inr (.inr (.inr (.inl e)))
      · omega
    · exact .inr (.inr (.inr (.inr (.inl e))))
    · have hr : r ∈ m.rows ++ [(none, 0)] := hr
      rw [List.mem_append, List.mem_singleton] at hr
      rcases hr with h2 | h2
      · exact .inr (.inr (.inr (.inr (.inr ⟨r, h2, e⟩))))
      · subst h2; cases e
theorem row_set_same {i : Nat} (hi : i < m.rows.length) (r : Option Addr × Nat) : ({ m with rows := m.rows.set i r } : Mem).row i = r := by
  show (m.rows.set i r).getD i (none, 0) = r
  rw [List.getD_eq_getElem?_getD, List.getElem?_set_self hi]; rfl
theorem row_set_other {i j : Nat} (hij : i ≠ j) (r : Option Addr × Nat) : ({ m with rows := m.rows.set i r } : Mem).row j = m.row j := by
  show (m.rows.set i r).getD j (none, 0) = m.rows.getD j (none, 0)
  rw [List.getD_eq_getElem?_getD, List.getElem?_set_ne hij, ← List.getD_eq_getElem?_getD]
theorem bs_ne (h : StR w base g s m) {i j : Nat} (hi : i < s.files.length) (hj : j < s.files.length) (hij : i ≠ j) : m.bs.getD i 0 ≠ m.bs.getD j 0 := fun e => by
  have hbl := h.bsl
  rw [List.getD_eq_getElem?_getD, List.getD_eq_getElem?_getD, List.getElem?_eq_getElem (by omega), List.getElem?_eq_getElem (by omega)] at e
  exact hij ((List.getElem_inj h.bnd).1 e)
/-- A file turned. -/
theorem StAt.setF (h : StAt w base g s m) {i : Nat} (hi : i < s.files.length) {f : Fl} {r : Option Addr × Nat} (hs : w.heap.size ≤ w'.heap.size) (hk : ∀ k, k < w.heap.size → k ≠ m.bs.getD i 0 → blk (m.row i).1 ≠ some k → w'.heap[k]? = w.heap[k]?)
    (hf : FlAt w' base (m.bs.getD i 0) r f) (hr : ∀ k, blk r.1 = some k → k < w.heap.size → blk (m.row i).1 = some k) (h1 : f.sure ≤ f.b.length) (h2 : f.b.length ≤ 16777216) :
    StAt w' base g (setF s i f) { m with rows := m.rows.set i r } := by
  have hbl := h.r.bsl
  have hrl := h.r.rwl
  have tb : Tag w (m.bs.getD i 0) 107 := h.r.bs_tag (bs_mem (by omega))
  have hri : m.row i ∈ m.rows := row_mem (by omega)
  have tr : ∀ k, blk (m.row i).1 = some k → Tag w k 5 := fun k e => h.r.row_tag hri e
  have tk : ∀ {k : Nat} {T : TypeId}, Tag w k T → T ≠ 107 → T ≠ 5 → w'.heap[k]? = w.heap[k]? := fun {k T} ht h3 h4 => hk k ht.lt (ht.ne tb h3) (fun e => ht.ne (tr k e) h4 rfl)
  have mk : ∀ {k : Nat} {N : Nat} {l : Dir}, w.ownsMap Tryz.prog 9 ptrR k N (dirD m.bs l) → w'.heap[k]? = w.heap[k]? := fun {k N l} hm => hk k hm.lt (fun e => tb.map_ne hm e) (fun e => (tr k e).map_ne hm rfl)
  have pk : ∀ k, blk m.PA = some k → k < w.heap.size → w'.heap[k]? = w.heap[k]? := fun k e hlt => hk k hlt ((h.r.poff k e).2.1.ne tb (by decide)) ((h.r.poff k e).2.2 _ hri)
  have eg : w'.heap[g]? = w.heap[g]? := tk h.r.gt (by decide) (by decide)
  refine ⟨eg.trans h.box, ⟨_, _, eg.trans h.box⟩, h.r.gb, ownsMap_keepS h.r.now (mk h.r.now), ownsMap_keepS h.r.disk (mk h.r.disk), h.r.nb, h.r.db, h.r.ne, ?_, ?_, fun j hj => ?_, h.r.bb, h.r.bnd, fun a b ha hb hab k hka => ?_, ?_, h.r.kl, fun a c v hc hv => ?_, rdB_keepS h.r.plan hs pk, h.r.pcap, h.r.pmax, fun k e => ?_, h.r.ok.setF i f h1 h2⟩
  · show m.bs.length = (s.files.set i f).length
    simp [hbl]
  · show (m.rows.set i r).length = (s.files.set i f).length
    simp [hrl]
  · have hj' : j < s.files.length := by
      have : j < (s.files.set i f).length := hj
      simpa using this
    by_cases e : i = j
    · subst e
      rw [row_set_same (by omega)]
      have e2 : (s.files.set i f)[i]'hj = f := List.getElem_set_self _
      show FlAt w' base (m.bs.getD i 0) r ((s.files.set i f)[i]'hj)
      rw [e2]
      exact hf
    · rw [row_set_other e]
      have e2 : (s.files.set i f)[j]'hj = s.files[j] := List.getElem_set_ne e _
      show FlAt w' base (m.bs.getD j 0) (m.row j) ((s.files.set i f)[j]'hj)
      rw [e2]
      have tj : Tag w (m.bs.getD j 0) 107 := h.r.bs_tag (bs_mem (by omega))
      refine (h.r.fl j hj').keep (hk _ tj.lt (bs_ne h.r hj' hi (fun e2 => e e2.symm)) (fun e2 => tj.ne (tr _ e2) (by decide) rfl)) (fun k e2 => ?_)
      have t2 := h.r.row_tag (row_mem (by omega)) e2
      exact hk k t2.lt (t2.ne tb (by decide)) (h.r.rnd j i hj' hi (fun e3 => e e3.symm) k e2)
  · have ha' : a < s.files.length := by
      have : a < (s.files.set i f).length := ha
      simpa using this
    have hb' : b < s.files.length := by
      have : b < (s.files.set i f).length := hb
      simpa using this
    by_cases ea : i = a
    · subst ea
      rw [row_set_same (by omega)] at hka
      rw [row_set_other hab]
      intro e
      have t2 := h.r.row_tag (row_mem (show b < m.rows.length by omega)) e
      exact h.r.rnd i b hi hb' hab k (hr k hka t2.lt) e
    · rw [row_set_other ea] at hka
      by_cases eb : i = b
      · subst eb
        rw [row_set_same (by omega)]
        intro e
        have t2 := h.r.row_tag (row_mem (show a < m.rows.length by omega)) hka
        exact h.r.rnd a i ha' hi hab k hka (hr k e t2.lt)
      · rw [row_set_other eb]
        exact h.r.rnd a b ha' hb' hab k hka
  · exact h.r.krow.keep (fun k e => tk (ownTagS h.r.krow e) (by decide) (by decide))
  · exact (h.r.kok a c v hc hv).keep (fun k e => by rcases e with e | e <;> exact tk e (by decide) (by decide))
  · obtain ⟨a1, ⟨cs, fr, a2⟩, a3⟩ := h.r.poff k e
    have hlt := (Array.getElem?_eq_some_iff.1 a2).1
    refine ⟨a1, ⟨cs, fr, (pk k e hlt).trans a2⟩, fun q hq => ?_⟩
    have hq : q ∈ m.rows.set i r := hq
    rcases mem_set_or hq with e2 | e2
    · subst e2
      intro e3
      exact a3 _ hri (hr k e3 hlt)
    · exact a3 q e2
theorem Aft.setF (h : StAt w base g s m) {i : Nat} (hi : i < s.files.length) {r : Option Addr × Nat} (ho : w'.os = w.os) (ht : w'.tape = w.tape) (hp : w'.output = w.output) (hs : w.heap.size ≤ w'.heap.size) (hk : ∀ k, k < w.heap.size → k ≠ m.bs.getD i 0 → blk (m.row i).1 ≠ some k → w'.heap[k]? = w.heap[k]?)
    (hr : ∀ k, blk r.1 = some k → k < w.heap.size → blk (m.row i).1 = some k) : Aft w w' g m { m with rows := m.rows.set i r } := by
  have hbl := h.r.bsl
  have hrl := h.r.rwl
  have hri : m.row i ∈ m.rows := row_mem (by omega)
  refine ⟨ho, ht, hp, hs, fun k hlt hn => hk k hlt (fun e => hn (.inr (.inr (.inr (.inl (e ▸ bs_mem (by omega))))))) (fun e => hn (.inr (.inr (.inr (.inr (.inr ⟨_, hri, e⟩)))))), fun k hlt hm => ?_, fun k _ e => e⟩
  rcases hm with e | e | e | e | e | ⟨q, hq, e⟩
  · exact .inl e
  · exact .inr (.inl e)
  · exact .inr (.inr (.inl e))
  · exact .inr (.inr (.inr (.inl e)))
  · exact .inr (.inr (.inr (.inr (.inl e))))
  · have hq : q ∈ m.rows.set i r := hq
    rcases mem_set_or hq with e2 | e2
    · subst e2
      exact .inr (.inr (.inr (.inr (.inr ⟨_, hri, hr k e hlt⟩))))
    · exact .inr (.inr (.inr (.inr (.inr ⟨q, e2, e⟩))))
end
end Sto
end Go.Proofs.YtekbdedpombgcaaGreatDoor

namespace Go.Proofs.YtekbdedpombgcaaGreatDoor
open Go.RowKit Go.Maps

namespace Sto
theorem rd_fn_new (w : World) (c : Cl) : RdS V1 1 (w.alloc (.cells #[.func (.func c.f) #[] c.cb.toArray] 262)) (w.heap.size + 1) (some ⟨w.heap.size, 0, none⟩) [c] := by
  refine RdS.of (f := V1) (n := 1) (l := [c]) (fun _ => rfl) _ 0 (by omega) (fun k hk j u hj => ?_)
  obtain rfl : k = 0 := by simp at hk; exact hk
  have hj' : (V1 c)[j]? = some u := hj
  rw [cell_of_row _ w.heap.size _ _ _ (0, 0) (heap_alloc_new w _)]
  simpa [V1, Cl.val] using hj'
/-- What change comes to. -/
def ChgP (w : World) (base g : Nat) (m : Mem) (s' : St) (v : Cl) (e : Ending) (w' : World) : Prop := e = .returned (.tuple #[]) ∧ ∃ KA kc, StAt w' base g s' { m with KA := KA, kc := kc, vs := m.vs ++ [v] } ∧ Aft w w' g m { m with KA := KA, kc := kc, vs := m.vs ++ [v] }
set_option maxHeartbeats 1000000 in
set_option maxRecDepth 100000 in
theorem change_any (K : Nat) (cb : List Value) (hen : ∀ args w, (callFunc K args).run Tryz.prog w = .ok (.enter K args) w) (w : World) (base g : Nat) (s : St) (m : Mem) (c : Chg) (h : StAt w base g s m) (hk : KcOk w m.bs c ⟨K, cb⟩) (hok : Ok (change s c)) (hl : s.kept.length ≤ 1000000)
    (hc : Calls Tryz.prog K (Value.map (some m.mn) :: cb).toArray w fun e w' => e = .returned (.tuple #[]) ∧ DirAt w' m.mn m.bs (made s.now c) ∧ w.grownBy w' (some m.mn)) :
    Calls Tryz.prog 149 #[.pointer (some ⟨g, 0, none⟩), .func (.func K) #[] cb.toArray] w (ChgP w base g m (change s c) ⟨K, cb⟩) := by
  have H := Lib.hid h
  have HK := Lib.hid hk
  have HO := Lib.hid hok
  have HC := Lib.hid hc
  have hvl : m.vs.length ≤ 1000000 := by have := h.r.kl; omega
  obtain ⟨_, c1, _, _, _, _⟩ := h.cells
  have hgn : g ≠ m.mn := fun e => h.r.gt.map_ne h.r.now e.symm
  have HGN := Lib.hid hgn
  clear h hk hok hc hgn
  go_enter Tryz.func149, Tryz.ntmps149
  go_wp2_with fail
  refine HC.out.mono ?_
  rintro e w1 ⟨rfl, hd1, hg1⟩
  have hb1 : w1.heap[g]? = some (stObj m s) := (hg1.block g H.out.r.gt.lt (fun e => HGN.out (by injection e))).trans H.out.box
  have HKR : Hid (OwnS V1 1 w1 base 262 m.KA m.kc m.vs) := Lib.hid (H.out.r.krow.keep (fun k e => hg1.block k (H.out.r.krow.blk_ge k e).2 (fun e2 => (ownTagS H.out.r.krow e).map_ne H.out.r.now (by injection e2 with e2; exact e2.symm))))
  have HB1 := Lib.hid hb1
  have HD1 := Lib.hid hd1
  have HG1 := Lib.hid hg1
  have d3 : w1.cell? ⟨g, 3, none⟩ = some (.slice m.KA m.vs.length m.kc) := by
    have := hb1
    unfold stObj at this
    rw [cell_of_row w1 g 3 _ _ (0, 0) this]; rfl
  have hgz : g < w1.heap.size := (Array.getElem?_eq_some_iff.1 hb1).1
  have hbz : base ≤ w1.heap.size := Nat.le_trans H.out.r.gb (Nat.le_of_lt hgz)
  clear hb1 hd1 hg1
  go_wp2_with (at_builtin; refine wpList_append_s _ rfl _ _ fnT rfl base m.KA m.kc m.vs rfl (HKR.out.alloc _) (w1.heap.size + 1) (some ⟨w1.heap.size, 0, none⟩) 1 1 [⟨K, cb⟩] rfl rfl (rd_fn_new w1 ⟨K, cb⟩) (by simp; omega) (by unfold maxLen; simp; omega) (by simp; omega) ?_)
  intro A3 c3 l3 w8 hl3 ho3 hg3 hat3
  have hb8 : w8.heap[g]? = some (stObj m s) := by
    rw [hg3.block g (by simp; omega) (fun e => (ownTagS H.out.r.krow e.symm).ne H.out.r.gt (by decide) rfl), Below.heap_alloc _ _ _ hgz]
    exact HB1.out
  have f3 := frozen_of_row w8 g 3 _ _ hb8
  have HF : Hid (ChgP w base g m (change s c) ⟨K, cb⟩ (.returned (.tuple #[])) (w8.setCell ⟨g, 3, none⟩ (.slice A3 l3.length c3))) := Lib.hid (by
    rw [hl3] at ho3 ⊢
    exact ⟨rfl, A3, c3, H.out.changed HG1.out HD1.out hg3 ho3 hat3 HK.out HO.out⟩)
  have d8 : w8.cell? ⟨g, 3, none⟩ = some (.slice m.KA m.vs.length m.kc) := by
    have := hb8
    unfold stObj at this
    rw [cell_of_row w8 g 3 _ _ (0, 0) this]; rfl
  clear hl3 ho3 hg3 hat3 hb8
  go_wp2_with fail
  go_end0
  exact HF.out
end Sto
end Go.Proofs.YtekbdedpombgcaaGreatDoor

namespace Go.Proofs.YtekbdedpombgcaaGreatDoor
open Go.RowKit Go.Maps

namespace Sto
/-- What an operation comes to. -/
def OpP (w : World) (base g : Nat) (m : Mem) (x : Int × St) (e : Ending) (w' : World) : Prop := e = .returned (.int .i64 x.1) ∧ ∃ m', StAt w' base g x.2 m' ∧ Aft w w' g m m'
theorem rd_str_new (w : World) (n : Str) : RdS S1 1 (w.alloc (.cells #[.string ⟨n.toArray⟩] 9)) (w.heap.size + 1) (some ⟨w.heap.size, 0, none⟩) [n] := by
  refine RdS.of (f := S1) (n := 1) (l := [n]) (fun _ => rfl) _ 0 (by omega) (fun k hk j u hj => ?_)
  obtain rfl : k = 0 := by simp at hk; exact hk
  have hj' : (S1 n)[j]? = some u := hj
  rw [cell_of_row _ w.heap.size _ _ _ (0, 0) (heap_alloc_new w _)]
  simpa [S1, str] using hj'
theorem zeroE (w : World) : (zeroValue 103).run Tryz.prog w = .ok (.pointer none) w := by kernel_rfl
theorem drewN_of {G : World → Prop} {w : World} {n : Nat} (h : ∀ X, Below w.heap.size w X → X.heap = w.heap → G X) : G (w.drewN n) := h _ ⟨rfl, rfl, rfl, Nat.le_refl _, fun _ _ => rfl⟩ rfl
/-- What a look-up gives. -/
theorem look_dir {w : World} {b : Nat} {bs : List Nat} {l : Dir} (h : DirAt w b bs l) {n : Str} {S : ByteArray} (hk : keyOf Tryz.prog 9 (.string S) = some (.string n)) :
    (Instr.lookup 41 (.map (some b)) (.string S) true).run Tryz.prog w = .ok (.tuple #[.pointer ((find l n).map fun i => ⟨bs.getD i 0, 0, none⟩), .bool (find l n).isSome]) w := by
  obtain ⟨v, ps, h1, h2⟩ := h.look_ok law Tryz.underlying41 (zeroE w) ptrR_zero hk
  rw [dirD_has] at h1
  rw [dirD_at] at h2
  have hv : v = .pointer ((find l n).map fun i => ⟨bs.getD i 0, 0, none⟩) := by
    cases hf : find l n with
    | none =>
      rw [hf] at h2
      rcases ptrR_inv h2 with ⟨rfl, _⟩ | ⟨g, rfl, e⟩
      · rfl
      · cases e
    | some i =>
      rw [hf] at h2
      rw [ptrR_pd h2]
      rfl
  rw [h1, hv]
theorem create_bad {s s1 : St} {n : Str} {x : Int} (h : (x, s1) = meet s [n]) (h0 : ¬ x = 0) : create s n = (x, s1) := by
  unfold create
  rw [← h]
  simp [h0]
theorem create_there {s s1 : St} {n : Str} (h : (0, s1) = meet s [n]) (h0 : (find s1.now n).isSome = true) : create s n = (5, s1) := by
  unfold create
  rw [← h]
  simp [h0]
theorem create_new {s s1 : St} {n : Str} (h : (0, s1) = meet s [n]) (h0 : (find s1.now n).isSome = false) : create s n = (0, change { s1 with files := s1.files ++ [⟨[], 0⟩] } (.put n s1.files.length)) := by
  unfold create
  rw [← h]
  simp [h0]
set_option maxHeartbeats 1000000 in
set_option maxRecDepth 100000 in
theorem create_any (n : Str) (hn : n.length ≤ maxLen) (w : World) (base g : Nat) (s : St) (m : Mem) (h : StAt w base g s m) (hl : s.kept.length ≤ 1000000) (hf : s.files.length ≤ 1000000) :
    Calls Tryz.prog 104 #[.pointer (some ⟨g, 0, none⟩), .string ⟨n.toArray⟩] w (OpP w base g m (create s n)) := by
  have H := Lib.hid h
  clear h
  obtain ⟨S, hS⟩ : ∃ S, S = (⟨n.toArray⟩ : ByteArray) := ⟨_, rfl⟩
  rw [← hS]
  have HS := Lib.hid hS
  have HB0 : Hid (Below w.heap.size w ((w.alloc (.cells #[.string S] 9)).alloc (.cells #[.string S] 9))) := Lib.hid (((Below.refl _ _).alloc (Nat.le_refl _) _).alloc (by simp) _)
  have KM := Lib.hid (meet_any (some ⟨w.heap.size + 1, 0, none⟩) 1 [n] ((w.alloc (.cells #[.string S] 9)).alloc (.cells #[.string S] 9)) base g s m (H.out.below HB0.out) (by
    have := rd_str_new (w.alloc (.cells #[.string S] 9)) n
    rw [← hS] at this
    simpa using this) (by simp) (by simp; unfold maxLen at hn; omega))
  clear hS
  go_enter Tryz.func104, Tryz.ntmps104
  go_wp2_with fail
  refine KM.out.mono ?_
  obtain ⟨x, hx⟩ : ∃ x, x = meet s [n] := ⟨_, rfl⟩
  rw [← hx]
  obtain ⟨x0, s1⟩ := x
  rintro e w1 ⟨rfl, A1, c1, hst, haft⟩
  have HX := Lib.hid hx
  have HST := Lib.hid hst
  have HAF : Hid (Aft w w1 g m { m with PA := A1, pc := c1 }) := Lib.hid ((Aft.of_below HB0.out).trans haft)
  have hbx : w1.heap[w.heap.size]? = some (.cells #[.string S] 9) := by
    rw [haft.block w.heap.size (by simp; omega) (fun hm => by
      have := (H.out.r.mut_ge hm).2
      omega), Below.heap_alloc _ _ _ (by simp)]
    exact heap_alloc_new w _
  have b0 := cell_of_row w1 w.heap.size 0 _ _ (0, 0) hbx
  simp only [List.getElem?_toArray, List.getElem?_cons_zero] at b0
  have HBX := Lib.hid hbx
  obtain ⟨k0, k1, _, _, _, _⟩ := hst.cells
  clear hx hst haft hbx
  by_cases h0 : x0 = 0
  · subst h0
    have HN := Lib.hid HST.out.r.now
    have HKY : Hid (keyOf Tryz.prog 9 (.string S) = some (.string n)) := Lib.hid (by rw [HS.out]; exact hkey n hn)
    obtain ⟨fd, hfd⟩ : ∃ fd, fd = (find s1.now n).isSome := ⟨_, rfl⟩
    obtain ⟨fv, hfv⟩ : ∃ fv, fv = (find s1.now n).map fun i => (⟨m.bs.getD i 0, 0, none⟩ : Addr) := ⟨_, rfl⟩
    have hrun : ∀ a, (Instr.lookup 41 (.map (some m.mn)) (.string S) true).run Tryz.prog (w1.drewN a) = .ok (.tuple #[.pointer fv, .bool fd]) (w1.drewN a) := fun a => by
      rw [hfd, hfv]
      exact look_dir (drewN_of fun X hb _ => ownsMap_keepS HN.out (hb.block _ HN.out.lt)) HKY.out
    have HFD := Lib.hid hfd
    clear hfd hfv
    go_wp2_with fail
    go_quiet (fail)
    refine drewN_of ?_
    intro Y hbY hY
    have HSY := Lib.hid (HST.out.below hbY)
    have HAY : Hid (Aft w Y g m { m with PA := A1, pc := c1 }) := Lib.hid (HAF.out.trans (Aft.of_below hbY))
    have HBY : Hid (Y.heap[w.heap.size]? = some (.cells #[.string S] 9)) := Lib.hid (by rw [hY]; exact HBX.out)
    clear hbY hY hrun b0 k0 k1
    rcases fd with _ | _
    · have HE := Lib.hid (create_new HX.out HFD.out.symm)
      obtain ⟨F, hF⟩ : ∃ F, F = Obj.cells #[.slice none 0 0, .int .i64 0] 107 := ⟨_, rfl⟩
      obtain ⟨G, hG⟩ : ∃ G, G = Obj.cells #[.pointer (some ⟨Y.heap.size, 0, none⟩)] 103 := ⟨_, rfl⟩
      obtain ⟨hn1, hn2⟩ := HSY.out.newFile
      rw [← hF] at hn1 hn2
      have hb2 : Below (Y.alloc F).heap.size (Y.alloc F) ((Y.alloc F).alloc G) := (Below.refl _ _).alloc (Nat.le_refl _) _
      have hmf : s1.files = s.files ∧ s1.kept = s.kept := by
        have h1 := meet_files s [n]
        rw [← HX.out] at h1
        exact ⟨h1.1, h1.2.1⟩
      have hbl : m.bs.length = s1.files.length := HSY.out.r.bsl
      have hx2 : ((Y.alloc F).alloc G).heap[Y.heap.size + 1]? = some (.cells #[.pointer (some ⟨(m.bs ++ [Y.heap.size]).getD s1.files.length 0, 0, none⟩)] 103) := by
        rw [← hbl, getD_last]
        have := heap_alloc_new (Y.alloc F) G
        rw [show (Y.alloc F).heap.size = Y.heap.size + 1 by simp] at this
        rw [this, hG]
      have hwY : w.heap.size < Y.heap.size := (Array.getElem?_eq_some_iff.1 HBY.out).1
      have hy2 : ((Y.alloc F).alloc G).heap[w.heap.size]? = some (.cells #[str n] 9) := by
        rw [Below.heap_alloc _ _ _ (by simp; omega), Below.heap_alloc _ _ _ hwY, HBY.out, HS.out]
        rfl
      have hst2 := hn1.below hb2
      have hok := H.out.r.ok.create n
      rw [HE.out] at hok
      have hnl : s1.now.length ≤ 1000000 := by
        have h1 := HSY.out.r.ok.gnow.len
        rw [hmf.1] at h1
        exact Nat.le_trans h1 hf
      have KC := Lib.hid (change_any 179 [.pointer (some ⟨Y.heap.size + 1, 0, none⟩), .pointer (some ⟨w.heap.size, 0, none⟩)] (fun _ _ => rfl) ((Y.alloc F).alloc G) base g _ _ (.put n s1.files.length) hst2 ⟨_, _, rfl, hx2, hy2, hn⟩ hok (by
        show s1.kept.length ≤ 1000000
        rw [hmf.2]; exact hl) (put_any ((Y.alloc F).alloc G) m.mn _ s1.now n s1.files.length (Y.heap.size + 1) w.heap.size hst2.r.now (by unfold maxLen; omega) hn hx2 hy2))
      have HA2 := Lib.hid (HAY.out.trans (hn2.trans (Aft.of_below hb2)))
      rw [hF, hG] at KC HA2
      clear hF hG hn1 hn2 hb2 hx2 hy2 hst2 hok
      go_wp2_with fail
      refine KC.out.mono ?_
      rintro e w9 ⟨rfl, KA9, kc9, hst9, haf9⟩
      have HF9 : Hid (OpP w base g m (create s n) (.returned (.int .i64 0)) w9) := Lib.hid (by
        rw [HE.out]
        exact ⟨rfl, _, hst9, HA2.out.trans haf9⟩)
      clear hst9 haf9
      go_wp2_with fail
      go_ret
      exact HF9.out
    · have HE := Lib.hid (create_there HX.out HFD.out.symm)
      go_wp2_with fail
      go_ret
      rw [HE.out]
      exact ⟨rfl, _, HSY.out, HAY.out⟩
  · have e1 : (x0 != 0) = true := by simpa using h0
    have e2 : (x0 == 0) = false := by simpa using h0
    have HE := Lib.hid (create_bad HX.out h0)
    clear h0
    go_wp2_with fail
    go_ret
    rw [HE.out]
    exact ⟨rfl, _, HST.out, HAF.out⟩
end Sto
end Go.Proofs.YtekbdedpombgcaaGreatDoor

namespace Go.Proofs.YtekbdedpombgcaaGreatDoor
open Go.RowKit Go.Maps

namespace Sto
theorem strT : RT Tryz.prog 94 9 S1 1 16 (.string ByteArray.empty) :=
  ⟨Tryz.underlying94, by kernel_rfl, fun _ => rfl, fun v u hu => by simp [S1, str] at hu; subst hu; rfl, by omega, rfl⟩
/-- What with comes to. -/
def WithP (w : World) (base g : Nat) (m : Mem) (x0 : Int) (s1 : St) (n : Str) (Q : Ending → World → Prop) (e : Ending) (w' : World) : Prop :=
  (x0 ≠ 0 ∧ OpP w base g m (x0, s1) e w') ∨ (x0 = 0 ∧ find s1.now n = none ∧ OpP w base g m (4, s1) e w') ∨ (x0 = 0 ∧ (find s1.now n).isSome = true ∧ Q e w')
set_option maxHeartbeats 1000000 in
set_option maxRecDepth 100000 in
theorem with_any (K : Nat) (cb : List Value) (hen : ∀ args w, (callFunc K args).run Tryz.prog w = .ok (.enter K args) w) (n : Str) (hn : n.length ≤ maxLen) (w : World) (base g : Nat) (s : St) (m : Mem) (h : StAt w base g s m) (x0 : Int) (s1 : St) (hx : (x0, s1) = meet s [n])
    (Q : Ending → World → Prop) (hq : ∀ e w', Q e w' → ∃ v, e = .returned v)
    (hc : x0 = 0 → ∀ w1 A1 c1 i, StAt w1 base g s1 { m with PA := A1, pc := c1 } → Aft w w1 g m { m with PA := A1, pc := c1 } → find s1.now n = some i → Calls Tryz.prog K (.pointer (some ⟨m.bs.getD i 0, 0, none⟩) :: cb).toArray w1 Q) :
    Calls Tryz.prog 147 #[.pointer (some ⟨g, 0, none⟩), .func (.func K) #[] cb.toArray, .string ⟨n.toArray⟩, .slice none 0 0] w (WithP w base g m x0 s1 n Q) := by
  have H := Lib.hid h
  have HC := Lib.hid hc
  have HQ := Lib.hid hq
  have HX := Lib.hid hx
  obtain ⟨S, hS⟩ : ∃ S, S = (⟨n.toArray⟩ : ByteArray) := ⟨_, rfl⟩
  rw [← hS]
  have HS := Lib.hid hS
  have hgz : g < w.heap.size := h.r.gt.lt
  have hbz : base ≤ w.heap.size := Nat.le_trans h.r.gb (Nat.le_of_lt hgz)
  have HRD : Hid (RdS S1 1 (w.alloc (.cells #[.string S] 9)) (w.heap.size + 1) (some ⟨w.heap.size, 0, none⟩) [n]) := Lib.hid (by
    have := rd_str_new w n
    rw [← hS] at this
    exact this)
  clear h hc hq hx hS
  go_enter Tryz.func147, Tryz.ntmps147
  go_wp2_with (at_builtin; refine wpList_append_s _ rfl _ _ strT rfl w.heap.size none 0 ([] : List Str) rfl (OwnS.nil _ _ _) (w.heap.size + 1) (some ⟨w.heap.size, 0, none⟩) 1 1 [n] rfl rfl HRD.out (by simp) (by unfold maxLen; simp) (by simp) ?_; intro A3 c3 l3 w8 hl3 ho3 hg3 hat3; clear hat3)
  have hb8 : Below w.heap.size w w8 := ((Below.refl _ _).alloc (Nat.le_refl _) _).grown hg3 (by simp) (fun _ e => by cases e)
  have hl3 : l3 = [n] := hl3
  subst hl3
  have KM := Lib.hid (meet_any A3 c3 [n] w8 base g s m (H.out.below hb8) ho3.rd (by simp) (by simp; unfold maxLen at hn; omega))
  rw [← HX.out] at KM
  have HA8 : Hid (Aft w w8 g m m) := Lib.hid (Aft.of_below hb8)
  clear hb8 hg3 ho3
  go_wp2_with fail
  refine KM.out.mono ?_
  rintro e w1 ⟨rfl, A1, c1, hst, haft⟩
  have HST := Lib.hid hst
  have HAF : Hid (Aft w w1 g m { m with PA := A1, pc := c1 }) := Lib.hid (HA8.out.trans haft)
  obtain ⟨k0, k1, _, _, _, _⟩ := hst.cells
  clear hst haft
  by_cases h0 : x0 = 0
  · subst h0
    have HN := Lib.hid HST.out.r.now
    have HKY : Hid (keyOf Tryz.prog 9 (.string S) = some (.string n)) := Lib.hid (by rw [HS.out]; exact hkey n hn)
    obtain ⟨fo, hfo⟩ : ∃ fo, fo = find s1.now n := ⟨_, rfl⟩
    have hrun : (Instr.lookup 41 (.map (some m.mn)) (.string S) true).run Tryz.prog w1 = .ok (.tuple #[.pointer (fo.map fun i => (⟨m.bs.getD i 0, 0, none⟩ : Addr)), .bool fo.isSome]) w1 := by
      rw [hfo]
      exact look_dir HN.out HKY.out
    have HFO := Lib.hid hfo
    clear hfo
    rcases fo with _ | i
    · have hrun' : (Instr.lookup 41 (.map (some m.mn)) (.string S) true).run Tryz.prog w1 = .ok (.tuple #[.pointer none, .bool false]) w1 := hrun
      clear hrun
      have HF9 : Hid (WithP w base g m 0 s1 n Q (.returned (.int .i64 4)) w1) := Lib.hid (.inr (.inl ⟨rfl, HFO.out.symm, rfl, _, HST.out, HAF.out⟩))
      go_wp2_with fail
      go_ret
      exact HF9.out
    · have hrun' : (Instr.lookup 41 (.map (some m.mn)) (.string S) true).run Tryz.prog w1 = .ok (.tuple #[.pointer (some ⟨m.bs.getD i 0, 0, none⟩), .bool true]) w1 := hrun
      clear hrun
      have KC := Lib.hid (HC.out rfl w1 A1 c1 i HST.out HAF.out HFO.out.symm)
      go_wp2_with fail
      refine KC.out.mono ?_
      intro e w9 hQ9
      obtain ⟨v, rfl⟩ := HQ.out _ _ hQ9
      have HF9 : Hid (WithP w base g m 0 s1 n Q (.returned v) w9) := Lib.hid (.inr (.inr ⟨rfl, by rw [← HFO.out]; rfl, hQ9⟩))
      clear hQ9
      go_wp2_with fail
      go_ret
      exact HF9.out
  · have e1 : (x0 != 0) = true := by simpa using h0
    have e2 : (x0 == 0) = false := by simpa using h0
    have HF9 : Hid (WithP w base g m x0 s1 n Q (.returned (.int .i64 x0)) w1) := Lib.hid (.inl ⟨h0, rfl, _, HST.out, HAF.out⟩)
    clear h0
    go_wp2_with fail
    go_ret
    exact HF9.out
end Sto
end Go.Proofs.YtekbdedpombgcaaGreatDoor

namespace Go.Proofs.YtekbdedpombgcaaGreatDoor
open Go.RowKit Go.Maps

namespace Sto
theorem file_at {s : St} {i : Nat} (hi : i < s.files.length) : file s i = s.files[i] := by
  unfold file
  rw [List.getD_eq_getElem?_getD, List.getElem?_eq_getElem hi]; rfl
theorem sync_bad {s s1 : St} {n : Str} {x : Int} (h : (x, s1) = meet s [n]) (h0 : ¬ x = 0) : sync s n = (x, s1) := by
  unfold sync
  rw [← h]
  simp [h0]
theorem sync_none {s s1 : St} {n : Str} (h : (0, s1) = meet s [n]) (h0 : find s1.now n = none) : sync s n = (4, s1) := by
  unfold sync
  rw [← h]
  simp [h0]
theorem sync_ok {s s1 : St} {n : Str} {i : Nat} (h : (0, s1) = meet s [n]) (h0 : find s1.now n = some i) : sync s n = (0, setF s1 i ⟨(file s1 i).b, (file s1 i).b.length⟩) := by
  unfold sync
  rw [← h]
  simp [h0]
section
variable {w w' : World} {base g : Nat} {s : St} {m : Mem}
/-- How much is synced, stored. -/
theorem StAt.setSure (h : StAt w base g s m) {i : Nat} (hi : i < s.files.length) : StAt (w.setCell ⟨m.bs.getD i 0, 1, none⟩ (.int .i64 ((file s i).b.length : Int))) base g (Sto.setF s i ⟨(file s i).b, (file s i).b.length⟩) { m with rows := m.rows.set i (m.row i) } ∧
    Aft w (w.setCell ⟨m.bs.getD i 0, 1, none⟩ (.int .i64 ((file s i).b.length : Int))) g m { m with rows := m.rows.set i (m.row i) } := by
  have hf := h.r.fl i hi
  rw [file_at hi]
  have hbl := h.r.bsl
  have hrl := h.r.rwl
  have tb : Tag w (m.bs.getD i 0) 107 := h.r.bs_tag (bs_mem (by omega))
  have hx := heap_setCell_same w (m.bs.getD i 0) 1 _ _ (.int .i64 (s.files[i].b.length : Int)) hf.box
  have hne : ∀ k, blk (m.row i).1 = some k → k ≠ m.bs.getD i 0 := fun k e => (h.r.row_tag (row_mem (by omega)) e).ne tb (by decide)
  have hl := (h.r.ok.len _ (List.getElem_mem hi))
  refine ⟨h.setF hi (by simp) (fun k _ h1 _ => heap_setCell_other w _ k _ h1) ⟨by simpa using hx, own_keepS hf.own (fun k e => heap_setCell_other w _ k _ (hne k e))⟩ (fun _ e _ => e) (Nat.le_refl _) hl, ?_⟩
  exact Aft.setF h hi rfl rfl rfl (by simp) (fun k _ h1 _ => heap_setCell_other w _ k _ h1) (fun _ e _ => e)
set_option maxRecDepth 100000 in
theorem sync1_any (h : StAt w base g s m) {i : Nat} (hi : i < s.files.length) : Calls Tryz.prog 185 #[.pointer (some ⟨m.bs.getD i 0, 0, none⟩)] w (OpP w base g m (0, setF s i ⟨(file s i).b, (file s i).b.length⟩)) := by
  have hf := h.r.fl i hi
  have HF : Hid (OpP w base g m (0, setF s i ⟨(file s i).b, (file s i).b.length⟩) (.returned (.int .i64 0)) (w.setCell ⟨m.bs.getD i 0, 1, none⟩ (.int .i64 ((file s i).b.length : Int)))) := Lib.hid ⟨rfl, _, (h.setSure hi).1, (h.setSure hi).2⟩
  have c0 := cell_of_row w (m.bs.getD i 0) 0 _ _ (0, 0) hf.box
  have c1 := cell_of_row w (m.bs.getD i 0) 1 _ _ (0, 0) hf.box
  have f1 := frozen_of_row w (m.bs.getD i 0) 1 _ _ hf.box
  rw [← file_at hi] at c0 c1
  simp only [List.getElem?_toArray, List.getElem?_cons_zero, List.getElem?_cons_succ] at c0 c1
  obtain ⟨b, hb⟩ : ∃ b, b = m.bs.getD i 0 := ⟨_, rfl⟩
  obtain ⟨L, hL⟩ : ∃ L, L = (file s i).b.length := ⟨_, rfl⟩
  rw [← hb] at c0 c1 f1 HF ⊢
  rw [← hL] at c0 HF ⊢
  clear hf hb hL h
  go_enter Tryz.func185, Tryz.ntmps185
  go_wp2_with fail
  go_ret
  exact HF.out
end
set_option maxHeartbeats 1000000 in
set_option maxRecDepth 100000 in
theorem sync_any (n : Str) (hn : n.length ≤ maxLen) (w : World) (base g : Nat) (s : St) (m : Mem) (h : StAt w base g s m) :
    Calls Tryz.prog 121 #[.pointer (some ⟨g, 0, none⟩), .string ⟨n.toArray⟩] w (OpP w base g m (sync s n)) := by
  obtain ⟨x, hx⟩ : ∃ x, x = meet s [n] := ⟨_, rfl⟩
  obtain ⟨x0, s1⟩ := x
  have KW := Lib.hid (with_any 185 [] (fun _ _ => rfl) n hn w base g s m h x0 s1 hx (OpP w base g m (sync s n)) (fun e w' h => ⟨_, h.1⟩) (fun h0 w1 A1 c1 i hst haf hf => by
    subst h0
    rw [sync_ok hx hf]
    have hi : i < s1.files.length := hst.r.ok.find_lt hf
    exact (sync1_any hst hi).mono fun e w' ⟨h1, m', h2, h3⟩ => ⟨h1, m', h2, haf.trans h3⟩))
  have HX := Lib.hid hx
  obtain ⟨S, hS⟩ : ∃ S, S = (⟨n.toArray⟩ : ByteArray) := ⟨_, rfl⟩
  rw [← hS] at KW ⊢
  clear h hx hS
  go_enter Tryz.func121, Tryz.ntmps121
  go_wp2_with fail
  refine KW.out.mono ?_
  intro e w1 hP
  have HP : Hid (OpP w base g m (sync s n) e w1) := Lib.hid (by
    rcases hP with ⟨h0, h1⟩ | ⟨h0, h1, h2⟩ | ⟨_, _, h2⟩
    · rw [sync_bad HX.out h0]; exact h1
    · subst h0
      rw [sync_none HX.out h1]; exact h2
    · exact h2)
  obtain ⟨x, hx2⟩ : ∃ x, x = (sync s n).1 := ⟨_, rfl⟩
  have he : e = .returned (.int .i64 x) := by rw [hx2]; exact HP.out.1
  subst he
  clear hP hx2
  go_wp2_with fail
  go_ret
  exact HP.out
end Sto
end Go.Proofs.YtekbdedpombgcaaGreatDoor

namespace Go.Proofs.YtekbdedpombgcaaGreatDoor
open Go.RowKit Go.Maps

namespace Sto
theorem remove_bad {s s1 : St} {n : Str} {x : Int} (h : (x, s1) = meet s [n]) (h0 : ¬ x = 0) : remove s n = (x, s1) := by
  unfold remove
  rw [← h]
  simp [h0]
theorem remove_none {s s1 : St} {n : Str} (h : (0, s1) = meet s [n]) (h0 : find s1.now n = none) : remove s n = (4, s1) := by
  unfold remove
  rw [← h]
  simp [h0]
theorem remove_ok {s s1 : St} {n : Str} {i : Nat} (h : (0, s1) = meet s [n]) (h0 : find s1.now n = some i) : remove s n = (0, change s1 (.del n)) := by
  unfold remove
  rw [← h]
  simp [h0]
set_option maxHeartbeats 1000000 in
/-- The closure of a name that goes. -/
theorem del_any (w : World) (b : Nat) (bs : List Nat) (l : Dir) (n : Str) (y : Nat) (hd : DirAt w b bs l) (hn : n.length ≤ maxLen) (hy : w.heap[y]? = some (.cells #[str n] 9)) :
    Calls Tryz.prog 150 #[.map (some b), .pointer (some ⟨y, 0, none⟩)] w fun e w' => e = .returned (.tuple #[]) ∧ DirAt w' b bs (del l n) ∧ w.grownBy w' (some b) := by
  have q1 : w.cell? ⟨y, 0, none⟩ = some (.string ⟨n.toArray⟩) := by rw [cell_of_row w y 0 _ _ (0, 0) hy]; rfl
  have HD := Lib.hid hd
  clear hy hd
  obtain ⟨S, hS⟩ : ∃ S, S = (⟨n.toArray⟩ : ByteArray) := ⟨_, rfl⟩
  have hk := hkey n hn
  rw [← hS] at q1 hk
  have HK := Lib.hid hk
  clear hS hk
  go_enter Tryz.func150, Tryz.ntmps150
  go_wp2_with (at_delete; refine wpList_delete_own _ rfl _ _ 41 9 rfl 103 law Tryz.underlying41 ptrR b l.length _ rfl HD.out _ _ rfl HK.out ?_; intro w1 hown1 hturn1)
  go_end0
  refine ⟨rfl, ?_, hturn1.grown⟩
  rw [dirD_del] at hown1
  exact ownsMap_tight hown1 (by rw [dirD_size]; exact Nat.le_refl _)
set_option maxHeartbeats 1000000 in
set_option maxRecDepth 100000 in
theorem remove1_any (n : Str) (hn : n.length ≤ maxLen) (w : World) (base g : Nat) (s : St) (m : Mem) (h : StAt w base g s m) (hl : s.kept.length ≤ 1000000) (hok : Ok (change s (.del n))) (f : Addr) (x y : Nat) (hx : w.heap[x]? = some (.cells #[.pointer (some ⟨g, 0, none⟩)] 24)) (hy : w.heap[y]? = some (.cells #[str n] 9)) :
    Calls Tryz.prog 148 #[.pointer (some f), .pointer (some ⟨x, 0, none⟩), .pointer (some ⟨y, 0, none⟩)] w (OpP w base g m (0, change s (.del n))) := by
  have q0 : w.cell? ⟨x, 0, none⟩ = some (.pointer (some ⟨g, 0, none⟩)) := by rw [cell_of_row w x 0 _ _ (0, 0) hx]; rfl
  have KC := Lib.hid (change_any 150 [.pointer (some ⟨y, 0, none⟩)] (fun _ _ => rfl) w base g s m (.del n) h ⟨y, rfl, hy, hn⟩ hok hl (del_any w m.mn m.bs s.now n y h.r.now hn hy))
  clear h hx hy hok
  go_enter Tryz.func148, Tryz.ntmps148
  go_wp2_with fail
  refine KC.out.mono ?_
  rintro e w9 ⟨rfl, KA9, kc9, hst9, haf9⟩
  have HF9 : Hid (OpP w base g m (0, change s (.del n)) (.returned (.int .i64 0)) w9) := Lib.hid ⟨rfl, _, hst9, haf9⟩
  clear hst9 haf9
  go_wp2_with fail
  go_ret
  exact HF9.out
set_option maxHeartbeats 1000000 in
set_option maxRecDepth 100000 in
theorem remove_any (n : Str) (hn : n.length ≤ maxLen) (w : World) (base g : Nat) (s : St) (m : Mem) (h : StAt w base g s m) (hl : s.kept.length ≤ 1000000) :
    Calls Tryz.prog 71 #[.pointer (some ⟨g, 0, none⟩), .string ⟨n.toArray⟩] w (OpP w base g m (remove s n)) := by
  obtain ⟨x, hx⟩ : ∃ x, x = meet s [n] := ⟨_, rfl⟩
  obtain ⟨x0, s1⟩ := x
  obtain ⟨P, hP⟩ : ∃ P, P = Obj.cells #[.pointer (some ⟨g, 0, none⟩)] 24 := ⟨_, rfl⟩
  obtain ⟨N, hN⟩ : ∃ N, N = Obj.cells #[.string ⟨n.toArray⟩] 9 := ⟨_, rfl⟩
  have hb0 : Below w.heap.size w ((w.alloc P).alloc N) := ((Below.refl _ _).alloc (Nat.le_refl _) _).alloc (by simp) _
  have hx0 : ((w.alloc P).alloc N).heap[w.heap.size]? = some P := by rw [Below.heap_alloc _ _ _ (by simp)]; exact heap_alloc_new w _
  have hx1 : ((w.alloc P).alloc N).heap[w.heap.size + 1]? = some N := by
    have := heap_alloc_new (w.alloc P) N
    rwa [show (w.alloc P).heap.size = w.heap.size + 1 by simp] at this
  have KW := Lib.hid (with_any 148 [.pointer (some ⟨w.heap.size, 0, none⟩), .pointer (some ⟨w.heap.size + 1, 0, none⟩)] (fun _ _ => rfl) n hn ((w.alloc P).alloc N) base g s m (h.below hb0) x0 s1 hx (OpP ((w.alloc P).alloc N) base g m (remove s n)) (fun e w' h => ⟨_, h.1⟩) (fun h0 w1 A1 c1 i hst haf hf => by
    subst h0
    rw [remove_ok hx hf]
    have hmk : s1.kept = s.kept := by
      have h1 := meet_files s [n]
      rw [← hx] at h1
      exact h1.2.1
    have hok := h.r.ok.remove n
    rw [remove_ok hx hf] at hok
    have nm : ∀ k, w.heap.size ≤ k → ¬ Mut g m k := fun k hk hm => by have := (h.r.mut_ge hm).2; omega
    have hz : ((w.alloc P).alloc N).heap.size = w.heap.size + 2 := by simp
    refine (remove1_any n hn w1 base g s1 _ hst (by rw [hmk]; exact hl) hok _ w.heap.size (w.heap.size + 1) ?_ ?_).mono fun e w' ⟨h1, m', h2, h3⟩ => ⟨h1, m', h2, haf.trans h3⟩
    · rw [haf.block _ (by omega) (nm _ (Nat.le_refl _)), hx0, hP]
    · rw [haf.block _ (by omega) (nm _ (by omega)), hx1, hN]; rfl))
  have HX := Lib.hid hx
  have HA0 : Hid (Aft w ((w.alloc P).alloc N) g m m) := Lib.hid (Aft.of_below hb0)
  rw [hP, hN] at KW HA0
  clear h hx hx0 hx1 hb0 hP hN
  obtain ⟨S, hS⟩ : ∃ S, S = (⟨n.toArray⟩ : ByteArray) := ⟨_, rfl⟩
  rw [← hS] at KW HA0 ⊢
  clear hS
  go_enter Tryz.func71, Tryz.ntmps71
  go_wp2_with fail
  refine KW.out.mono ?_
  intro e w1 hP
  have HP : Hid (OpP w base g m (remove s n) e w1) := Lib.hid (by
    rcases hP with ⟨h0, h1, m', h2, h3⟩ | ⟨h0, h1, h4, m', h2, h3⟩ | ⟨_, _, h1, m', h2, h3⟩
    · rw [remove_bad HX.out h0]; exact ⟨h1, m', h2, HA0.out.trans h3⟩
    · subst h0
      rw [remove_none HX.out h1]; exact ⟨h4, m', h2, HA0.out.trans h3⟩
    · exact ⟨h1, m', h2, HA0.out.trans h3⟩)
  obtain ⟨x, hx2⟩ : ∃ x, x = (remove s n).1 := ⟨_, rfl⟩
  have he : e = .returned (.int .i64 x) := by rw [hx2]; exact HP.out.1
  subst he
  clear hP hx2
  go_wp2_with fail
  go_ret
  exact HP.out
end Sto
end Go.Proofs.YtekbdedpombgcaaGreatDoor

namespace Go.Proofs.YtekbdedpombgcaaGreatDoor
open Go.RowKit Go.Maps

namespace Sto
theorem rename_bad {s s1 : St} {f t : Str} {x : Int} (h : (x, s1) = meet s [t, f]) (h0 : ¬ x = 0) : rename s f t = (x, s1) := by
  unfold rename
  rw [← h]
  simp [h0]
theorem rename_none {s s1 : St} {f t : Str} (h : (0, s1) = meet s [t, f]) (h0 : find s1.now f = none) : rename s f t = (4, s1) := by
  unfold rename
  rw [← h]
  simp [h0]
theorem rename_same {s s1 : St} {f t : Str} {i : Nat} (h : (0, s1) = meet s [t, f]) (h0 : find s1.now f = some i) (he : f = t) : rename s f t = (0, s1) := by
  subst he
  unfold rename
  rw [← h]
  simp [h0]
theorem rename_ok {s s1 : St} {f t : Str} {i : Nat} (h : (0, s1) = meet s [t, f]) (h0 : find s1.now f = some i) (he : ¬ f = t) : rename s f t = (0, change s1 (.ren f t i)) := by
  unfold rename
  rw [← h]
  simp [h0, he]
set_option maxHeartbeats 1000000 in
set_option maxRecDepth 100000 in
/-- The closure of a name that turns. -/
theorem ren_any (w : World) (b : Nat) (bs : List Nat) (l : Dir) (f t : Str) (i x a y : Nat) (hd : DirAt w b bs l) (hl : l.length < maxLen) (hf : f.length ≤ maxLen) (ht : t.length ≤ maxLen) (hx : w.heap[x]? = some (.cells #[str f] 9)) (ha : w.heap[a]? = some (.cells #[.pointer (some ⟨bs.getD i 0, 0, none⟩)] 103)) (hy : w.heap[y]? = some (.cells #[str t] 9)) :
    Calls Tryz.prog 156 #[.map (some b), .pointer (some ⟨x, 0, none⟩), .pointer (some ⟨a, 0, none⟩), .pointer (some ⟨y, 0, none⟩)] w fun e w' => e = .returned (.tuple #[]) ∧ DirAt w' b bs (put (del l f) t i) ∧ w.grownBy w' (some b) := by
  have q1 : w.cell? ⟨x, 0, none⟩ = some (.string ⟨f.toArray⟩) := by rw [cell_of_row w x 0 _ _ (0, 0) hx]; rfl
  have HD := Lib.hid hd
  have HA := Lib.hid ha
  have HY := Lib.hid hy
  have HAT : Hid (Tag w a 103) := Lib.hid ⟨_, _, ha⟩
  have HYT : Hid (Tag w y 9) := Lib.hid ⟨_, _, hy⟩
  have hdl : (del l f).length < maxLen := Nat.lt_of_le_of_lt del_len hl
  clear hx hy hd ha hl
  obtain ⟨F, hF⟩ : ∃ F, F = (⟨f.toArray⟩ : ByteArray) := ⟨_, rfl⟩
  obtain ⟨T, hT⟩ : ∃ T, T = (⟨t.toArray⟩ : ByteArray) := ⟨_, rfl⟩
  have hk := hkey f hf
  have hk2 := hkey t ht
  rw [← hF] at q1 hk
  rw [← hT] at hk2
  have HK := Lib.hid hk
  have HK2 := Lib.hid hk2
  have HT := Lib.hid hT
  clear hF hT hk hk2
  have REN : Hid (∀ w1, DirAt w1 b bs (del l f) → w.grownBy w1 (some b) → w1.cell? ⟨y, 0, none⟩ = some (.string T) ∧ w1.cell? ⟨a, 0, none⟩ = some (.pointer (some ⟨bs.getD i 0, 0, none⟩))) := Lib.hid (fun w1 _ hg => by
    have ea : w1.heap[a]? = w.heap[a]? := hg.block a HAT.out.lt (fun e => HAT.out.map_ne HD.out (by injection e with e; exact e.symm))
    have ey : w1.heap[y]? = w.heap[y]? := hg.block y HYT.out.lt (fun e => HYT.out.map_ne HD.out (by injection e with e; exact e.symm))
    refine ⟨?_, ?_⟩
    · rw [cell_of_row w1 y 0 _ _ (0, 0) (ey.trans HY.out), HT.out]; rfl
    · rw [cell_of_row w1 a 0 _ _ (0, 0) (ea.trans HA.out)]; rfl)
  go_enter Tryz.func156, Tryz.ntmps156
  go_wp2_with (first
    | (at_delete; refine wpList_delete_own _ rfl _ _ 41 9 rfl 103 law Tryz.underlying41 ptrR b l.length _ rfl HD.out _ _ rfl HK.out ?_; intro w1 hown1 hturn1; rw [dirD_del] at hown1; have hd1 : DirAt w1 b bs (del l f) := ownsMap_tight hown1 (by rw [dirD_size]; exact Nat.le_refl _); obtain ⟨q2, q3⟩ := REN.out w1 hd1 hturn1.grown; have HD1 := Lib.hid hd1; have HG1 := Lib.hid hturn1.grown; clear hown1 hturn1 hd1)
    | (at_mapUpdate; refine wpList_mapUpdate_own _ rfl (.tmp 7) (.tmp 8) (.tmp 9) 41 rfl 9 103 law Tryz.underlying41 ptrR b (del l f).length _ rfl HD1.out hdl _ _ (.string t) rfl rfl HK2.out (pd (bs.getD i 0)) [] (ptrR_mk _) ?_; intro w2 hown2 hgrow2))
  go_end0
  refine ⟨rfl, ?_, HG1.out.trans hgrow2⟩
  rw [dirD_put] at hown2
  exact ownsMap_tight hown2 (by rw [dirD_size]; exact Nat.le_refl _)
end Sto
end Go.Proofs.YtekbdedpombgcaaGreatDoor

namespace Go.Proofs.YtekbdedpombgcaaGreatDoor
open Go.RowKit Go.Maps

namespace Sto
theorem Ok.rename {s : St} (h : Ok s) (f t : Str) : Ok (rename s f t).2 := by
  unfold Sto.rename
  have hm := h.meet [t, f]
  simp only
  split
  · exact hm
  · split
    · exact hm
    · rename_i i hf
      split
      · exact hm
      · have hi := hm.find_lt hf
        have hnot : i ∉ ids (del (Sto.meet s [t, f]).2.now f) := by
          intro hx
          obtain ⟨p, hp, he⟩ := List.mem_map.1 hx
          obtain ⟨h1, h2⟩ := mem_del.1 hp
          have h3 := find_some hf
          have hnd := hm.gnow.nd
          obtain ⟨a, ha, ea⟩ := List.getElem_of_mem h1
          obtain ⟨b, hb, eb⟩ := List.getElem_of_mem h3
          have e1 : (ids (Sto.meet s [t, f]).2.now)[a]'(by unfold ids; rw [List.length_map]; exact ha) = i := by
            unfold ids; rw [List.getElem_map, ea]; exact he
          have e2 : (ids (Sto.meet s [t, f]).2.now)[b]'(by unfold ids; rw [List.length_map]; exact hb) = i := by
            unfold ids; rw [List.getElem_map, eb]
          have hab := (List.getElem_inj hnd).1 (e1.trans e2.symm)
          subst hab
          rw [ea] at eb
          exact h2 (by rw [eb])
        refine hm.change _ ((hm.gnow.del f).put t i hi (fun hx => hnot ?_)) (fun j hj => by injection hj with hj; subst hj; exact hi)
        obtain ⟨p, hp, he⟩ := List.mem_map.1 hx
        exact List.mem_map.2 ⟨p, (mem_del.1 hp).1, he⟩
set_option maxHeartbeats 1000000 in
set_option maxRecDepth 100000 in
theorem with2_any (K : Nat) (cb : List Value) (hen : ∀ args w, (callFunc K args).run Tryz.prog w = .ok (.enter K args) w) (n t : Str) (hn : n.length ≤ maxLen) (ht : t.length ≤ 9000000000000000) (hn2 : n.length ≤ 9000000000000000) (OA : Option Addr) (u w : World) (hu : Below u.heap.size u w) (hO : OwnS S1 1 w u.heap.size 9 OA 1 [t]) (base g : Nat) (s : St) (m : Mem) (h : StAt u base g s m) (x0 : Int) (s1 : St) (hx : (x0, s1) = meet s [t, n])
    (Q : Ending → World → Prop) (hq : ∀ e w', Q e w' → ∃ v, e = .returned v)
    (hc : x0 = 0 → ∀ w1 A1 c1 i, StAt w1 base g s1 { m with PA := A1, pc := c1 } → Aft u w1 g m { m with PA := A1, pc := c1 } → find s1.now n = some i → Calls Tryz.prog K (.pointer (some ⟨m.bs.getD i 0, 0, none⟩) :: cb).toArray w1 Q) :
    Calls Tryz.prog 147 #[.pointer (some ⟨g, 0, none⟩), .func (.func K) #[] cb.toArray,   .string ⟨n.toArray⟩, .slice OA 1 1] w (WithP u base g m x0 s1 n Q) := by
  have H := Lib.hid h
  have HC := Lib.hid hc
  have HQ := Lib.hid hq
  have HX := Lib.hid hx
  have HO := Lib.hid hO
  obtain ⟨S, hS⟩ : ∃ S, S = (⟨n.toArray⟩ : ByteArray) := ⟨_, rfl⟩
  rw [← hS]
  have HS := Lib.hid hS
  have hgz : g < w.heap.size := Nat.lt_of_lt_of_le h.r.gt.lt hu.size
  have hbz : base ≤ w.heap.size := Nat.le_trans h.r.gb (Nat.le_of_lt hgz)
  have HRD : Hid (RdS S1 1 (w.alloc (.cells #[.string S] 9)) (w.heap.size + 1) (some ⟨w.heap.size, 0, none⟩) [n]) := Lib.hid (by
    have := rd_str_new w n
    rw [← hS] at this
    exact this)
  have HW : Hid (∀ o w8, (w.alloc o).grownBy w8 (blk OA) → StAt w8 base g s m ∧ Aft u w8 g m m) := Lib.hid (fun o w8 hg => by
    have hb : Below u.heap.size u w8 := (hu.alloc hu.size o).grown hg (by simp; have := hu.size; omega) (fun k e => (hO.blk_ge k e).1)
    exact ⟨H.out.below hb, Aft.of_below hb⟩)
  have huz := hu.size
  clear h hc hq hx hS hO hu
  go_enter Tryz.func147, Tryz.ntmps147
  go_wp2_with (at_builtin; refine wpList_append_s _ rfl _ _ strT rfl u.heap.size OA 1 [t] rfl (HO.out.alloc _) (w.heap.size + 1) (some ⟨w.heap.size, 0, none⟩) 1 1 [n] rfl rfl HRD.out (by simp) (by unfold maxLen; simp) (by simp; omega) ?_; intro A3 c3 l3 w8 hl3 ho3 hg3 hat3; clear hat3)
  have HA8 : Hid (StAt w8 base g s m ∧ Aft u w8 g m m) := Lib.hid (HW.out _ w8 hg3)
  have hl3 : l3 = [t, n] := hl3
  subst hl3
  have KM := Lib.hid (meet_any A3 c3 [t, n] w8 base g s m HA8.out.1 ho3.rd (by simp) (by simp; omega))
  rw [← HX.out] at KM
  clear hg3 ho3
  go_wp2_with fail
  refine KM.out.mono ?_
  rintro e w1 ⟨rfl, A1, c1, hst, haft⟩
  have HST := Lib.hid hst
  have HAF : Hid (Aft u w1 g m { m with PA := A1, pc := c1 }) := Lib.hid (HA8.out.2.trans haft)
  obtain ⟨k0, k1, _, _, _, _⟩ := hst.cells
  clear hst haft
  by_cases h0 : x0 = 0
  · subst h0
    have HN := Lib.hid HST.out.r.now
    have HKY : Hid (keyOf Tryz.prog 9 (.string S) = some (.string n)) := Lib.hid (by rw [HS.out]; exact hkey n hn)
    obtain ⟨fo, hfo⟩ : ∃ fo, fo = find s1.now n := ⟨_, rfl⟩
    have hrun : (Instr.lookup 41 (.map (some m.mn)) (.string S) true).run Tryz.prog w1 = .ok (.tuple #[.pointer (fo.map fun i => (⟨m.bs.getD i 0, 0, none⟩ : Addr)), .bool fo.isSome]) w1 := by
      rw [hfo]
      exact look_dir HN.out HKY.out
    have HFO := Lib.hid hfo
    clear hfo
    rcases fo with _ | i
    · have hrun' : (Instr.lookup 41 (.map (some m.mn)) (.string S) true).run Tryz.prog w1 = .ok (.tuple #[.pointer none, .bool false]) w1 := hrun
      clear hrun
      have HF9 : Hid (WithP u base g m 0 s1 n Q (.returned (.int .i64 4)) w1) := Lib.hid (.inr (.inl ⟨rfl, HFO.out.symm, rfl, _, HST.out, HAF.out⟩))
      go_wp2_with fail
      go_ret
      exact HF9.out
    · have hrun' : (Instr.lookup 41 (.map (some m.mn)) (.string S) true).run Tryz.prog w1 = .ok (.tuple #[.pointer (some ⟨m.bs.getD i 0, 0, none⟩), .bool true]) w1 := hrun
      clear hrun
      have KC := Lib.hid (HC.out rfl w1 A1 c1 i HST.out HAF.out HFO.out.symm)
      go_wp2_with fail
      refine KC.out.mono ?_
      intro e w9 hQ9
      obtain ⟨v, rfl⟩ := HQ.out _ _ hQ9
      have HF9 : Hid (WithP u base g m 0 s1 n Q (.returned v) w9) := Lib.hid (.inr (.inr ⟨rfl, by rw [← HFO.out]; rfl, hQ9⟩))
      clear hQ9
      go_wp2_with fail
      go_ret
      exact HF9.out
  · have e1 : (x0 != 0) = true := by simpa using h0
    have e2 : (x0 == 0) = false := by simpa using h0
    have HF9 : Hid (WithP u base g m x0 s1 n Q (.returned (.int .i64 x0)) w1) := Lib.hid (.inl ⟨h0, rfl, _, HST.out, HAF.out⟩)
    clear h0
    go_wp2_with fail
    go_ret
    exact HF9.out
set_option maxHeartbeats 1000000 in
set_option maxRecDepth 100000 in
theorem rename1_any (f t : Str) (hf : f.length ≤ 9000000000000000) (ht : t.length ≤ 9000000000000000) (i : Nat) (w : World) (base g : Nat) (s : St) (m : Mem) (h : StAt w base g s m) (hl : s.kept.length ≤ 1000000) (hd : s.files.length ≤ 1000000) (hok : f ≠ t → Ok (change s (.ren f t i))) (x y z : Nat) (hx : w.heap[x]? = some (.cells #[.pointer (some ⟨g, 0, none⟩)] 24)) (hy : w.heap[y]? = some (.cells #[str f] 9)) (hz : w.heap[z]? = some (.cells #[str t] 9)) :
    Calls Tryz.prog 155 #[.pointer (some ⟨m.bs.getD i 0, 0, none⟩), .pointer (some ⟨y, 0, none⟩), .pointer (some ⟨z, 0, none⟩), .pointer (some ⟨x, 0, none⟩)] w (OpP w base g m (0, if f = t then s else change s (.ren f t i))) := by
  obtain ⟨O, hO⟩ : ∃ O, O = Obj.cells #[.pointer (some ⟨m.bs.getD i 0, 0, none⟩)] 103 := ⟨_, rfl⟩
  have hb : Below w.heap.size w (w.alloc O) := (Below.refl _ _).alloc (Nat.le_refl _) O
  have q0 : (w.alloc O).cell? ⟨x, 0, none⟩ = some (.pointer (some ⟨g, 0, none⟩)) := by rw [cell_of_row _ x 0 _ _ (0, 0) ((hb.block x (Array.getElem?_eq_some_iff.1 hx).1).trans hx)]; rfl
  have hy2 := (hb.block y (Array.getElem?_eq_some_iff.1 hy).1).trans hy
  have hz2 := (hb.block z (Array.getElem?_eq_some_iff.1 hz).1).trans hz
  have q1 : (w.alloc O).cell? ⟨y, 0, none⟩ = some (.string ⟨f.toArray⟩) := by rw [cell_of_row _ y 0 _ _ (0, 0) hy2]; rfl
  have q2 : (w.alloc O).cell? ⟨z, 0, none⟩ = some (.string ⟨t.toArray⟩) := by rw [cell_of_row _ z 0 _ _ (0, 0) hz2]; rfl
  have r0 : w.cell? ⟨x, 0, none⟩ = some (.pointer (some ⟨g, 0, none⟩)) := by rw [cell_of_row _ x 0 _ _ (0, 0) hx]; rfl
  have r1 : w.cell? ⟨y, 0, none⟩ = some (.string ⟨f.toArray⟩) := by rw [cell_of_row _ y 0 _ _ (0, 0) hy]; rfl
  have r2 : w.cell? ⟨z, 0, none⟩ = some (.string ⟨t.toArray⟩) := by rw [cell_of_row _ z 0 _ _ (0, 0) hz]; rfl
  have l0 := (Array.getElem?_eq_some_iff.1 hx).1
  have l1 := (Array.getElem?_eq_some_iff.1 hy).1
  have l2 := (Array.getElem?_eq_some_iff.1 hz).1
  have ho : (w.alloc O).heap[w.heap.size]? = some O := heap_alloc_new w O
  have hst := h.below hb
  have hnl : s.now.length < maxLen := by have := h.r.ok.gnow.len; unfold maxLen; omega
  have hfm : f.length ≤ maxLen := by unfold maxLen; omega
  have htm : t.length ≤ maxLen := by unfold maxLen; omega
  have HA := Lib.hid (Aft.of_below (g := g) (m := m) hb)
  have HS := Lib.hid hst
  by_cases he : f = t
  · subst he
    rw [if_pos rfl]
    rw [hO] at q0 q1 q2 HA HS
    obtain ⟨F, hF⟩ : ∃ F, F = (⟨f.toArray⟩ : ByteArray) := ⟨_, rfl⟩
    rw [← hF] at q1 q2 r1 r2
    have hne2 : (F.toList != F.toList) = false := by simp
    clear h hx hy hz hok hO hb hy2 hz2 ho hst hF
    go_enter Tryz.func155, Tryz.ntmps155
    go_wp2_with fail
    go_ret
    exact ⟨rfl, m, HS.out, HA.out⟩
  · rw [if_neg he]
    have KC := Lib.hid (change_any 156 [.pointer (some ⟨y, 0, none⟩), .pointer (some ⟨w.heap.size, 0, none⟩), .pointer (some ⟨z, 0, none⟩)] (fun _ _ => rfl) (w.alloc O) base g s m (.ren f t i) hst ⟨y, w.heap.size, z, rfl, hy2, by rw [ho, hO], hz2, hfm, htm⟩ (hok he) hl (ren_any (w.alloc O) m.mn m.bs s.now f t i y w.heap.size z hst.r.now hnl hfm htm hy2 (by rw [ho, hO]) hz2))
    rw [hO] at q0 q1 q2 HA HS KC
    obtain ⟨F, hF⟩ : ∃ F : ByteArray, (⟨f.toArray⟩ : ByteArray) = F := ⟨_, rfl⟩
    obtain ⟨T, hT⟩ : ∃ T : ByteArray, (⟨t.toArray⟩ : ByteArray) = T := ⟨_, rfl⟩
    have hne := str_ne hF hT he
    have hne2 : (F.toList != T.toList) = true := by rw [bne, hne]; rfl
    rw [hF] at q1 r1
    rw [hT] at q2 r2
    clear h hx hy hz hok hO hb hy2 hz2 ho hst hF hT he
    go_enter Tryz.func155, Tryz.ntmps155
    go_wp2_with fail
    refine KC.out.mono ?_
    rintro e w9 ⟨rfl, KA9, kc9, hst9, haf9⟩
    have HF9 : Hid (OpP w base g m (0, change s (.ren f t i)) (.returned (.int .i64 0)) w9) := Lib.hid ⟨rfl, _, hst9, HA.out.trans haf9⟩
    clear hst9 haf9
    go_wp2_with fail
    go_ret
    exact HF9.out
set_option maxHeartbeats 1000000 in
set_option maxRecDepth 100000 in
theorem rename_any (f t : Str) (hf : f.length ≤ 9000000000000000) (ht : t.length ≤ 9000000000000000) (w : World) (base g : Nat) (s : St) (m : Mem) (h : StAt w base g s m) (hl : s.kept.length ≤ 1000000) (hd : s.files.length ≤ 1000000) :
    Calls Tryz.prog 77 #[.pointer (some ⟨g, 0, none⟩), .string ⟨f.toArray⟩, .string ⟨t.toArray⟩] w (OpP w base g m (rename s f t)) := by
  obtain ⟨x, hx⟩ : ∃ x, x = meet s [t, f] := ⟨_, rfl⟩
  obtain ⟨x0, s1⟩ := x
  obtain ⟨P, hP⟩ : ∃ P, P = Obj.cells #[.pointer (some ⟨g, 0, none⟩)] 24 := ⟨_, rfl⟩
  obtain ⟨N, hN⟩ : ∃ N, N = Obj.cells #[.string ⟨f.toArray⟩] 9 := ⟨_, rfl⟩
  obtain ⟨M, hM⟩ : ∃ M, M = Obj.cells #[.string ⟨t.toArray⟩] 9 := ⟨_, rfl⟩
  obtain ⟨U, hU⟩ : ∃ U, U = ((w.alloc P).alloc N).alloc M := ⟨_, rfl⟩
  have hb0 : Below w.heap.size w U := by rw [hU]; exact (((Below.refl _ _).alloc (Nat.le_refl _) _).alloc (by simp) _).alloc (by simp; omega) _
  have hz : U.heap.size = w.heap.size + 3 := by rw [hU]; simp
  have hx0 : U.heap[w.heap.size]? = some P := by rw [hU, Below.heap_alloc _ _ _ (by simp; omega), Below.heap_alloc _ _ _ (by simp)]; exact heap_alloc_new w _
  have hx1 : U.heap[w.heap.size + 1]? = some N := by
    have := heap_alloc_new (w.alloc P) N
    rw [show (w.alloc P).heap.size = w.heap.size + 1 by simp] at this
    rw [hU, Below.heap_alloc _ _ _ (by simp)]; exact this
  have hx2 : U.heap[w.heap.size + 2]? = some M := by
    have := heap_alloc_new ((w.alloc P).alloc N) M
    rw [show ((w.alloc P).alloc N).heap.size = w.heap.size + 2 by simp] at this
    rw [hU]; exact this
  obtain ⟨V, hV⟩ : ∃ V, V = U.alloc (.cells #[.string ⟨t.toArray⟩] 9) := ⟨_, rfl⟩
  have hbV : Below U.heap.size U V := by rw [hV]; exact (Below.refl _ _).alloc (Nat.le_refl _) _
  have hOV : OwnS S1 1 V U.heap.size 9 (some ⟨U.heap.size, 0, none⟩) 1 [t] := by
    rw [hV]
    exact World.ownsRow_lit (e := 9) (size := 1) U #[.string ⟨t.toArray⟩] 1 (Nat.le_refl _) (by unfold maxLen; omega) rfl
  have hmf : s1.kept = s.kept ∧ s1.files = s.files := by
    have h1 := meet_files s [t, f]
    rw [← hx] at h1
    exact ⟨h1.2.1, h1.1⟩
  have nm : ∀ k, w.heap.size ≤ k → ¬ Mut g m k := fun k hk hm => by have := (h.r.mut_ge hm).2; omega
  have KW := Lib.hid (with2_any 155 [.pointer (some ⟨w.heap.size + 1, 0, none⟩), .pointer (some ⟨w.heap.size + 2, 0, none⟩), .pointer (some ⟨w.heap.size, 0, none⟩)] (fun _ _ => rfl) f t (by unfold maxLen; omega) ht hf (some ⟨U.heap.size, 0, none⟩) U V hbV hOV base g s m (h.below hb0) x0 s1 hx (OpP U base g m (rename s f t)) (fun e w' h => ⟨_, h.1⟩) (fun h0 w1 A1 c1 i hst haf hfi => by
    subst h0
    have hok := h.r.ok.rename f t
    refine (rename1_any f t hf ht i w1 base g s1 _ hst (by rw [hmf.1]; exact hl) (by rw [hmf.2]; exact hd) (fun hne => ?_) w.heap.size (w.heap.size + 1) (w.heap.size + 2) ?_ ?_ ?_).mono fun e w' h3 => ?_
    · rw [rename_ok hx hfi hne] at hok; exact hok
    · rw [haf.block _ (by omega) (nm _ (Nat.le_refl _)), hx0, hP]
    · rw [haf.block _ (by omega) (nm _ (by omega)), hx1, hN]; rfl
    · rw [haf.block _ (by omega) (nm _ (by omega)), hx2, hM]; rfl
    · by_cases he : f = t
      · rw [rename_same hx hfi he]
        rw [if_pos he] at h3
        obtain ⟨a1, m', a2, a3⟩ := h3
        exact ⟨a1, m', a2, haf.trans a3⟩
      · rw [rename_ok hx hfi he]
        rw [if_neg he] at h3
        obtain ⟨a1, m', a2, a3⟩ := h3
        exact ⟨a1, m', a2, haf.trans a3⟩))
  have HX := Lib.hid hx
  have HA0 : Hid (Aft w U g m m) := Lib.hid (Aft.of_below hb0)
  rw [hz, hV, hU, hP, hN, hM] at KW
  rw [hU, hP, hN, hM] at HA0
  clear h hx hx0 hx1 hx2 hb0 hbV hOV hz hU hV hP hN hM nm hmf
  obtain ⟨F, hF⟩ : ∃ F, F = (⟨f.toArray⟩ : ByteArray) := ⟨_, rfl⟩
  obtain ⟨T, hT⟩ : ∃ T, T = (⟨t.toArray⟩ : ByteArray) := ⟨_, rfl⟩
  rw [← hF, ← hT] at KW HA0 ⊢
  clear hF hT
  go_enter Tryz.func77, Tryz.ntmps77
  go_wp2_with fail
  refine KW.out.mono ?_
  intro e w1 hP
  have HP : Hid (OpP w base g m (rename s f t) e w1) := Lib.hid (by
    rcases hP with ⟨h0, h1, m', h2, h3⟩ | ⟨h0, h1, h4, m', h2, h3⟩ | ⟨_, _, h1, m', h2, h3⟩
    · rw [rename_bad HX.out h0]; exact ⟨h1, m', h2, HA0.out.trans h3⟩
    · subst h0
      rw [rename_none HX.out h1]; exact ⟨h4, m', h2, HA0.out.trans h3⟩
    · exact ⟨h1, m', h2, HA0.out.trans h3⟩)
  obtain ⟨x, hx2⟩ : ∃ x, x = (rename s f t).1 := ⟨_, rfl⟩
  have he : e = .returned (.int .i64 x) := by rw [hx2]; exact HP.out.1
  subst he
  clear hP hx2
  go_wp2_with fail
  go_ret
  exact HP.out
end Sto
end Go.Proofs.YtekbdedpombgcaaGreatDoor

/- Parts of the proof, one behind the other: The reference's Same, at rows of bytes.; Steps in memory; much, at no files.; The reference's store as it lies in memory: it has the same plain state as the store.; The plain store: how long its names are. -/
import Derived.Test.YtaiokogbhfliiaaGreatDoorMrg39
import Derived.Test.YtaiokogbhfliiaaGreatDoorMrg16
import Derived.Test.YtaiokogbhfliiaaGreatDoorMrg01
import Derived.Test.YtaiokogbhfliiaaGreatDoorMrg40
import Derived.Test.YtaiokogbhfliiaaGreatDoorMrg36
import Derived.Test.YtaiokogbhfliiaaGreatDoorMrg32
import Derived.Test.YtaiokogbhfliiaaGreatDoorMrg38
namespace Go.Proofs.YtaiokogbhfliiaaGreatDoor
open Go.RowKit Go.Maps

/-- A row of bytes that can be read. -/
structure RdY (w : World) (A : Option Addr) (Y : List Yv) : Prop where
  row : RdS Yv.cells 1 w w.heap.size A Y
  ok : ∀ v ∈ Y, RdB w w.heap.size v.A v.b
theorem RdY.below {w w' : World} {A : Option Addr} {Y : List Yv} (h : RdY w A Y) (hb : Below w.heap.size w w') : RdY w' A Y := ⟨(h.row.below hb (Nat.le_refl _)).more hb.size, fun v hv => ((h.ok v hv).below hb (Nat.le_refl _)).more hb.size⟩
theorem Ys.rd {w : World} {base g c : Nat} {m : Sto.Mem} {A : Option Addr} {Y : List Yv} (h : Ys w base g m A c Y) : RdY w A Y := ⟨h.row.rd, fun v hv => (h.ok v hv).1.rd⟩
theorem RdY.cell {w : World} {A : Option Addr} {Y : List Yv} (h : RdY w A Y) {k : Nat} (hk : k < Y.length) : ∃ b off, A = some ⟨b, off, none⟩ ∧ b < w.heap.size ∧ w.cell? ⟨b, off + k, none⟩ = some (.slice (Y[k]).A (Y[k]).b.length (Y[k]).c) ∧ RdB w w.heap.size (Y[k]).A (Y[k]).b := by
  obtain ⟨b, off, hA, hb, hc⟩ := RdS.row (f := Yv.cells) (n := 1) (fun _ => rfl) (by omega) h.row (by omega)
  have r0 := hc k hk 0 _ rfl
  rw [Nat.add_zero, Nat.mul_one] at r0
  exact ⟨b, off, hA, hb, r0, h.ok _ (List.getElem_mem hk)⟩
set_option maxHeartbeats 1000000 in
set_option maxRecDepth 100000 in
theorem same7_any (A B : Option Addr) (c d : Nat) (X Y : List Yv) (w : World) (ha : RdY w A X) (hb : RdY w B Y) (hl : X.length ≤ 9000000000000000) :
    Calls Tryz.prog 17 #[.slice A X.length c, .slice B Y.length d] w fun e w' => e = .returned (.bool (decide (X.map Yv.b = Y.map Yv.b))) ∧ Below w.heap.size w w' := by
  have HA := Lib.hid ha
  have HB := Lib.hid hb
  clear ha hb
  go_enter Tryz.func17, Tryz.ntmps17
  by_cases hn : X.length = Y.length
  · have e1 : ((X.length : Int) == (Y.length : Int)) = true := by rw [hn]; simp
    have e2 : ((X.length : Int) != (Y.length : Int)) = false := by rw [hn]; simp
    have HN := Lib.hid hn
    clear hn
    go_wp2_with fail
    go_loopw [5] (fun i wr => ∃ k : Nat, k ≤ X.length ∧ i = .int .i64 (k : Int) ∧ Hid ((X.map Yv.b).take k = (Y.map Yv.b).take k) ∧ Hid (Below w.heap.size w wr)) (fun i _ => X.length - (intOf i).toNat)
    case atStart => exact ⟨0, by omega, rfl, Lib.hid rfl, Lib.hid (Below.refl _ _)⟩
    case round =>
      obtain ⟨k, hk, rfl, HT, HBR⟩ := hrel
      by_cases hlt : k < X.length
      · have hlt2 : k < Y.length := by have := HN.out; omega
        obtain ⟨b1, o1, hA, hb1, r1, q1⟩ := (HA.out.below HBR.out).cell hlt
        obtain ⟨b2, o2, hB, hb2, r2, q2⟩ := (HB.out.below HBR.out).cell hlt2
        have HX : Hid ((X.map Yv.b).take (k + 1) = (X.map Yv.b).take k ++ [(X[k]).b]) := Lib.hid (by rw [List.take_succ_eq_append_getElem (by simpa using hlt), List.getElem_map])
        have HY : Hid ((Y.map Yv.b).take (k + 1) = (Y.map Yv.b).take k ++ [(Y[k]).b]) := Lib.hid (by rw [List.take_succ_eq_append_getElem (by simpa using hlt2), List.getElem_map])
        obtain ⟨x, hx⟩ : ∃ x, x = X[k] := ⟨_, rfl⟩
        obtain ⟨y, hy⟩ : ∃ y, y = Y[k] := ⟨_, rfl⟩
        rw [← hx] at r1 q1 HX
        rw [← hy] at r2 q2 HY
        obtain ⟨xA, xc, xb⟩ := x
        obtain ⟨yA, yc, yb⟩ := y
        simp only at r1 q1 HX r2 q2 HY
        have s1 : ∀ a, (convert 23 9 (.slice xA xb.length xc)).run Tryz.prog (wr.drewN a) = .ok (.string ⟨xb.toArray⟩) (wr.drewN a) := fun a => strB_of (q1.below (Wal.below_drewN wr a) (Nat.le_refl _))
        have s2 : ∀ a, (convert 23 9 (.slice yA yb.length yc)).run Tryz.prog (wr.drewN a) = .ok (.string ⟨yb.toArray⟩) (wr.drewN a) := fun a => strB_of (q2.below (Wal.below_drewN wr a) (Nat.le_refl _))
        obtain ⟨S1, hS1⟩ : ∃ S : ByteArray, ⟨xb.toArray⟩ = S := ⟨_, rfl⟩
        obtain ⟨S2, hS2⟩ : ∃ S : ByteArray, ⟨yb.toArray⟩ = S := ⟨_, rfl⟩
        have hlt' : (k : Int) < (X.length : Int) := by omega
        have hlt2' : (k : Int) < (Y.length : Int) := by omega
        have hk0 : (0 : Int) ≤ (k : Int) := by omega
        subst hA hB
        by_cases he : xb = yb
        · subst he
          have e12 : S1 = S2 := hS1.symm.trans hS2
          subst e12
          rw [hS1] at s1 s2
          clear hx hy hS1 hS2 q1 q2
          go_wp2_with fail
          go_quiet (fail)
          refine Sto.drewN_of (fun V hbV hVh => ?_)
          have HBV := Lib.hid (HBR.out.trans (hbV.mono HBR.out.size))
          clear hbV hVh
          go_wp2_with fail
          exact ⟨⟨k + 1, hlt, by simp, Lib.hid (by rw [HX.out, HY.out, HT.out]), HBV⟩, by simp only [intOf]; omega⟩
        · have hne := str_ne hS1 hS2 he
          have hne2 : (S1.toList != S2.toList) = true := by rw [bne, hne]; rfl
          rw [hS1] at s1
          rw [hS2] at s2
          have HE : Hid (decide (X.map Yv.b = Y.map Yv.b) = false) := Lib.hid (by
            rw [decide_eq_false_iff_not]
            intro h
            have h1 := HX.out
            rw [h, HY.out] at h1
            have h2 := List.append_cancel_left h1
            injection h2 with h2
            exact he h2.symm)
          clear hx hy hS1 hS2 q1 q2 he
          go_wp2_with fail
          go_quiet (fail)
          refine Sto.drewN_of (fun V hbV hVh => ?_)
          have HBV := Lib.hid (HBR.out.trans (hbV.mono HBR.out.size))
          clear hbV hVh
          go_wp2_with fail
          go_ret
          exact ⟨by rw [HE.out]; rfl, HBV.out⟩
      · have hke : k = X.length := by omega
        have HE : Hid (decide (X.map Yv.b = Y.map Yv.b) = true) := Lib.hid (by
          rw [decide_eq_true_iff]
          have h1 := HT.out
          rw [hke, List.take_of_length_le (by simp), List.take_of_length_le (by simp [HN.out])] at h1
          exact h1)
        clear hke
        go_wp2_with fail
        go_ret
        exact ⟨by rw [HE.out]; rfl, HBR.out⟩
  · have e1 : ((X.length : Int) == (Y.length : Int)) = false := by simp; omega
    have e2 : ((X.length : Int) != (Y.length : Int)) = true := by simp; omega
    have HE : Hid (decide (X.map Yv.b = Y.map Yv.b) = false) := Lib.hid (by
      rw [decide_eq_false_iff_not]
      intro h
      have := congrArg List.length h
      rw [List.length_map, List.length_map] at this
      exact hn this)
    go_wp2_with fail
    go_ret
    exact ⟨by rw [HE.out]; rfl, Below.refl _ _⟩
end Go.Proofs.YtaiokogbhfliiaaGreatDoor

namespace Go.Proofs.YtaiokogbhfliiaaGreatDoor
open Go.RowKit Go.Maps

/-- A step. -/
structure Sv where
  dow : Int
  n : Int
  A : Option Addr
  c : Nat
  b : List UInt8
  KA : Option Addr
  kc : Nat
  keep : List Int
def Sv.cells (v : Sv) : List Value := [.int .i64 v.dow, .int .i64 v.n, .slice v.A v.b.length v.c, .slice v.KA v.keep.length v.kc]
structure Sok (w : World) (v : Sv) : Prop where
  b : RdB w w.heap.size v.A v.b
  keep : RdS Sto.I1 1 w w.heap.size v.KA v.keep
  kl : v.keep.length ≤ 9223372036854775807
theorem Sok.below {w w' : World} {v : Sv} (h : Sok w v) (hb : Below w.heap.size w w') : Sok w' v :=
  ⟨(h.b.below hb (Nat.le_refl _)).more hb.size, (h.keep.below hb (Nat.le_refl _)).more hb.size, h.kl⟩
/-- A row of steps that can be read. -/
structure RdT (w : World) (A : Option Addr) (l : List Sv) : Prop where
  row : RdS Sv.cells 4 w w.heap.size A l
  ok : ∀ v ∈ l, Sok w v
theorem RdT.below {w w' : World} {A : Option Addr} {l : List Sv} (h : RdT w A l) (hb : Below w.heap.size w w') : RdT w' A l :=
  ⟨(h.row.below hb (Nat.le_refl _)).more hb.size, fun v hv => (h.ok v hv).below hb⟩
theorem RdT.cell {w : World} {A : Option Addr} {l : List Sv} (h : RdT w A l) {k : Nat} (hk : k < l.length) : ∃ b off, A = some ⟨b, off, none⟩ ∧ b < w.heap.size ∧
    (∀ j u, (Sv.cells (l[k]))[j]? = some u → w.cell? ⟨b, off + k * 4 + j, none⟩ = some u) ∧ Sok w (l[k]) := by
  obtain ⟨b, off, hA, hb, hc⟩ := RdS.row (f := Sv.cells) (n := 4) (fun _ => rfl) (by omega) h.row (by omega)
  exact ⟨b, off, hA, hb, fun j u hu => hc k hk j u hu, h.ok _ (List.getElem_mem hk)⟩
namespace Wal
/-- What much says. -/
def MuchP (l : List Sv) (e : Ending) : Prop := ∃ q, e = .returned (.bool q) ∧ (q = false → ∀ v ∈ l.take 100, v.b.length ≤ 70000)
set_option maxHeartbeats 1000000 in
set_option maxRecDepth 100000 in
theorem much_any (a : Option Addr) (cap : Nat) (l : List Sv) (w : World) (h : RdT w a l) :
    Calls Tryz.prog 11 #[.slice none 0 0, .slice a l.length cap] w fun e w' => MuchP l e ∧ w' = w := by
  have H := Lib.hid h
  clear h
  go_enter Tryz.func11, Tryz.ntmps11
  go_wp2_with fail
  go_loopw [5, 6] (fun x i wr => x = .int .i64 0 ∧ i = .int .i64 0 ∧ w = wr) (fun _ _ _ => 0)
  case atStart => exact ⟨rfl, rfl, rfl⟩
  case round =>
    obtain ⟨rfl, rfl, rfl⟩ := hrel
    go_wp2_with fail
    go_loopw [5, 7] (fun x i wr => ∃ (t k : Nat), k ≤ l.length ∧ k ≤ 100 ∧ t ≤ 150000 ∧ x = .int .i64 (t : Int) ∧ i = .int .i64 (k : Int) ∧ Hid (∀ v ∈ l.take k, v.b.length ≤ 70000) ∧ w = wr) (fun _ i _ => 100 - (intOf i).toNat)
    case atStart => exact ⟨0, 0, by omega, by omega, by omega, rfl, rfl, Lib.hid (by simp), rfl⟩
    case round =>
      obtain ⟨t, k, hk, hk2, ht, rfl, rfl, HT, rfl⟩ := hrel
      have ht0 : ¬ (150000 : Int) < (t : Int) := by omega
      by_cases hkl : k < l.length
      · by_cases hk6 : k < 100
        · have hk6i : (k : Int) < 100 := by omega
          have hkli : (k : Int) < (l.length : Int) := by omega
          obtain ⟨b, off, hA, hb, hc, hok⟩ := H.out.cell hkl
          have HX : Hid (l.take (k + 1) = l.take k ++ [l[k]]) := Lib.hid (List.take_succ_eq_append_getElem hkl)
          obtain ⟨v, hv⟩ : ∃ v, v = l[k] := ⟨_, rfl⟩
          rw [← hv] at hc HX
          have r2 := hc 2 _ rfl
          clear hv hok hc
          subst hA
          by_cases hb7 : v.b.length ≤ 70000
          · have hb7i : ¬ (70000 : Int) < (v.b.length : Int) := by omega
            by_cases hs : t + v.b.length ≤ 150000
            · have hsi : ¬ (150000 : Int) < (t : Int) + (v.b.length : Int) := by omega
              go_wp2_with fail
              exact ⟨⟨t + v.b.length, k + 1, by omega, by omega, hs, by simp, by simp, Lib.hid (by
                rw [HX.out]
                intro x hx
                rcases List.mem_append.1 hx with hx | hx
                · exact HT.out x hx
                · rw [List.mem_singleton] at hx; rw [hx]; exact hb7), by first | rfl | trivial⟩, by simp only [intOf]; omega⟩
            · have hsi : (150000 : Int) < (t : Int) + (v.b.length : Int) := by omega
              go_wp2_with fail
              go_ret
              exact ⟨⟨true, rfl, fun h => by cases h⟩, rfl⟩
          · have hb7i : (70000 : Int) < (v.b.length : Int) := by omega
            go_wp2_with fail
            go_ret
            exact ⟨⟨true, rfl, fun h => by cases h⟩, rfl⟩
        · have hk6i : ¬ (k : Int) < 100 := by omega
          have hkli : (k : Int) < (l.length : Int) := by omega
          have hke : k = 100 := by omega
          go_wp2_with fail
          go_ret
          exact ⟨⟨_, rfl, fun _ => by rw [← hke]; exact HT.out⟩, rfl⟩
      · have hkli : ¬ (k : Int) < (l.length : Int) := by omega
        have hke : l.take 100 = l.take k := by rw [List.take_of_length_le (by omega), List.take_of_length_le (by omega)]
        go_wp2_with fail
        go_ret
        exact ⟨⟨_, rfl, fun _ => by rw [hke]; exact HT.out⟩, rfl⟩
end Wal
end Go.Proofs.YtaiokogbhfliiaaGreatDoor

namespace Go.Proofs.YtaiokogbhfliiaaGreatDoor
open Go.RowKit Go.Maps

namespace Ref
/-- A file in memory. -/
structure Fv where
  A : Option Addr
  c : Nat
  f : Sto.Fl
def Fv.cells (v : Fv) : List Value := [.slice v.A v.f.b.length v.c, .int .i64 (v.f.sure : Int)]
def E1 (p : Sto.Str × Nat) : List Value := [Sto.str p.1, .int .i64 (p.2 : Int)]
def C4 : Sto.Chg → List Value
  | .put n i => [.int .i64 0, Sto.str n, Sto.str [], .int .i64 (i : Int)]
  | .ren a b i => [.int .i64 1, Sto.str a, Sto.str b, .int .i64 (i : Int)]
  | .del n => [.int .i64 2, Sto.str n, Sto.str [], .int .i64 0]
theorem fvT : RT Tryz.prog 79 126 Fv.cells 2 32 (.agg #[.slice none 0 0, .int .i64 0]) :=
  ⟨Tryz.underlying79, by kernel_rfl, fun _ => rfl, fun _ u hu => by simp [Fv.cells] at hu; rcases hu with h | h <;> (subst h; rfl), by omega, rfl⟩
theorem enT : RT Tryz.prog 80 128 E1 2 24 (.agg #[.string ByteArray.empty, .int .i64 0]) :=
  ⟨Tryz.underlying80, by kernel_rfl, fun _ => rfl, fun _ u hu => by simp [E1, Sto.str] at hu; rcases hu with h | h <;> (subst h; rfl), by omega, rfl⟩
theorem chT : RT Tryz.prog 81 124 C4 4 48 (.agg #[.int .i64 0, .string ByteArray.empty, .string ByteArray.empty, .int .i64 0]) :=
  ⟨Tryz.underlying81, by kernel_rfl, fun a => by cases a <;> rfl, fun a u hu => by cases a <;> (simp [C4, Sto.str] at hu; rcases hu with h | h | h | h <;> (subst h; rfl)), by omega, rfl⟩
/-- Where what lies. -/
structure Mem where
  FA : Option Addr
  fc : Nat
  FV : List Fv
  NA : Option Addr
  nc : Nat
  DA : Option Addr
  dc : Nat
  KA : Option Addr
  kc : Nat
  PA : Option Addr
  pc : Nat
/-- Bytes of its own. -/
structure Rby (w : World) (base : Nat) (A : Option Addr) (b : List UInt8) : Prop where
  rd : RdB w w.heap.size A b
  at_ : ∀ k, blk A = some k → base ≤ k ∧ Sto.Tag w k 5
def stObj (m : Mem) (s : Sto.St) : Obj := .cells #[.int .i64 s.room, .slice m.FA m.FV.length m.fc, .slice m.NA s.now.length m.nc, .slice m.DA s.disk.length m.dc, .slice m.KA s.kept.length m.kc, .slice m.PA s.plan.length m.pc, .bool s.off] 83
/-- All but the store's own block. -/
structure StR (w : World) (base g : Nat) (s : Sto.St) (m : Mem) : Prop where
  gb : base ≤ g
  gl : g < w.heap.size
  fs : m.FV.map Fv.f = s.files
  frow : OwnS Fv.cells 2 w base 126 m.FA m.fc m.FV
  fb : ∀ v ∈ m.FV, Rby w base v.A v.f.b
  fcap : ∀ v ∈ m.FV, v.f.b.length ≤ v.c
  now : OwnS E1 2 w base 128 m.NA m.nc s.now
  disk : OwnS E1 2 w base 128 m.DA m.dc s.disk
  kept : OwnS C4 4 w base 124 m.KA m.kc s.kept
  plan : Rby w base m.PA s.plan
  pcap : s.plan.length ≤ m.pc
  ok : Sto.Ok s
structure StAt (w : World) (base g : Nat) (s : Sto.St) (m : Mem) : Prop where
  box : w.heap[g]? = some (stObj m s)
  r : StR w base g s m
/-- The types of blocks that an operation may turn. -/
abbrev turns : List TypeId := [83, 126, 124]
/-- The rows of bytes that a store leans on. -/
def Row (m : Mem) (k : Nat) : Prop := (∃ v ∈ m.FV, blk v.A = some k) ∨ blk m.PA = some k
/-- What an operation does to memory. -/
structure Aft (ts : List TypeId) (w w' : World) (base : Nat) (R R' : Nat → Prop) : Prop where
  os : w'.os = w.os
  tape : w'.tape = w.tape
  output : w'.output = w.output
  size : w.heap.size ≤ w'.heap.size
  block : ∀ k, k < w.heap.size → (k < base ∨ ∀ T ∈ ts, ¬ Sto.Tag w k T) → w'.heap[k]? = w.heap[k]?
  row : ∀ k, k < w.heap.size → R' k → R k
section
variable {w w' w1 : World} {base g : Nat} {s s' : Sto.St} {m m' : Mem} {ts : List TypeId} {R R' R1 : Nat → Prop}
theorem Aft.refl (w : World) (base : Nat) (R : Nat → Prop) : Aft ts w w base R R := ⟨rfl, rfl, rfl, Nat.le_refl _, fun _ _ _ => rfl, fun _ _ h => h⟩
theorem Aft.of_below (hb : Below w.heap.size w w') (R : Nat → Prop) : Aft ts w w' base R R := ⟨hb.os, hb.tape, hb.output, hb.size, fun k hk _ => hb.block k hk, fun _ _ h => h⟩
theorem Aft.trans (h1 : Aft ts w w1 base R R1) (h2 : Aft ts w1 w' base R1 R') : Aft ts w w' base R R' :=
  ⟨h2.os.trans h1.os, h2.tape.trans h1.tape, h2.output.trans h1.output, Nat.le_trans h1.size h2.size, fun k hk hn => (h2.block k (Nat.lt_of_lt_of_le hk h1.size) (hn.imp id (fun hn T hT t => hn T hT (t.keep (h1.block k hk (.inr hn)).symm)))).trans (h1.block k hk hn),
    fun k hk hm => h1.row k hk (h2.row k (Nat.lt_of_lt_of_le hk h1.size) hm)⟩
theorem Aft.more {us : List TypeId} (h : Aft ts w w' base R R') (hu : ∀ T ∈ ts, T ∈ us) : Aft us w w' base R R' :=
  ⟨h.os, h.tape, h.output, h.size, fun k hk hn => h.block k hk (hn.imp id (fun hn T hT => hn T (hu T hT))), h.row⟩
theorem Aft.rows {S S' : Nat → Prop} (h : Aft ts w w' base R R') (hr : ∀ k, k < w.heap.size → S' k → S k) : Aft ts w w' base S S' := ⟨h.os, h.tape, h.output, h.size, h.block, hr⟩
theorem Aft.below (h : Aft ts w w' base R R') (hB : base ≤ w.heap.size) : Below base w w' := ⟨h.os, h.tape, h.output, h.size, fun k hk => h.block k (Nat.lt_of_lt_of_le hk hB) (.inl hk)⟩
theorem Aft.tag (h : Aft ts w w' base R R') {k : Nat} {T : TypeId} (ht : Sto.Tag w k T) (hT : T ∉ ts) : w'.heap[k]? = w.heap[k]? :=
  h.block k ht.lt (.inr fun U hU t => by
    rcases Nat.decEq T U with hn | he
    · exact ht.ne t hn rfl
    · exact hT (he ▸ hU))
/-- A row of the turning types is turned, or new blocks are made. -/
theorem Aft.grown {row : Option Nat} (hg : w.grownBy w' row) (hr : ∀ k, row = some k → k < w.heap.size → base ≤ k ∧ ∃ T ∈ ts, Sto.Tag w k T) (R : Nat → Prop) : Aft ts w w' base R R :=
  ⟨hg.os, hg.tape, hg.output, hg.size, fun k hk hn => hg.block k hk (fun e => by
    obtain ⟨h1, T, hT, t⟩ := hr k e.symm hk
    rcases hn with hn | hn
    · omega
    · exact hn T hT t), fun _ _ h => h⟩
theorem Rby.keep {A : Option Addr} {b : List UInt8} (h : Rby w base A b) (hs : w.heap.size ≤ w'.heap.size) (hk : ∀ k, blk A = some k → w'.heap[k]? = w.heap[k]?) : Rby w' base A b :=
  ⟨rdB_keepS h.rd hs (fun k e _ => hk k e), fun k e => ⟨(h.at_ k e).1, (h.at_ k e).2.keep (hk k e)⟩⟩
theorem Rby.below {A : Option Addr} {b : List UInt8} (h : Rby w base A b) (hb : Below w.heap.size w w') : Rby w' base A b := h.keep hb.size (fun k e => hb.block k (h.at_ k e).2.lt)
theorem Rby.aft {A : Option Addr} {b : List UInt8} (h : Rby w base A b) (ha : Aft ts w w' base R R') (hu : 5 ∉ ts) : Rby w' base A b := h.keep ha.size (fun k e => ha.tag (h.at_ k e).2 hu)
theorem Rby.nil (w : World) (base : Nat) : Rby w base none [] := ⟨RdB.nil, fun _ e => by cases e⟩
theorem Rby.own {A : Option Addr} {b : List UInt8} {c n : Nat} (h : Own w n 5 A c b) (hn : base ≤ n) : Rby w base A b := ⟨h.rd, fun k e => ⟨Nat.le_trans hn (h.blk_ge k e).1, Sto.ownTag h e⟩⟩
theorem StAt.gt (h : StAt w base g s m) : Sto.Tag w g 83 := ⟨_, _, h.box⟩
/-- All that it leans on is as it was. -/
theorem StR.keep (h : StR w base g s m) (hs : w.heap.size ≤ w'.heap.size) (hk : ∀ k T, Sto.Tag w k T → base ≤ k → T ∈ ([5, 126, 128, 124] : List TypeId) → (T = 5 → Row m k) → w'.heap[k]? = w.heap[k]?) : StR w' base g s m :=
  ⟨h.gb, Nat.lt_of_lt_of_le h.gl hs, h.fs, h.frow.keep (fun k e => hk k _ (Sto.ownTagS h.frow e) (h.frow.blk_ge k e).1 (by decide) (fun e => absurd e (by decide))),
    fun v hv => (h.fb v hv).keep hs (fun k e => hk k _ ((h.fb v hv).at_ k e).2 ((h.fb v hv).at_ k e).1 (by decide) (fun _ => .inl ⟨v, hv, e⟩)), h.fcap,
    h.now.keep (fun k e => hk k _ (Sto.ownTagS h.now e) (h.now.blk_ge k e).1 (by decide) (fun e => absurd e (by decide))), h.disk.keep (fun k e => hk k _ (Sto.ownTagS h.disk e) (h.disk.blk_ge k e).1 (by decide) (fun e => absurd e (by decide))),
    h.kept.keep (fun k e => hk k _ (Sto.ownTagS h.kept e) (h.kept.blk_ge k e).1 (by decide) (fun e => absurd e (by decide))), h.plan.keep hs (fun k e => hk k _ (h.plan.at_ k e).2 (h.plan.at_ k e).1 (by decide) (fun _ => .inr e)), h.pcap, h.ok⟩
theorem StAt.below (h : StAt w base g s m) (hb : Below w.heap.size w w') : StAt w' base g s m := ⟨(hb.block g h.r.gl).trans h.box, h.r.keep hb.size (fun k _ t _ _ _ => hb.block k t.lt)⟩
theorem StAt.cells (h : StAt w base g s m) : w.cell? ⟨g, 0, none⟩ = some (.int .i64 s.room) ∧ w.cell? ⟨g, 1, none⟩ = some (.slice m.FA m.FV.length m.fc) ∧ w.cell? ⟨g, 2, none⟩ = some (.slice m.NA s.now.length m.nc) ∧ w.cell? ⟨g, 3, none⟩ = some (.slice m.DA s.disk.length m.dc) ∧ w.cell? ⟨g, 4, none⟩ = some (.slice m.KA s.kept.length m.kc) ∧ w.cell? ⟨g, 5, none⟩ = some (.slice m.PA s.plan.length m.pc) ∧ w.cell? ⟨g, 6, none⟩ = some (.bool s.off) := by
  have hb := h.box
  unfold stObj at hb
  refine ⟨?_, ?_, ?_, ?_, ?_, ?_, ?_⟩
  all_goals (rw [cell_of_row w g _ _ _ (0, 0) hb]; rfl)
theorem StAt.frozen (h : StAt w base g s m) (j : Nat) : w.frozen? ⟨g, j, none⟩ = false := frozen_of_row w g j _ _ h.box
theorem heap_set7 {x0 x1 x2 x3 x4 x5 x6 : Value} {T : TypeId} (h : w.heap[g]? = some (.cells #[x0, x1, x2, x3, x4, x5, x6] T)) (v : Value) :
    (w.setCell ⟨g, 1, none⟩ v).heap[g]? = some (.cells #[x0, v, x2, x3, x4, x5, x6] T) ∧ (w.setCell ⟨g, 2, none⟩ v).heap[g]? = some (.cells #[x0, x1, v, x3, x4, x5, x6] T) ∧ (w.setCell ⟨g, 3, none⟩ v).heap[g]? = some (.cells #[x0, x1, x2, v, x4, x5, x6] T) ∧
    (w.setCell ⟨g, 4, none⟩ v).heap[g]? = some (.cells #[x0, x1, x2, x3, v, x5, x6] T) ∧ (w.setCell ⟨g, 5, none⟩ v).heap[g]? = some (.cells #[x0, x1, x2, x3, x4, v, x6] T) ∧ (w.setCell ⟨g, 6, none⟩ v).heap[g]? = some (.cells #[x0, x1, x2, x3, x4, x5, v] T) := by
  refine ⟨?_, ?_, ?_, ?_, ?_, ?_⟩
  · have := heap_setCell_same w g 1 _ T v h; simpa using this
  · have := heap_setCell_same w g 2 _ T v h; simpa using this
  · have := heap_setCell_same w g 3 _ T v h; simpa using this
  · have := heap_setCell_same w g 4 _ T v h; simpa using this
  · have := heap_setCell_same w g 5 _ T v h; simpa using this
  · have := heap_setCell_same w g 6 _ T v h; simpa using this
theorem StR.setG (h : StR w base g s m) (ht : Sto.Tag w g 83) (j : Nat) (v : Value) : StR (w.setCell ⟨g, j, none⟩ v) base g s m :=
  h.keep (by simp) (fun k T t _ hT _ => heap_setCell_other w ⟨g, j, none⟩ k v (t.ne ht (fun e => by rw [e] at hT; revert hT; decide)))
theorem Aft.setG (h : Sto.Tag w g 83) (hg : base ≤ g) (j : Nat) (v : Value) (R : Nat → Prop) : Aft turns w (w.setCell ⟨g, j, none⟩ v) base R R :=
  Aft.grown (row := some g) (Sto.grownBy_setS w ⟨g, j, none⟩ v) (fun k e _ => by injection e with e; subst e; exact ⟨hg, _, by decide, h⟩) R
/-- An operation of the store leaves the reference's alone. -/
theorem StAt.beside {b2 g2 : Nat} {s2 : Sto.St} {m2 m3 : Sto.Mem} (h : StAt w base g s m) (hs : Sto.StAt w b2 g2 s2 m2) (ha : Aft0 w w' g2 m2 m3) (hp : ∀ k, Row m k → ¬ Sto.Mut g2 m2 k) : StAt w' base g s m := by
  have hk : ∀ k T, Sto.Tag w k T → T ∈ ([5, 126, 128, 124, 83] : List TypeId) → (T = 5 → Row m k) → w'.heap[k]? = w.heap[k]? := fun k T t hT hr => by
    refine ha.block k t.lt (fun hm => ?_)
    by_cases hu : T = 5
    · exact hp k (hr hu) hm
    · refine hs.not_foot t ?_ ?_ ?_ ?_ ?_ (fun e => absurd e hu) (.inl hm)
      all_goals (intro e; rw [e] at hT; revert hT; decide)
  refine ⟨(hk g _ h.gt (by decide) (fun e => absurd e (by decide))).trans h.box, h.r.keep ha.size (fun k T t _ hT hr => hk k T t ?_ hr)⟩
  revert hT
  simp only [List.mem_cons, List.not_mem_nil, or_false]
  rintro (h | h | h | h) <;> simp [h]
/-- An operation of the reference's leaves the store alone. -/
theorem beside_st {b2 g2 : Nat} {s2 : Sto.St} {m2 : Sto.Mem} (hs : Sto.StAt w b2 g2 s2 m2) (ha : Aft ts w w' base R R') (ht : ∀ T ∈ ([78, 108, 110, 9, 105, 5] : List TypeId), T ∉ ts) : Sto.StAt w' b2 g2 s2 m2 :=
  hs.keep ha.size (fun k hk hf => ha.block k hk (.inr fun T hT t => by
    refine hs.not_foot t ?_ ?_ ?_ ?_ ?_ (fun e => absurd hT (ht T (by rw [e]; decide))) hf
    all_goals (intro e; exact ht T (by rw [e]; decide) hT)))
theorem apart_after {g2 : Nat} {m2 : Sto.Mem} {b2 : Nat} {s2 : Sto.St} (hs : Sto.StAt w b2 g2 s2 m2) (ha : Aft ts w w' base R R') (hp : ∀ k, R k → ¬ Sto.Mut g2 m2 k) : ∀ k, R' k → ¬ Sto.Mut g2 m2 k := fun k hr hm =>
  hp k (ha.row k (hs.r.mut_ge hm).2 hr) hm
theorem apart_real {g2 : Nat} {m2 m3 : Sto.Mem} (h : StAt w base g s m) (ha : Aft0 w w' g2 m2 m3) (hp : ∀ k, Row m k → ¬ Sto.Mut g2 m2 k) : ∀ k, Row m k → ¬ Sto.Mut g2 m3 k := fun k hr hm =>
  hp k hr (ha.turn k (by
    rcases hr with ⟨v, hv, e⟩ | e
    · exact ((h.r.fb v hv).at_ k e).2.lt
    · exact (h.r.plan.at_ k e).2.lt) hm)
end
end Ref
end Go.Proofs.YtaiokogbhfliiaaGreatDoor

namespace Go.Proofs.YtaiokogbhfliiaaGreatDoor
namespace Sto
def Chg.nm : Chg → Prop
  | .put n _ => n.length ≤ 1000
  | .ren _ t _ => t.length ≤ 1000
  | .del _ => True
/-- Every name of the store is at most a thousand bytes. -/
structure Nm (s : St) : Prop where
  now : ∀ p ∈ s.now, p.1.length ≤ 1000
  disk : ∀ p ∈ s.disk, p.1.length ≤ 1000
  kept : ∀ c ∈ s.kept, c.nm
section
variable {s : St} {l : Dir} {n : Str}
theorem nm_made (h : ∀ p ∈ l, p.1.length ≤ 1000) {c : Chg} (hc : c.nm) : ∀ p ∈ made l c, p.1.length ≤ 1000 := by
  intro p hp
  cases c with
  | put n i =>
    rcases mem_put.1 hp with rfl | ⟨h1, _⟩
    · exact hc
    · exact h p h1
  | ren f t i =>
    rcases mem_put.1 hp with rfl | ⟨h1, _⟩
    · exact hc
    · exact h p (List.mem_filter.1 h1).1
  | del n => exact h p (List.mem_filter.1 hp).1
theorem nm_all : ∀ (k : List Chg) (l : Dir), (∀ p ∈ l, p.1.length ≤ 1000) → (∀ c ∈ k, c.nm) → ∀ p ∈ k.foldl made l, p.1.length ≤ 1000
  | [], _, h, _ => h
  | c :: k, l, h, hk => nm_all k (made l c) (nm_made h (hk c (List.mem_cons_self ..))) (fun d hd => hk d (List.mem_cons_of_mem _ hd))
theorem Nm.new (room : Int) : Nm (Sto.new room) := ⟨(fun _ h => by cases h), (fun _ h => by cases h), (fun _ h => by cases h)⟩
theorem Nm.turn (h : Nm s) (p : List UInt8) (o : Bool) : Nm { s with plan := p, off := o } := ⟨h.now, h.disk, h.kept⟩
theorem Nm.files (h : Nm s) (f : List Fl) : Nm { s with files := f } := ⟨h.now, h.disk, h.kept⟩
theorem Nm.meet (h : Nm s) (l : List Str) : Nm (meet s l).2 := by
  rcases meet_cases s l with e | ⟨p, o, e⟩
  · rw [e]; exact h
  · rw [e]; exact h.turn p o
theorem Nm.change (h : Nm s) {c : Chg} (hc : c.nm) : Nm (change s c) :=
  ⟨nm_made h.now hc, h.disk, fun d hd => by
    rcases List.mem_append.1 hd with hd | hd
    · exact h.kept d hd
    · rw [List.mem_singleton] at hd; rw [hd]; exact hc⟩
theorem Nm.create (h : Nm s) (hn : n.length ≤ 1000) : Nm (create s n).2 := by
  have h1 := h.meet [n]
  unfold Sto.create
  simp only
  split
  · exact h1
  · split
    · exact h1
    · exact (h1.files _).change hn
theorem Nm.append (h : Nm s) (b : List UInt8) : Nm (append s n b).2 := by
  have h1 := h.meet [n]
  unfold Sto.append
  simp only
  split
  · exact h1
  · split
    · exact h1
    · split
      · exact h1
      · exact h1.files _
theorem Nm.sync (h : Nm s) : Nm (sync s n).2 := by
  have h1 := h.meet [n]
  unfold Sto.sync
  simp only
  split
  · exact h1
  · split
    · exact h1
    · exact h1.files _
theorem Nm.remove (h : Nm s) : Nm (remove s n).2 := by
  have h1 := h.meet [n]
  unfold Sto.remove
  simp only
  split
  · exact h1
  · split
    · exact h1
    · exact h1.change trivial
theorem Nm.syncDir (h : Nm s) : Nm (syncDir s).2 := by
  have h1 := h.meet []
  unfold Sto.syncDir
  simp only
  split
  · exact h1
  · exact ⟨h1.now, h1.now, fun _ h => by cases h⟩
theorem Nm.crash (h : Nm s) (c : Int) (keep : List Int) : Nm (crash s c keep) := by
  have h1 := nm_all (s.kept.take c.toNat) s.disk h.disk (fun d hd => h.kept d (List.mem_of_mem_take hd))
  exact ⟨h1, h1, fun _ h => by cases h⟩
theorem Nm.names (h : Nm s) : ∀ n ∈ names s, n.length ≤ 1000 := by
  intro n hn
  obtain ⟨p, hp, rfl⟩ := List.mem_map.1 hn
  exact h.now p hp
end
end Sto
namespace Wal
theorem nm_name (n : Nat) : (name n).length ≤ 1000 := by rw [name_len]; omega
theorem nm_mk {s : Sto.St} (h : Sto.Nm s) (l : Lg) : Sto.Nm (mk s l).2.1 := by
  have h1 := h.create (nm_name (l.last + 1))
  have h2 := h1.syncDir
  unfold mk
  simp only
  split
  · exact h
  · split
    · exact h1
    · split <;> exact h2
theorem nm_opens {s : Sto.St} (h : Sto.Nm s) (limit : Int) : Sto.Nm (opens s limit).2.1 := by
  unfold opens
  simp only
  repeat' split
  all_goals first | exact h | exact nm_mk h _
end Wal
end Go.Proofs.YtaiokogbhfliiaaGreatDoor

/- Parts of the proof, one behind the other: Contracts of the store: Size.; Contracts of the store: Append.; Contracts of the store: Off, Read. -/
import Derived.Test.YtekbdedpombgcaaGreatDoorMrg21
import Derived.Maps.RangeWalk
import Derived.Sort.MapsRangeIn
import Derived.Test.YtekbdedpombgcaaGreatDoorMrg44
import Derived.Test.YtekbdedpombgcaaGreatDoorMrg07
namespace Go.Proofs.YtekbdedpombgcaaGreatDoor
open Go.RowKit Go.Maps

namespace Sto
/-- What of a directory has come, summed. -/
def acc (f : Nat → Nat) (left : Lit → Bool) (l : Dir) : Nat := ((l.filter fun p => !left (.string p.1)).map fun p => f p.2).sum
theorem acc_none (f : Nat → Nat) {left : Lit → Bool} {l : Dir} (h : ∀ p ∈ l, left (.string p.1) = true) : acc f left l = 0 := by
  unfold acc
  rw [List.filter_eq_nil_iff.2 (fun p hp => by rw [h p hp]; decide)]
  rfl
theorem acc_all (f : Nat → Nat) {left : Lit → Bool} (l : Dir) (h : ∀ kl, left kl = false) : acc f left l = (l.map fun p => f p.2).sum := by
  unfold acc
  rw [List.filter_eq_self.2 (fun p hp => by rw [h]; rfl)]
theorem acc_step (f : Nat → Nat) {left : Lit → Bool} {n : Str} {i : Nat} : ∀ {l : Dir}, Srt l → (n, i) ∈ l → left (.string n) = true → acc f (fun z => left z && !z.sameKey (.string n)) l = acc f left l + f i
  | [], _, h, _ => by cases h
  | y :: r, hs, hm, hl => by
    obtain ⟨h1, h2⟩ := List.pairwise_cons.1 hs
    have e : ∀ (p : Str × Nat) (lf : Lit → Bool), acc f lf (p :: r) = (if lf (.string p.1) = true then 0 else f p.2) + acc f lf r := fun p lf => by
      unfold acc
      rw [List.filter_cons]
      cases hlf : lf (.string p.1) <;> simp
    rw [e, e]
    have sk : ∀ m : Str, (Lit.string m).sameKey (.string n) = (m == n) := fun m => rfl
    rcases List.mem_cons.1 hm with e1 | hm2
    · subst e1
      have hrest : acc f (fun z => left z && !z.sameKey (.string n)) r = acc f left r := by
        unfold acc
        congr 2
        refine List.filter_congr fun p hp => ?_
        have : (p.1 == n) = false := by
          rw [beq_eq_false_iff_ne]
          intro e2
          have h3 := h1 p hp
          simp only at h3
          rw [e2, WideAt.bytes_irrefl] at h3
          cases h3
        show (!(left (.string p.1) && !(Lit.string p.1).sameKey (.string n))) = _
        rw [sk, this]
        simp
      rw [hrest]
      simp only [sk]
      simp [hl]
      omega
    · have hne : (y.1 == n) = false := by
        rw [beq_eq_false_iff_ne]
        intro e2
        have h3 := h1 _ hm2
        simp only at h3
        rw [e2, WideAt.bytes_irrefl] at h3
        cases h3
      have ih := acc_step f (left := left) h2 hm2 hl
      rw [ih]
      simp only [sk, hne, Bool.not_false, Bool.and_true]
      omega
theorem acc_le (f : Nat → Nat) (left : Lit → Bool) (B : Nat) : ∀ (l : Dir), (∀ p ∈ l, f p.2 ≤ B) → acc f left l ≤ l.length * B
  | [], _ => by simp [acc]
  | y :: r, h => by
    have ih := acc_le f left B r (fun p hp => h p (by simp [hp]))
    have h1 := h y (by simp)
    unfold acc at *
    rw [List.filter_cons]
    have e : (y :: r).length * B = r.length * B + B := by rw [List.length_cons, Nat.succ_mul]
    split
    · rw [List.map_cons, List.sum_cons]; omega
    · omega
def mkP : Option Nat → Value
  | none => .pointer none
  | some g => .pointer (some ⟨g, 0, none⟩)
theorem invP (v : Value) (y : DataW Unit × List MemPlace) (h : ptrR v = some y) : ∃ c, v = mkP c := by
  rcases ptrR_inv h with ⟨rfl, _⟩ | ⟨g, rfl, _⟩
  · exact ⟨none, rfl⟩
  · exact ⟨some g, rfl⟩
theorem invK (key : Value) (kl : Lit) (h : keyOf Tryz.prog 9 key = some kl) : ∃ S, key = Value.string S := Maps.keyOf_string_inv Tryz.underlying9 h
theorem keyVal {S : ByteArray} {kl : Lit} (h : keyOf Tryz.prog 9 (.string S) = some kl) : kl = .string S.data.toList := by
  simp [keyOf, Tryz.underlying9, mapKey] at h
  exact h.2.symm
theorem size_bd {s : St} (h : Ok s) (hf : s.files.length ≤ 1000000) : size s ≤ 16777216000000 ∧ ∀ left, acc (fun i => (file s i).b.length) left s.now ≤ 16777216000000 := by
  have h1 := h.gnow.len
  have key : ∀ left, acc (fun i => (file s i).b.length) left s.now ≤ s.now.length * 16777216 := fun left => acc_le _ left _ s.now (fun p _ => (file_ok h p.2).2)
  have h2 : s.now.length * 16777216 ≤ 1000000 * 16777216 := Nat.mul_le_mul_right _ (by omega)
  refine ⟨?_, fun left => by have := key left; omega⟩
  have := key (fun _ => false)
  rw [acc_all _ _ (fun _ => rfl)] at this
  unfold size
  omega
set_option maxHeartbeats 1000000 in
set_option maxRecDepth 100000 in
theorem size_any (w : World) (base g : Nat) (s : St) (m : Mem) (h : StAt w base g s m) (hf : s.files.length ≤ 1000000) :
    Calls Tryz.prog 184 #[.pointer (some ⟨g, 0, none⟩)] w fun e w' => e = .returned (.int .i64 (size s : Int)) ∧ Below w.heap.size w w' := by
  have H := Lib.hid h
  have HN := Lib.hid h.r.now
  obtain ⟨_, c1, _, _, _, _⟩ := h.cells
  clear h
  go_enter Tryz.func184, Tryz.ntmps184
  go_wp2_with (at_range; refine wpList_range_own _ rfl _ 41 rfl 9 103 law Tryz.underlying41 ptrR m.mn s.now.length _ rfl HN.out ?_; intro w0 hrg0 hg0 hs0)
  go_frame
  have HSZ := Lib.hid (size_bd H.out.r.ok hf)
  go_loopw [3] (fun n wr => ∃ (left : Lit → Bool) (cnt A : Nat), n = .int .i64 (A : Int) ∧ A ≤ 16777216000000 ∧ Hid (A = acc (fun i => (file s i).b.length) left s.now) ∧ Hid (wr.ranges Tryz.prog 9 ptrR m.mn w.heap.size s.now.length (dirD m.bs s.now) left cnt) ∧ Hid (w.grownBy wr none)) (fun _ wr => wr.rangeLeft m.mn w.heap.size)
  case atStart =>
    exact ⟨_, _, 0, rfl, by omega, Lib.hid (acc_none _ (fun p hp => by
      show Maps.has (dirD m.bs s.now) (.string p.1) = true
      rw [dirD_has, H.out.r.ok.gnow.srt.find (show (p.1, p.2) ∈ s.now from hp)]; rfl)).symm, Lib.hid hrg0, Lib.hid hg0⟩
  case round =>
    clear hrg0 hg0 hs0
    obtain ⟨left, cnt, A, rfl, hA, HA, HR, HG⟩ := hrel
    go_wp2_with (at_next; refine wpList_next_ranges _ rfl (.tmp 10) rfl 9 law ptrR Value.string mkP invK invP m.mn w.heap.size _ _ left cnt rfl HR.out ?_ ?_)
    · intro _ hl0
      have HE : Hid ((A : Int) = (size s : Int)) := Lib.hid (by rw [HA.out, acc_all _ _ hl0]; rfl)
      clear hl0
      go_wp2_with fail
      go_ret
      exact ⟨by rw [HE.out]; rfl, (Below.refl _ _).grown HG.out (Nat.le_refl _) (fun _ e => by cases e)⟩
    · intro S c kl y1 y2 w1 cnt1 hkey hlk hRv hat hrg1 hlt hg1 hs1 hen
      have hkl := keyVal hkey
      obtain ⟨n, hn⟩ : ∃ n, n = S.data.toList := ⟨_, rfl⟩
      rw [← hn] at hkl
      subst hkl
      have hfi : ∃ i, find s.now n = some i ∧ mkP c = .pointer (some ⟨m.bs.getD i 0, 0, none⟩) := by
        cases hf2 : find s.now n with
        | none =>
          have h1 := hat .nil
          have h2 := hat (pd 0)
          rw [dirD_at, hf2] at h1 h2
          rw [← h1] at h2
          cases h2
        | some i =>
          have h1 := hat .nil
          rw [dirD_at, hf2] at h1
          subst h1
          exact ⟨i, rfl, ptrR_pd hRv⟩
      obtain ⟨i, hfi, hci⟩ := hfi
      have hi := H.out.r.ok.find_lt hfi
      have hgw1 : w.grownBy w1 none := HG.out.andThen hg1 (fun j hj => by cases hj; exact Or.inl (Nat.le_refl _))
      have hbox := (H.out.r.fl i hi).box
      have hbox1 := (hgw1.block _ (Array.getElem?_eq_some_iff.1 hbox).1 (by simp)).trans hbox
      have q0 := cell_of_row w1 (m.bs.getD i 0) 0 _ _ (0, 0) hbox1
      simp only [List.getElem?_toArray, List.getElem?_cons_zero] at q0
      have hst := acc_step (fun i => (file s i).b.length) (left := left) H.out.r.ok.gnow.srt (find_some hfi) hlk
      have hbd := HSZ.out.2 (fun z => left z && !z.sameKey (.string n))
      rw [hst, ← HA.out] at hbd
      rw [file_at hi] at hbd
      rw [← HA.out, file_at hi] at hst
      obtain ⟨L, hL⟩ : ∃ L, L = s.files[i].b.length := ⟨_, rfl⟩
      rw [← hL] at q0 hst hbd
      obtain ⟨b, hb⟩ : ∃ b, b = m.bs.getD i 0 := ⟨_, rfl⟩
      rw [← hb] at q0 hci
      have HST2 := Lib.hid hst
      have HRG := Lib.hid hrg1
      have HGW := Lib.hid hgw1
      have HLT := Lib.hid hlt
      rw [hci] at hen ⊢
      clear hkey hlk hRv hat hrg1 hg1 hs1 hfi hci hgw1 hbox hbox1 hst hL hb hn hlt
      go_wp2_with fail
      exact ⟨⟨_, cnt1, A + L, by simp, hbd, Lib.hid HST2.out.symm, HRG, HGW⟩, by rw [HRG.out.left_eq, HR.out.left_eq]; exact HLT.out⟩
end Sto
end Go.Proofs.YtekbdedpombgcaaGreatDoor

namespace Go.Proofs.YtekbdedpombgcaaGreatDoor
open Go.RowKit Go.Maps

namespace Sto
theorem append_bad {s s1 : St} {n : Str} {b : List UInt8} {x : Int} (h : (x, s1) = meet s [n]) (h0 : ¬ x = 0) : append s n b = (x, s1) := by
  unfold append
  rw [← h]
  simp [h0]
theorem append_none {s s1 : St} {n : Str} {b : List UInt8} (h : (0, s1) = meet s [n]) (h0 : find s1.now n = none) : append s n b = (4, s1) := by
  unfold append
  rw [← h]
  simp [h0]
theorem append_full {s s1 : St} {n : Str} {b : List UInt8} {i : Nat} (h : (0, s1) = meet s [n]) (h0 : find s1.now n = some i) (hf : s1.room - (size s1 : Int) < (b.length : Int)) : append s n b = (6, s1) := by
  unfold append
  rw [← h]
  simp [h0, hf]
theorem append_ok {s s1 : St} {n : Str} {b : List UInt8} {i : Nat} (h : (0, s1) = meet s [n]) (h0 : find s1.now n = some i) (hf : ¬ s1.room - (size s1 : Int) < (b.length : Int)) : append s n b = (0, setF s1 i ⟨(file s1 i).b ++ b, (file s1 i).sure⟩) := by
  unfold append
  rw [← h]
  simp [h0, hf]
section
variable {w w1 : World} {base g : Nat} {s : St} {m : Mem}
/-- Bytes put behind a file's. -/
theorem StAt.setBytes (h : StAt w base g s m) {i : Nat} (hi : i < s.files.length) {b : List UInt8} {A' : Option Addr} {c' : Nat} (hg : w.grownBy w1 (blk (m.row i).1)) (ho : Own w1 base 5 A' c' (s.files[i].b ++ b)) (hat : blk A' = blk (m.row i).1 ∨ blk A' = some w.heap.size) (hl : (s.files[i].b ++ b).length ≤ 16777216) :
    StAt (w1.setCell ⟨m.bs.getD i 0, 0, none⟩ (.slice A' (s.files[i].b ++ b).length c')) base g (Sto.setF s i ⟨s.files[i].b ++ b, s.files[i].sure⟩) { m with rows := m.rows.set i (A', c') } ∧
    Aft w (w1.setCell ⟨m.bs.getD i 0, 0, none⟩ (.slice A' (s.files[i].b ++ b).length c')) g m { m with rows := m.rows.set i (A', c') } := by
  have hf := h.r.fl i hi
  have hbl := h.r.bsl
  have hrl := h.r.rwl
  have tb : Tag w (m.bs.getD i 0) 107 := h.r.bs_tag (bs_mem (by omega))
  have hri : m.row i ∈ m.rows := row_mem (by omega)
  have hrb : blk (m.row i).1 ≠ some (m.bs.getD i 0) := fun e => (h.r.row_tag hri e).ne tb (by decide) rfl
  have hb1 : w1.heap[m.bs.getD i 0]? = some (.cells #[.slice (m.row i).1 s.files[i].b.length (m.row i).2, .int .i64 (s.files[i].sure : Int)] 107) := (hg.block _ tb.lt (fun e => hrb e.symm)).trans hf.box
  have hx := heap_setCell_same w1 (m.bs.getD i 0) 0 _ _ (.slice A' (s.files[i].b ++ b).length c') hb1
  have hA : blk A' ≠ some (m.bs.getD i 0) := fun e => by
    rcases hat with h1 | h1
    · exact hrb (h1 ▸ e)
    · rw [h1] at e
      injection e with e
      have := tb.lt
      omega
  have hk : ∀ k, k < w.heap.size → k ≠ m.bs.getD i 0 → blk (m.row i).1 ≠ some k → (w1.setCell ⟨m.bs.getD i 0, 0, none⟩ (.slice A' (s.files[i].b ++ b).length c')).heap[k]? = w.heap[k]? := fun k h1 h2 h3 => by
    rw [heap_setCell_other w1 _ k _ h2]
    exact hg.block k h1 (fun e => h3 e.symm)
  have hr : ∀ k, blk A' = some k → k < w.heap.size → blk (m.row i).1 = some k := fun k e hlt => by
    rcases hat with h1 | h1
    · exact h1 ▸ e
    · rw [h1] at e
      injection e with e
      omega
  have hsu := h.r.ok.sure _ (List.getElem_mem hi)
  have hs : w.heap.size ≤ (w1.setCell ⟨m.bs.getD i 0, 0, none⟩ (.slice A' (s.files[i].b ++ b).length c')).heap.size := by simpa using hg.size
  refine ⟨h.setF hi hs hk ⟨by simpa using hx, own_keepS ho (fun k e => heap_setCell_other w1 _ k _ (fun e2 => hA (by rw [e]; exact congrArg some e2)))⟩ hr (by simp; omega) hl, ?_⟩
  exact Aft.setF h hi hg.os hg.tape hg.output hs hk hr
/-- What putting bytes behind a file's comes to. -/
def apx (s : St) (i : Nat) (b : List UInt8) : Int × St := if s.room - (size s : Int) < (b.length : Int) then (6, s) else (0, Sto.setF s i ⟨(file s i).b ++ b, (file s i).sure⟩)
set_option maxHeartbeats 1000000 in
set_option maxRecDepth 100000 in
theorem append1_any (bA : Option Addr) (bc : Nat) (b : List UInt8) (h : StAt w base g s m) {i : Nat} {n : Str} (hfi : find s.now n = some i) (hb : RdB w w.heap.size bA b) (hf : s.files.length ≤ 1000000) (x y : Nat) (hx : w.heap[x]? = some (.cells #[.pointer (some ⟨g, 0, none⟩)] 24)) (hy : w.heap[y]? = some (.cells #[.slice bA b.length bc] 34)) :
    Calls Tryz.prog 183 #[.pointer (some ⟨m.bs.getD i 0, 0, none⟩), .pointer (some ⟨y, 0, none⟩), .pointer (some ⟨x, 0, none⟩)] w (OpP w base g m (apx s i b)) := by
  have hi : i < s.files.length := h.r.ok.find_lt hfi
  have q0 := cell_of_row w x 0 _ _ (0, 0) hx
  have q1 := cell_of_row w y 0 _ _ (0, 0) hy
  simp only [List.getElem?_toArray, List.getElem?_cons_zero] at q0 q1
  have H := Lib.hid h
  have HB := Lib.hid hb
  have HY := Lib.hid hy
  have HFI := Lib.hid hfi
  obtain ⟨c0, _, _, _, _, _⟩ := h.cells
  have KS := Lib.hid (fun X (hX : Below w.heap.size w X) => size_any X base g s m (h.below hX) hf)
  obtain ⟨hrm0, hrm⟩ := h.r.ok.room
  have hsz := (size_bd h.r.ok hf).1
  obtain ⟨Z, hZ⟩ : ∃ Z, Z = size s := ⟨_, rfl⟩
  obtain ⟨rm, hr2⟩ : ∃ rm, rm = s.room := ⟨_, rfl⟩
  have HZ := Lib.hid (And.intro hZ hr2)
  rw [← hZ] at KS hsz
  rw [← hr2] at c0 hrm hrm0
  clear h hb hfi hZ hr2
  have KSP := Lib.hid (fun p : BelowW w => p.calls (KS.out p.X p.hb))
  have e0 : ∀ p : BelowW w, p.X.cell? ⟨x, 0, none⟩ = some (.pointer (some ⟨g, 0, none⟩)) := fun p => (p.hb.cell (p := ⟨x, 0, none⟩) (Array.getElem?_eq_some_iff.1 hx).1).trans q0
  have e1 : ∀ p : BelowW w, p.X.cell? ⟨y, 0, none⟩ = some (.slice bA b.length bc) := fun p => (p.hb.cell (p := ⟨y, 0, none⟩) (Array.getElem?_eq_some_iff.1 hy).1).trans q1
  have e2 : ∀ p : BelowW w, p.X.cell? ⟨g, 0, none⟩ = some (.int .i64 rm) := fun p => (p.hb.cell (p := ⟨g, 0, none⟩) H.out.r.gt.lt).trans c0
  have hwr : IntKind.i64.wrap (rm - (Z : Int)) = rm - (Z : Int) := by rw [IntKind.wrap_i64]; omega
  obtain ⟨fb, hfb⟩ : ∃ fb, fb = m.bs.getD i 0 := ⟨_, rfl⟩
  rw [← hfb]
  have HFB := Lib.hid hfb
  clear hx hy hfb
  go_enter Tryz.func183, Tryz.ntmps183
  go_wp2_with fail
  refine wp_region_below (by kernel_rfl) (by kernel_rfl) ?_
  repeat (refine wpQuiet_step (fun K hK => ?_); go_simp; first | (refine hK _ ?_; clear hK K) | (apply Exists.intro; refine ⟨fun _ => ?_, hK _ ?_⟩; (exact KSP.out _); clear hK K))
  refine wpQuiet_nil ?_
  rintro _ ⟨p, rfl⟩
  obtain ⟨Y, hbY⟩ := p
  have HBY := Lib.hid hbY
  have HSY := Lib.hid (H.out.below hbY)
  show Exit.then _ _ _ _ Y
  clear hbY e0 e1 e2 KS KSP
  by_cases hful : rm - (Z : Int) < (b.length : Int)
  · have HE : Hid (apx s i b = (6, s)) := Lib.hid (by unfold apx; rw [if_pos (by rw [← HZ.out.1, ← HZ.out.2]; exact hful)])
    go_wp2_with fail
    go_ret
    rw [HE.out]
    exact ⟨rfl, m, HSY.out, Aft.of_below HBY.out⟩
  · have HE : Hid (apx s i b = (0, Sto.setF s i ⟨(file s i).b ++ b, (file s i).sure⟩)) := Lib.hid (by unfold apx; rw [if_neg (by rw [← HZ.out.1, ← HZ.out.2]; exact hful)])
    obtain ⟨V, hV⟩ : ∃ V, Y.drew = V := ⟨_, rfl⟩
    have hbV : Below Y.heap.size Y V := by rw [← hV]; exact (Below.refl _ _).drew
    have HSV := Lib.hid (HSY.out.below hbV)
    have HBV := Lib.hid (HBY.out.trans (hbV.mono HBY.out.size))
    clear hbV
    have hbx := (HSV.out.r.fl i hi).box
    have HOW := Lib.hid (HSV.out.r.fl i hi).own
    have HRY := Lib.hid ((HB.out.below HBV.out (Nat.le_refl _)).more HBV.out.size)
    have hle : s.files[i].b.length + b.length ≤ 16777216 := by
      have h1 := size_ge (s := s) HFI.out
      rw [file_at hi, ← HZ.out.1] at h1
      omega
    have hbz : base ≤ V.heap.size := Nat.le_trans H.out.r.gb (Nat.le_trans (Nat.le_of_lt H.out.r.gt.lt) HBV.out.size)
    have d0 := cell_of_row V (m.bs.getD i 0) 0 _ _ (0, 0) hbx
    have f0 := frozen_of_row V (m.bs.getD i 0) 0 _ _ hbx
    have d1 := (HBV.out.cell (p := ⟨y, 0, none⟩) (Array.getElem?_eq_some_iff.1 HY.out).1).trans q1
    simp only [List.getElem?_toArray, List.getElem?_cons_zero] at d0
    have HBX := Lib.hid hbx
    obtain ⟨rA, hrA⟩ : ∃ rA, rA = (m.row i).1 := ⟨_, rfl⟩
    obtain ⟨rc, hrc⟩ : ∃ rc, rc = (m.row i).2 := ⟨_, rfl⟩
    have HRC := Lib.hid hrc
    obtain ⟨l, hl⟩ : ∃ l, l = s.files[i].b := ⟨_, rfl⟩
    have HEQ : Hid (rA = (m.row i).1 ∧ l = s.files[i].b) := Lib.hid ⟨hrA, hl⟩
    rw [← hrA, ← hrc, ← HFB.out, ← hl] at d0
    rw [← hrA, ← hrc, ← hl] at HOW
    rw [← HFB.out] at f0
    rw [← hl] at hle
    have HLT : Hid (fb < V.heap.size ∧ some fb ≠ blk rA) := Lib.hid ⟨by rw [HFB.out]; exact (Array.getElem?_eq_some_iff.1 hbx).1, fun e => by
      rw [HFB.out, hrA] at e
      exact (HSV.out.r.row_tag (row_mem (by have := HSV.out.r.rwl; omega)) e.symm).ne (HSV.out.r.bs_tag (bs_mem (by have := HSV.out.r.bsl; omega))) (by decide) rfl⟩
    have HYL : Hid (y < V.heap.size ∧ some y ≠ blk rA) := Lib.hid ⟨Nat.lt_of_lt_of_le (Array.getElem?_eq_some_iff.1 HY.out).1 HBV.out.size, fun e => by
      rw [hrA] at e
      have ty : Tag V y 34 := ⟨_, _, (HBV.out.block y (Array.getElem?_eq_some_iff.1 HY.out).1).trans HY.out⟩
      exact (HSV.out.r.row_tag (row_mem (by have := HSV.out.r.rwl; omega)) e.symm).ne ty (by decide) rfl⟩
    rw [← HFB.out] at HBX
    clear hrA hrc hl hbx
    go_wp2_with fail
    have HS0 : V.cell? ⟨fb, 0, none⟩ = some (.slice rA l.length rc) ∧ V.cell? ⟨y, 0, none⟩ = some (.slice bA b.length bc) := ⟨d0, d1⟩
    refine wp_region_E 9 (fun w' => w'.cell? ⟨fb, 0, none⟩ = some (.slice rA l.length rc) ∧ w'.cell? ⟨y, 0, none⟩ = some (.slice bA b.length bc)) (by kernel_rfl) ?_
    rw [hV]
    clear hV
    refine wpAnyE_take (i := 0) (v := ?_) rfl (by kernel_rfl) (by kernel_rfl) (by kernel_rfl) (by kernel_rfl) (fun _ _ _ h => h) (Or.inl ⟨by rfl, ?_⟩) HS0 ?_
    rotate_left
    · (intro wy hSw; obtain ⟨s1, s2x⟩ := hSw; go_simp; try with_reducible rfl)
    try simp only [Act.put, List.setIfInBounds_toArray]
    refine wpAnyE_take (i := 1) (v := ?_) rfl (by kernel_rfl) (by kernel_rfl) (by kernel_rfl) (by kernel_rfl) (fun _ _ _ h => h) (Or.inl ⟨by rfl, ?_⟩) HS0 ?_
    rotate_left
    · (intro wy hSw; obtain ⟨s1, s2x⟩ := hSw; go_simp; try with_reducible rfl)
    try simp only [Act.put]
    refine wpAnyE_take (i := 2) (v := ?_) rfl (by kernel_rfl) (by kernel_rfl) (by kernel_rfl) (by kernel_rfl) (fun _ _ _ h => h) (Or.inl ⟨by rfl, ?_⟩) HS0 ?_
    rotate_left
    · (intro wy hSw; obtain ⟨s1, s2x⟩ := hSw; go_simp; try with_reducible rfl)
    try simp only [Act.put]
    refine wpAnyE_take (i := 3) (v := ?_) rfl (by kernel_rfl) (by kernel_rfl) (by kernel_rfl) (by kernel_rfl) (fun _ _ _ h => h) (Or.inl ⟨by rfl, ?_⟩) HS0 ?_
    rotate_left
    · (intro wy hSw; obtain ⟨s1, s2x⟩ := hSw; go_simp; try with_reducible rfl)
    try simp only [Act.put]
    refine wpAnyE_take (i := 4) (v := ?_) rfl (by kernel_rfl) (by kernel_rfl) (by kernel_rfl) (by kernel_rfl) (fun _ _ _ h => h) (Or.inl ⟨by rfl, ?_⟩) HS0 ?_
    rotate_left
    · (intro wy hSw; obtain ⟨s1, s2x⟩ := hSw; go_simp; try with_reducible rfl)
    try simp only [Act.put]
    refine wpAnyE_one (i := 5) (by kernel_rfl) rfl (fun K hK => ?_)
    go_simp
    refine hK _ _ HS0 ?_
    clear HS0
    refine wpAnyE_one (i := 6) (by kernel_rfl) rfl (fun K hK => ?_)
    refine step_append_be V (by rfl) (some 21) (by rfl) (.tmp 19) (.tmp 20) bt (by rfl) base rA rc l rfl HOW.out V.heap.size bA b.length bc b rfl rfl HRY.out (by omega) hbz ?_
    intro A3 c3 l3 w8 hl3 ho3 hg3 hat3
    have hb8 := (hg3.block fb HLT.out.1 HLT.out.2).trans HBX.out
    have f8 := frozen_of_row w8 fb 0 _ _ hb8
    have d8 := cell_of_row w8 fb 0 _ _ (0, 0) hb8
    rw [← HEQ.out.1, ← HRC.out, ← HEQ.out.2] at d8
    simp only [List.getElem?_toArray, List.getElem?_cons_zero] at d8
    have HL3 := Lib.hid hl3
    have HO3 := Lib.hid ho3
    have HG3 := Lib.hid hg3
    have HAT := Lib.hid hat3
    clear hl3 ho3 hg3 hat3 hb8
    have HSET := Lib.hid (fun hl => HSV.out.setBytes hi (b := b) (w1 := w8) (A' := A3) (c' := c3) (by rw [← HEQ.out.1]; exact HG3.out) (by rw [← HEQ.out.2, ← HL3.out]; exact HO3.out) (by rw [← HEQ.out.1]; exact HAT.out) hl)
    have d9 := HG3.out.cell d1 HYL.out.2
    refine hK _ _ ⟨d8, d9⟩ ?_
    try simp only [Act.put, List.setIfInBounds_toArray]
    refine wpAnyE_one (i := 7) (by kernel_rfl) rfl (fun K hK => ?_)
    go_simp
    refine hK _ _ ⟨d8, d9⟩ ?_
    refine wpAnyE_one (i := 8) (by kernel_rfl) rfl (fun K hK => ?_)
    go_simp
    refine hK _ _ ⟨d8, d9⟩ ?_
    refine wpAnyE_last (by kernel_rfl) (by kernel_rfl) rfl (fun K hK => ?_)
    go_simp
    refine hK _ _ ?_
    have HFIN : Hid (OpP w base g m (apx s i b) (.returned (.int .i64 0)) (w8.setCell ⟨fb, 0, none⟩ (.slice A3 l3.length c3))) := Lib.hid (by
      have h1 := HSET.out (by rw [← HEQ.out.2, List.length_append]; exact hle)
      rw [← HFB.out, ← HEQ.out.2, ← HL3.out] at h1
      rw [HE.out, file_at hi, ← HEQ.out.2, ← HL3.out]
      exact ⟨rfl, _, h1.1, (Aft.of_below HBV.out).trans h1.2⟩)
    clear d8 d9 f8
    go_wp2_with fail
    go_ret
    exact HFIN.out
theorem append_apx {s s1 : St} {n : Str} {b : List UInt8} {i : Nat} (h : (0, s1) = meet s [n]) (h0 : find s1.now n = some i) : append s n b = apx s1 i b := by
  unfold apx
  split
  · exact append_full h h0 (by assumption)
  · exact append_ok h h0 (by assumption)
set_option maxHeartbeats 1000000 in
set_option maxRecDepth 100000 in
theorem append_any (n : Str) (hn : n.length ≤ maxLen) (bA : Option Addr) (bc : Nat) (b : List UInt8) (h : StAt w base g s m) (hb : RdB w w.heap.size bA b) (hp : Apart w g m bA) (hf : s.files.length ≤ 1000000) :
    Calls Tryz.prog 119 #[.pointer (some ⟨g, 0, none⟩), .string ⟨n.toArray⟩, .slice bA b.length bc] w (OpP w base g m (append s n b)) := by
  obtain ⟨x, hx⟩ : ∃ x, x = meet s [n] := ⟨_, rfl⟩
  obtain ⟨x0, s1⟩ := x
  obtain ⟨P, hP⟩ : ∃ P, P = Obj.cells #[.pointer (some ⟨g, 0, none⟩)] 24 := ⟨_, rfl⟩
  obtain ⟨N, hN⟩ : ∃ N, N = Obj.cells #[.slice bA b.length bc] 34 := ⟨_, rfl⟩
  have hb0 : Below w.heap.size w ((w.alloc P).alloc N) := ((Below.refl _ _).alloc (Nat.le_refl _) _).alloc (by simp) _
  have hx0 : ((w.alloc P).alloc N).heap[w.heap.size]? = some P := by rw [Below.heap_alloc _ _ _ (by simp)]; exact heap_alloc_new w _
  have hx1 : ((w.alloc P).alloc N).heap[w.heap.size + 1]? = some N := by
    have := heap_alloc_new (w.alloc P) N
    rwa [show (w.alloc P).heap.size = w.heap.size + 1 by simp] at this
  have KW := Lib.hid (with_any 183 [.pointer (some ⟨w.heap.size + 1, 0, none⟩), .pointer (some ⟨w.heap.size, 0, none⟩)] (fun _ _ => rfl) n hn ((w.alloc P).alloc N) base g s m (h.below hb0) x0 s1 hx (OpP ((w.alloc P).alloc N) base g m (append s n b)) (fun e w' h => ⟨_, h.1⟩) (fun h0 w1 A1 c1 i hst haf hfi => by
    subst h0
    rw [append_apx hx hfi]
    have hmf : s1.files = s.files := by
      have h1 := meet_files s [n]
      rw [← hx] at h1
      exact h1.1
    have nm : ∀ k, w.heap.size ≤ k → ¬ Mut g m k := fun k hk hm => by have := (h.r.mut_ge hm).2; omega
    have hz : ((w.alloc P).alloc N).heap.size = w.heap.size + 2 := by simp
    refine (append1_any bA bc b hst hfi (rdB_aft hb hp ((Aft.of_below hb0).trans haf)) (by rw [hmf]; exact hf) w.heap.size (w.heap.size + 1) ?_ ?_).mono fun e w' ⟨h1, m', h2, h3⟩ => ⟨h1, m', h2, haf.trans h3⟩
    · rw [haf.block _ (by omega) (nm _ (Nat.le_refl _)), hx0, hP]
    · rw [haf.block _ (by omega) (nm _ (by omega)), hx1, hN]))
  have HX := Lib.hid hx
  have HA0 : Hid (Aft w ((w.alloc P).alloc N) g m m) := Lib.hid (Aft.of_below hb0)
  rw [hP, hN] at KW HA0
  clear h hb hp hx hx0 hx1 hb0 hP hN
  obtain ⟨S, hS⟩ : ∃ S, S = (⟨n.toArray⟩ : ByteArray) := ⟨_, rfl⟩
  rw [← hS] at KW ⊢
  clear hS
  go_enter Tryz.func119, Tryz.ntmps119
  go_wp2_with fail
  refine KW.out.mono ?_
  intro e w1 hP
  have HP : Hid (OpP w base g m (append s n b) e w1) := Lib.hid (by
    rcases hP with ⟨h0, h1, m', h2, h3⟩ | ⟨h0, h1, h4, m', h2, h3⟩ | ⟨_, _, h1, m', h2, h3⟩
    · rw [append_bad HX.out h0]; exact ⟨h1, m', h2, HA0.out.trans h3⟩
    · subst h0
      rw [append_none HX.out h1]; exact ⟨h4, m', h2, HA0.out.trans h3⟩
    · exact ⟨h1, m', h2, HA0.out.trans h3⟩)
  obtain ⟨x, hx2⟩ : ∃ x, x = (append s n b).1 := ⟨_, rfl⟩
  have he : e = .returned (.int .i64 x) := by rw [hx2]; exact HP.out.1
  subst he
  clear hP hx2
  go_wp2_with fail
  go_ret
  exact HP.out
end
end Sto
end Go.Proofs.YtekbdedpombgcaaGreatDoor

namespace Go.Proofs.YtekbdedpombgcaaGreatDoor
open Go.RowKit Go.Maps

namespace Sto
section
variable {w : World} {base g : Nat} {s : St} {m : Mem}
set_option maxRecDepth 100000 in
theorem off_any (h : StAt w base g s m) : Calls Tryz.prog 25 #[.pointer (some ⟨g, 0, none⟩)] w fun e w' => e = .returned (.bool s.off) ∧ w' = w := by
  obtain ⟨_, _, _, _, _, c5⟩ := h.cells
  clear h
  go_enter Tryz.func25, Tryz.ntmps25
  go_wp2_with fail
  go_ret
  exact ⟨rfl, rfl⟩
/-- What Read gives. -/
def ReadP (w : World) (x : Int × List UInt8) (e : Ending) (w' : World) : Prop := Below w.heap.size w w' ∧ ∃ A c, e = .returned (.tuple #[.slice A x.2.length c, .int .i64 x.1]) ∧ Own w' w.heap.size 5 A c x.2
set_option maxHeartbeats 1000000 in
set_option maxRecDepth 100000 in
theorem read_any (n : Str) (hn : n.length ≤ maxLen) (h : StAt w base g s m) :
    Calls Tryz.prog 14 #[.pointer (some ⟨g, 0, none⟩), .string ⟨n.toArray⟩] w (ReadP w (read s n)) := by
  have H := Lib.hid h
  have HRD := Lib.hid (rd_str_new w n)
  obtain ⟨_, c1, _, _, _, c5⟩ := h.cells
  obtain ⟨o, ho⟩ : ∃ o, o = s.off := ⟨_, rfl⟩
  rw [← ho] at c5
  have HO := Lib.hid ho
  obtain ⟨S, hS⟩ : ∃ S, S = (⟨n.toArray⟩ : ByteArray) := ⟨_, rfl⟩
  rw [← hS] at HRD ⊢
  have HS := Lib.hid hS
  clear h hS ho
  go_enter Tryz.func14, Tryz.ntmps14
  rcases o with _ | _
  · have KN := Lib.hid (named_any (some ⟨w.heap.size, 0, none⟩) 1 [n] (w.alloc (.cells #[.string S] 9)) (HRD.out.more (by simp)) (by simp) (by simp; unfold maxLen at hn; omega))
    obtain ⟨q, hq⟩ : ∃ q, q = isName n := ⟨_, rfl⟩
    rw [show [n].all isName = q by simp [hq]] at KN
    have HQ := Lib.hid hq
    clear hq
    go_wp2_with fail
    refine KN.out.mono ?_
    rintro e w1 ⟨rfl, hb1⟩
    have HB1 : Hid (Below w.heap.size w w1) := Lib.hid (((Below.refl _ _).alloc (Nat.le_refl _) _).trans (hb1.mono (by simp)))
    have H1 := Lib.hid (H.out.below HB1.out)
    obtain ⟨_, d1, _, _, _, _⟩ := H1.out.cells
    clear hb1
    rcases q with _ | _
    · have HE : Hid (read s n = (1, [])) := Lib.hid (by unfold read; rw [← HO.out, ← HQ.out]; rfl)
      go_wp2_with fail
      go_ret2
      rw [HE.out]
      exact ⟨HB1.out, none, 0, rfl, Own.nil _ _ _⟩
    · have HKY : Hid (keyOf Tryz.prog 9 (.string S) = some (.string n)) := Lib.hid (by rw [HS.out]; exact hkey n hn)
      have hrun := look_dir H1.out.r.now HKY.out
      obtain ⟨fo, hfo⟩ : ∃ fo, fo = find s.now n := ⟨_, rfl⟩
      rw [← hfo] at hrun
      have HFO := Lib.hid hfo
      clear hfo
      rcases fo with _ | i
      · have hrun' : (Instr.lookup 41 (.map (some m.mn)) (.string S) true).run Tryz.prog w1 = .ok (.tuple #[.pointer none, .bool false]) w1 := hrun
        have HE : Hid (read s n = (4, [])) := Lib.hid (by unfold read; rw [← HO.out, ← HQ.out, ← HFO.out]; rfl)
        clear hrun
        go_wp2_with fail
        go_ret2
        rw [HE.out]
        exact ⟨HB1.out, none, 0, rfl, Own.nil _ _ _⟩
      · have hrun' : (Instr.lookup 41 (.map (some m.mn)) (.string S) true).run Tryz.prog w1 = .ok (.tuple #[.pointer (some ⟨m.bs.getD i 0, 0, none⟩), .bool true]) w1 := hrun
        have HE : Hid (read s n = (0, (file s i).b)) := Lib.hid (by unfold read; rw [← HO.out, ← HQ.out, ← HFO.out]; rfl)
        have hi : i < s.files.length := H1.out.r.ok.find_lt HFO.out.symm
        have hbx := (H1.out.r.fl i hi).box
        have hlen := (file_ok H1.out.r.ok i).2
        have hown := (H1.out.r.fl i hi).own.rd
        rw [← file_at hi] at hbx hown
        have e0 := cell_of_row w1 (m.bs.getD i 0) 0 _ _ (0, 0) hbx
        simp only [List.getElem?_toArray, List.getElem?_cons_zero] at e0
        have KC := Lib.hid (clone_any (m.row i).1 (m.row i).2 (file s i).b w1 hown (by omega))
        obtain ⟨b, hb⟩ : ∃ b, b = m.bs.getD i 0 := ⟨_, rfl⟩
        obtain ⟨rA, hrA⟩ : ∃ rA, rA = (m.row i).1 := ⟨_, rfl⟩
        obtain ⟨rc, hrc⟩ : ∃ rc, rc = (m.row i).2 := ⟨_, rfl⟩
        obtain ⟨l, hl⟩ : ∃ l, l = (file s i).b := ⟨_, rfl⟩
        rw [← hb, ← hrA, ← hrc, ← hl] at e0
        rw [← hrA, ← hrc, ← hl] at KC
        rw [← hl] at HE
        rw [← hb] at hrun'
        clear hrun hbx hown hb hrA hrc hl hlen
        go_wp2_with fail
        refine KC.out.mono ?_
        rintro e w2 ⟨A2, c2, rfl, ho2, hb2⟩
        have HO2 := Lib.hid ho2
        have HB2 := Lib.hid (HB1.out.trans (hb2.mono HB1.out.size))
        clear ho2 hb2
        go_wp2_with fail
        go_ret2
        rw [HE.out]
        exact ⟨HB2.out, A2, c2, rfl, HO2.out.mono HB1.out.size⟩
  · go_wp2_with fail
    go_ret2
    have HE : read s n = (8, []) := by unfold read; rw [← HO.out]; rfl
    rw [HE]
    exact ⟨Below.refl _ _, none, 0, rfl, Own.nil _ _ _⟩
end
end Sto
end Go.Proofs.YtekbdedpombgcaaGreatDoor

/- Parts of the proof, one behind the other: What statement.Print prints, as a function; how long it is.; The contract of the closure of statement.Print that prints a line; of strings.Lines.; statement.Parse, plainly: words of a line, what a line adds; the words box taken step by step.; The contract of statement.Print, exactly. -/
import Derived.Test.YtlmejpkngnilcaaGreatDoorMrg28
import Derived.Test.YtlmejpkngnilcaaGreatDoorMrg24
import Derived.Test.YtlmejpkngnilcaaGreatDoorMrg36
import Derived.Lib.Join
import Derived.Laws.Concat
import Derived.Lib.SplitLaws
import Derived.Deep.RegionHeldLaw
namespace Go.Proofs.YtlmejpkngnilcaaGreatDoor
open Go.RowKit

/-- The texts of days. -/
def Dates (f : Int → List UInt8) : Prop := ∀ n, 0 ≤ n → n ≤ 3652058 → ∃ y m d : Int, IsDate n y m d ∧ f n = Dig.text y m d
theorem dates_ex : ∃ f, Dates f := by
  have h : ∀ n : Int, ∃ t : List UInt8, 0 ≤ n → n ≤ 3652058 → ∃ y m d : Int, IsDate n y m d ∧ t = Dig.text y m d := fun n => by
    by_cases hn : 0 ≤ n ∧ n ≤ 3652058
    · obtain ⟨e, w', fr, ⟨⟨y, m, d, hd, _⟩, _⟩, _⟩ := date_yes n hn.1 hn.2 default []
      exact ⟨_, fun _ _ => ⟨y, m, d, hd, rfl⟩⟩
    · exact ⟨[], fun h1 h2 => absurd ⟨h1, h2⟩ hn⟩
  exact Classical.skolem.1 h
theorem Dates.len {f : Int → List UInt8} (h : Dates f) {n : Int} (h0 : 0 ≤ n) (h1 : n ≤ 3652058) : (f n).length = 10 := by
  obtain ⟨y, m, d, _, e⟩ := h n h0 h1
  rw [e, Dig.text_length]
set_option maxRecDepth 100000 in
theorem date_any (f : Int → List UInt8) (hf : Dates f) (n : Int) (h0 : 0 ≤ n) (h1 : n ≤ 3652058) (w : World) (ht : Tab w) :
    Calls Tryz.prog 17 #[.int .i64 n] w fun e w' => e = .returned (.string ⟨(f n).toArray⟩) ∧ Below w.heap.size w w' := by
  have KT : Hid (Calls Tryz.prog 45 #[.int .i64 n] w fun e w' => e = .returned (.tuple #[.string ⟨(f n).toArray⟩, .int .i64 0]) ∧ Below w.heap.size w w') := Lib.hid ((text_yes n h0 h1 w ht).mono fun e w' ⟨h2, h3⟩ => by
    obtain ⟨y, m, d, hd, e1⟩ := hf n h0 h1
    exact ⟨by rw [textOf_get h2 hd, e1], h3⟩)
  obtain ⟨S, hS⟩ : ∃ S : ByteArray, S = ⟨(f n).toArray⟩ := ⟨_, rfl⟩
  rw [← hS] at KT ⊢
  clear hS hf ht h0 h1
  go_enter Tryz.func17, Tryz.ntmps17
  go_wp2_with fail
  refine KT.out.mono ?_
  rintro e w1 ⟨rfl, hb1⟩
  go_wp2_with fail
  go_ret
  exact ⟨rfl, hb1⟩
/-- One line. -/
def lineL (ws : List (List UInt8)) : List UInt8 := Lib.join ws [32] ++ [10]
theorem join_len (x : List UInt8) (r : List (List UInt8)) : (Lib.join (x :: r) [32]).length = x.length + (r.map (fun y => y.length + 1)).sum := by
  rw [Lib.join_cons]
  unfold Lib.joinTail
  rw [List.length_append]
  congr 1
  induction r with
  | nil => rfl
  | cons y r ih =>
    rw [List.map_cons, List.flatten_cons, List.length_append, ih, List.map_cons, List.sum_cons]
    simp
def stW : List UInt8 := [115, 116, 97, 116, 101, 109, 101, 110, 116]
def opW : List UInt8 := [111, 112, 101, 110, 105, 110, 103]
def duW : List UInt8 := [100, 117, 101]
def clW : List UInt8 := [99, 108, 111, 115, 105, 110, 103]
def headW (f : Int → List UInt8) (id fr to_ : Int) : List (List UInt8) := [stW, Lib.itoa id, f fr, f to_]
def openW (owed credit : Int) : List (List UInt8) := [opW, moneyL owed, moneyL credit]
def lnW (f : Int → List UInt8) (y : Ln) : List (List UInt8) := [f y.day, (lineN y.kind).data.toList, Lib.itoa y.ref, moneyL y.owed, moneyL y.credit]
def itW (f : Int → List UInt8) (x : It) : List (List UInt8) := [duW, f x.due, (itemN x.kind).data.toList, Lib.itoa x.period, moneyL x.open_]
def closeW (a b : Int) : List (List UInt8) := [clW, moneyL a, moneyL b]
theorem grpT_len : ∀ l : List UInt8, (grpT l).length ≤ 2 * l.length
  | [] => by simp [grpT]
  | c :: l => by
    rw [grpT_cons, List.length_append]
    have := grpT_len l
    split <;> simp <;> omega
theorem grp_len : ∀ l : List UInt8, (grp l).length ≤ 2 * l.length
  | [] => by simp [grp]
  | c :: l => by
    unfold grp
    have := grpT_len l
    simp; omega
theorem money_len (a : Int) (h0 : -9223372036854775808 ≤ a) (h1 : a ≤ 9223372036854775807) : (moneyL a).length ≤ 44 := by
  have h2 := digits_le (a.natAbs / 100) (by omega)
  have h3 := grp_len (Lib.decDigits (a.natAbs / 100))
  unfold moneyL moneyOf
  rw [List.length_append, List.length_append]
  have h4 : (if a < 0 then [(45 : UInt8)] else []).length ≤ 1 := by split <;> simp
  simp only [List.length_cons, List.length_nil]
  omega
theorem itoa_len (a : Int) (h0 : -9223372036854775808 ≤ a) (h1 : a ≤ 9223372036854775807) : (Lib.itoa a).length ≤ 21 := by
  unfold Lib.itoa
  split
  · have := digits_le a.natAbs (by omega); simp; omega
  · have := digits_le a.toNat (by omega); omega
theorem lineN_len (k : Int) : (lineN k).data.toList.length ≤ 8 := by unfold lineN; split <;> decide
theorem itemN_len (k : Int) : (itemN k).data.toList.length ≤ 9 := by unfold itemN; split <;> decide
theorem lineL_len (x : List UInt8) (r : List (List UInt8)) : (lineL (x :: r)).length = x.length + (r.map (fun y => y.length + 1)).sum + 1 := by
  unfold lineL; rw [List.length_append, join_len]; rfl
/-- A line's numbers fit. -/
def LnOk (y : Ln) : Prop := 0 ≤ y.day ∧ y.day ≤ 3652058 ∧ 1 ≤ y.kind ∧ y.kind ≤ 7 ∧ 0 ≤ y.ref ∧ y.ref ≤ 1099511627776 ∧ (-9223372036854775808 ≤ y.owed ∧ y.owed ≤ 9223372036854775807) ∧ -9223372036854775808 ≤ y.credit ∧ y.credit ≤ 9223372036854775807
def ItOk (x : It) : Prop := 0 ≤ x.due ∧ x.due ≤ 3652058 ∧ 0 ≤ x.kind ∧ x.kind ≤ 2 ∧ (-9223372036854775808 ≤ x.period ∧ x.period ≤ 9223372036854775807) ∧ -9223372036854775808 ≤ x.open_ ∧ x.open_ ≤ 9223372036854775807
section
variable {f : Int → List UInt8} (hf : Dates f)
include hf
theorem lnW_len {y : Ln} (h : LnOk y) : (lineL (lnW f y)).length ≤ 140 := by
  obtain ⟨h0, h1, _, _, h2, h3, ⟨h4, h5⟩, h6, h7⟩ := h
  unfold lnW
  rw [lineL_len]
  have e1 := hf.len h0 h1
  have e2 := lineN_len y.kind
  have e3 := itoa_len y.ref (by omega) (by omega)
  have e4 := money_len y.owed h4 h5
  have e5 := money_len y.credit h6 h7
  simp only [List.map_cons, List.map_nil, List.sum_cons, List.sum_nil]
  omega
theorem itW_len {x : It} (h : ItOk x) : (lineL (itW f x)).length ≤ 100 := by
  obtain ⟨h0, h1, _, _, ⟨h2, h3⟩, h4, h5⟩ := h
  unfold itW
  rw [lineL_len]
  have e1 := hf.len h0 h1
  have e2 := itemN_len x.kind
  have e3 := itoa_len x.period h2 h3
  have e4 := money_len x.open_ h4 h5
  have e6 : duW.length = 3 := rfl
  simp only [List.map_cons, List.map_nil, List.sum_cons, List.sum_nil]
  omega
theorem headW_len {id fr to_ : Int} (h0 : 0 ≤ id) (h1 : id ≤ 999999) (h2 : 0 ≤ fr) (h3 : fr ≤ 3652058) (h4 : 0 ≤ to_) (h5 : to_ ≤ 3652058) : (lineL (headW f id fr to_)).length ≤ 100 := by
  unfold headW
  rw [lineL_len]
  have e1 := hf.len h2 h3
  have e2 := hf.len h4 h5
  have e3 := itoa_len id (by omega) (by omega)
  have e6 : stW.length = 9 := rfl
  simp only [List.map_cons, List.map_nil, List.sum_cons, List.sum_nil]
  omega
end
theorem openW_len {a b : Int} (h0 : -9223372036854775808 ≤ a) (h1 : a ≤ 9223372036854775807) (h2 : -9223372036854775808 ≤ b) (h3 : b ≤ 9223372036854775807) : (lineL (openW a b)).length ≤ 100 := by
  unfold openW
  rw [lineL_len]
  have e4 := money_len a h0 h1
  have e5 := money_len b h2 h3
  have e6 : opW.length = 7 := rfl
  simp only [List.map_cons, List.map_nil, List.sum_cons, List.sum_nil]
  omega
theorem flat_len {α : Type} (g : α → List UInt8) (N : Nat) : ∀ l : List α, (∀ x ∈ l, (g x).length ≤ N) → (l.flatMap g).length ≤ N * l.length
  | [], _ => by simp
  | x :: l, h => by
    rw [List.flatMap_cons, List.length_append, List.length_cons, Nat.mul_succ]
    have h1 := h x (by simp)
    have h2 := flat_len g N l (fun y hy => h y (by simp [hy]))
    omega
/-- The whole text. -/
def printL (f : Int → List UInt8) (id fr to_ owed credit : Int) (l : List Ln) (m : List It) (a b : Int) : List UInt8 :=
  lineL (headW f id fr to_) ++ lineL (openW owed credit) ++ l.flatMap (fun y => lineL (lnW f y)) ++ m.flatMap (fun x => lineL (itW f x)) ++ lineL (closeW a b)
/-- What Print gives. -/
def printV (f : Int → List UInt8) (id fr to_ owed credit : Int) (l : List Ln) (m : List It) : Value :=
  if rightB id fr to_ owed credit l m then
    .tuple #[.string ⟨(printL f id fr to_ owed credit l m (two (sumV (owed :: l.map Ln.owed))).1 (two (sumV (credit :: l.map Ln.credit))).1).toArray⟩, .int .i64 0]
  else .tuple #[.string ⟨#[]⟩, .int .i64 1]
theorem linesB_mem {to_ : Int} : ∀ {l : List Ln} {last : Int}, linesB to_ last l = true → 0 ≤ last → ∀ y ∈ l, (0 ≤ y.day ∧ y.day ≤ to_) ∧ 1 ≤ y.kind ∧ y.kind ≤ 7 ∧ 0 ≤ y.ref ∧ y.ref ≤ 1099511627776
  | [], _, _, _, y, hy => by cases hy
  | x :: r, last, h, h0, y, hy => by
    by_cases hb : x.day < last ∨ to_ < x.day ∨ x.kind < 1 ∨ 7 < x.kind ∨ x.ref < 0 ∨ 1099511627776 < x.ref
    · rw [linesB_bad hb] at h; cases h
    · rw [linesB_good hb] at h
      rcases List.mem_cons.1 hy with rfl | hy
      · omega
      · exact linesB_mem h (by omega) y hy
/-- A sum that is told. -/
theorem sumV_zero {O : List Int} (h : ((two (sumV O)).2 == 0) = true) : ∃ a, sumV O = .tuple #[.int .i64 a, .int .i64 0] ∧ (∀ x ∈ O, Amt x) ∧ (two (sumV O)).1 = a ∧ Amt a := by
  obtain ⟨a, b, e⟩ := sumV_form O
  rw [e, two_mk] at h
  have hb : b = 0 := by simpa using h
  subst hb
  refine ⟨a, e, ?_, by rw [e]; rfl, ?_⟩
  · unfold sumV at e
    split at e
    · rename_i ha; exact amts_iff.1 ha
    · injection e with e; injection e with e; injection e with _ e; injection e with e; injection e with _ e; cases e
  · unfold sumV at e
    split at e
    · unfold toldV at e
      split at e
      · rename_i hr
        injection e with e; injection e with e; injection e with e1 e; injection e1 with _ e1
        rw [← e1]; exact hr
      · injection e with e; injection e with e; injection e with _ e; injection e with e; injection e with _ e; cases e
    · injection e with e; injection e with e; injection e with _ e; injection e with e; injection e with _ e; cases e
/-- What is known of a statement that may be. -/
structure RightF (id fr to_ owed credit : Int) (l : List Ln) (m : List It) (a b : Int) : Prop where
  id0 : 1 ≤ id
  id1 : id ≤ 999999
  fr0 : 0 ≤ fr
  fr1 : fr ≤ 3652058
  to0 : 0 ≤ to_
  to1 : to_ ≤ 3652058
  len : l.length ≤ 500
  lines : ∀ y ∈ l, LnOk y
  mlen : m.length ≤ 200
  items : ∀ x ∈ m, ItOk x
  ow : Amt owed
  cr : Amt credit
  sumO : sumV (owed :: l.map Ln.owed) = .tuple #[.int .i64 a, .int .i64 0]
  sumC : sumV (credit :: l.map Ln.credit) = .tuple #[.int .i64 b, .int .i64 0]
  a_ : Amt a
  b_ : Amt b
theorem rightB_facts {id fr to_ owed credit : Int} {l : List Ln} {m : List It} (h : rightB id fr to_ owed credit l m = true) :
    RightF id fr to_ owed credit l m (two (sumV (owed :: l.map Ln.owed))).1 (two (sumV (credit :: l.map Ln.credit))).1 := by
  unfold rightB at h
  simp only [Bool.and_eq_true] at h
  obtain ⟨h1, h2, h3, h4, _, _⟩ := h
  unfold headB at h1
  rw [decide_eq_true_eq] at h1
  unfold sumsB at h3
  rw [Bool.and_eq_true] at h3
  obtain ⟨a, a1, a2, a3, a4⟩ := sumV_zero h3.1
  obtain ⟨b, b1, b2, b3, b4⟩ := sumV_zero h3.2
  unfold placesB at h4
  simp only [Bool.and_eq_true, decide_eq_true_eq] at h4
  rw [a3, b3]
  refine ⟨h1.1, h1.2.1, h1.2.2.1, h1.2.2.2.1, h1.2.2.2.2.1, h1.2.2.2.2.2.1, h1.2.2.2.2.2.2.2, fun y hy => ?_, h4.1, fun x hx => ?_, a2 _ (by simp), b2 _ (by simp), a1, b1, a4, b4⟩
  · have e1 := linesB_mem h2 h1.2.2.1 y hy
    have e2 := a2 y.owed (by simp only [List.mem_cons, List.mem_map]; exact .inr ⟨y, hy, rfl⟩)
    have e3 := b2 y.credit (by simp only [List.mem_cons, List.mem_map]; exact .inr ⟨y, hy, rfl⟩)
    have := h1.2.2.2.2.2.1
    unfold Amt at e2 e3
    exact ⟨e1.1.1, by omega, e1.2.1, e1.2.2.1, e1.2.2.2.1, e1.2.2.2.2, ⟨by omega, by omega⟩, by omega, by omega⟩
  · have e1 := List.all_eq_true.1 h4.2.1 x hx
    unfold itOk at e1
    simp only [wi, Bool.and_eq_true, decide_eq_true_eq] at e1
    unfold ItOk
    omega
end Go.Proofs.YtlmejpkngnilcaaGreatDoor

namespace Go.Proofs.YtlmejpkngnilcaaGreatDoor
open Go.RowKit Go.Shelf

theorem lines_any (s : ByteArray) (w : World) :
    Calls Tryz.prog 28 #[.string s] w fun e w' => e = .returned (.func (.func 49) #[] #[.pointer (some ⟨w.heap.size, 0, none⟩)]) ∧ w' = w.alloc (.cells #[.string s] 9) := by
  go_enter Tryz.func28, Tryz.ntmps28
  go_wp2_with fail
  go_ret
  exact ⟨rfl, rfl⟩
theorem Bld.below {w w' : World} {base b : Nat} {A : Option Addr} {c : Nat} {l : List UInt8} (h : Bld w base b A c l) (hb : Below w.heap.size w w') : Bld w' base b A c l :=
  h.kept (hb.block b h.lt) (fun g hg => hb.block g ((h.own.blk_ge g hg).2))
theorem KeptBut.of_below {w w1 w2 : World} {b : Nat} {r : Option Nat} (h : Below w.heap.size w w1) (k : KeptBut w1 w2 b r) : KeptBut w w2 b r :=
  ⟨k.os.trans h.os, k.tape.trans h.tape, k.output.trans h.output, Nat.le_trans h.size k.size, fun j hj hb hr => (k.block j (Nat.lt_of_lt_of_le hj h.size) hb hr).trans (h.block j hj)⟩
set_option maxRecDepth 100000 in
theorem print1_any (base b : Nat) (A : Option Addr) (c : Nat) (l : List UInt8) (bk o n : Nat) (ws : List ByteArray) (w : World) (hc : ∀ (j : Nat) x, ws[j]? = some x → w.cell? ⟨bk, o + j, none⟩ = some (.string x)) (hbk : bk < w.heap.size)
    (hn : ws.length ≤ n) (hw : ws.length ≤ 10) (hL : (lineL (ws.map (·.data.toList))).length ≤ 1000) (hl : l.length ≤ 100000) (hB : Bld w base b A c l) :
    Calls Tryz.prog 13 #[.slice (some ⟨bk, o, none⟩) ws.length n, .pointer (some ⟨b, 0, none⟩)] w fun e w' => (∃ v, e = .returned v) ∧ (∃ A' c', Bld w' base b A' c' (l ++ lineL (ws.map (·.data.toList))) ∧ KeptBut w w' b (blk A)) := by
  have hlen : (Lib.join (ws.map (·.data.toList)) [32]).length + 1 ≤ 1000 := by
    have h1 := hL
    unfold lineL at h1
    rw [List.length_append] at h1
    exact h1
  have KJ := Lib.hid (Tryz.strings_Join bk o n ws ⟨#[32]⟩ w hc hbk (by omega) hn (by show (Lib.join _ [32]).length ≤ _; omega))
  obtain ⟨S, hS⟩ : ∃ S : ByteArray, S = ⟨(Lib.join (ws.map (·.data.toList)) [32]).toArray⟩ := ⟨_, rfl⟩
  have KJ2 : Hid (Calls Tryz.prog 15 #[.slice (some ⟨bk, o, none⟩) ws.length n, .string ⟨#[32]⟩] w fun e w' => e = .returned (.string S) ∧ Below w.heap.size w w') := Lib.hid (by rw [hS]; exact KJ.out)
  have HSL : Hid ((S ++ (⟨#[10]⟩ : ByteArray)).data.toList = lineL (ws.map (·.data.toList))) := Lib.hid (by rw [hS]; simp [lineL])
  have hadd : ∀ w, (Op.stringOp .add S ⟨#[10]⟩).run Tryz.prog w = .ok (.string (S ++ ⟨#[10]⟩)) w := fun w => run_string_add_sum w S _ (by
    have h1 : S.size ≤ 1000 := by rw [hS]; show (Lib.join _ [32]).toArray.size ≤ _; rw [List.size_toArray]; omega
    have h2 : (⟨#[10]⟩ : ByteArray).size = 1 := rfl
    omega)
  have HB := Lib.hid hB
  have HLL := Lib.hid hL
  clear KJ hS hc hL hB hlen hbk hn hw
  go_enter Tryz.func13, Tryz.ntmps13
  go_wp2_with fail
  refine KJ2.out.mono ?_
  rintro e w1 ⟨rfl, hb1⟩
  have KW := Lib.hid (wstr_any base b A c l (S ++ ⟨#[10]⟩) _ HSL.out hl (by have := HLL.out; omega) w1 (HB.out.below hb1))
  have HB1 := Lib.hid hb1
  clear hb1 KJ2
  go_wp2_with fail
  refine KW.out.mono ?_
  rintro e w2 ⟨rfl, A', c', h2, h3⟩
  have H2 := Lib.hid h2; have H3 := Lib.hid h3
  clear h2 h3 KW
  go_wp2_with fail
  exact ⟨rfl, _, results_none rfl _ _ _, ⟨_, rfl⟩, A', c', H2.out, KeptBut.of_below HB1.out H3.out⟩
/-- What Print knows: the builder at block gb holds L; nothing that was there behind W0 is turned. -/
structure Pst (W0 : World) (gb : Nat) (L : List UInt8) (X : World) : Prop where
  bl : Below W0.heap.size W0 X
  bd : ∃ A c, Bld X W0.heap.size gb A c L
theorem Pst.on {W0 : World} {gb : Nat} {L : List UInt8} {X Y : World} (h : Pst W0 gb L X) (hb : Below X.heap.size X Y) : Pst W0 gb L Y :=
  let ⟨A, c, hB⟩ := h.bd
  ⟨h.bl.trans (hb.mono h.bl.size), A, c, hB.below hb⟩
theorem ownB_tag {w : World} {base c g : Nat} {e : TypeId} {A : Option Addr} {l : List UInt8} (h : Own w base e A c l) (hg : blk A = some g) : base ≤ g ∧ ∃ cs fr, w.heap[g]? = some (.cells cs e fr) := by
  refine ⟨(h.blk_ge g hg).1, ?_⟩
  rcases h.2 with ⟨hv, _⟩ | ⟨g', cap, cur, hv, _, hh, _⟩
  · injection hv with hv; subst hv; cases hg
  · injection hv with hv
    subst hv
    injection hg with hg
    subst hg
    exact ⟨_, _, hh⟩
/-- What a line's printing keeps: blocks that are no bytes, other than the builder's. -/
def KpL (gb : Nat) (X Y : World) : Prop := ∀ (g : Nat) (cs : Array Value) (T : TypeId) (fr : Nat × Nat), g ≠ gb → T ≠ 5 → X.heap[g]? = some (.cells cs T fr) → Y.heap[g]? = some (.cells cs T fr)
theorem line_any {W0 : World} {gb : Nat} {L : List UInt8} {X0 X : World} (h0 : Pst W0 gb L X0) (hX : Below X0.heap.size X0 X) (ws : List ByteArray) (ls : List (List UInt8)) (cs : Array Value) (T : TypeId) (n : Nat) (hls : ws.map (·.data.toList) = ls) (hcs : cs = (ws.map Value.string).toArray) (hn : n = ws.length) (hw : ws.length ≤ 10) (hL : (lineL ls).length ≤ 1000) (hl : L.length ≤ 100000) :
    Calls Tryz.prog 13 #[.slice (some ⟨X.heap.size, 0, none⟩) n n, .pointer (some ⟨gb, 0, none⟩)] (X.alloc (.cells cs T)) fun e w' => (∃ v, e = .returned v) ∧ Pst W0 gb (L ++ lineL ls) w' ∧ KpL gb X0 w' := by
  subst hls hcs hn
  have h := h0.on hX
  have h1 := h.on ((Below.refl _ X).alloc (Nat.le_refl _) (.cells (ws.map Value.string).toArray T))
  obtain ⟨A, c, hB⟩ := h1.bd
  refine (print1_any W0.heap.size gb A c L X.heap.size 0 ws.length ws _ (fun j x hx => ?_) (by simp) (Nat.le_refl _) hw hL hl hB).mono ?_
  · have hj := (List.getElem?_eq_some_iff.1 hx).1
    rw [Nat.zero_add]
    have := cell_of_row (X.alloc (.cells (ws.map Value.string).toArray T)) X.heap.size j _ _ (0, 0) (heap_alloc_new X _)
    rw [this]
    simp [hx]
  · rintro e w' ⟨hv, A', c', h2, h3⟩
    refine ⟨hv, ⟨h1.bl.trans (h3.below hB.low (fun g hg => (hB.own.blk_ge g hg).1) h1.bl.size), A', c', h2⟩, fun g cs T' fr hg hT hc => ?_⟩
    have hlt := (Array.getElem?_eq_some_iff.1 hc).1
    have hc1 : X.heap[g]? = some (.cells cs T' fr) := (hX.block g hlt).trans hc
    have hc2 : (X.alloc (.cells (ws.map Value.string).toArray T)).heap[g]? = some (.cells cs T' fr) := (heap_alloc_old X _ (Nat.lt_of_lt_of_le hlt hX.size)).trans hc1
    refine (h3.block g (by have := hX.size; simp; omega) hg (fun e => ?_)).trans hc2
    obtain ⟨_, cs2, fr2, h4⟩ := ownB_tag hB.own e.symm
    rw [hc2] at h4
    injection h4 with h4
    injection h4 with _ h4
    exact hT h4
/-- A function from a number to a text, at any world behind X. -/
def Gives (F : Nat) (v : Int) (S : ByteArray) (X : World) : Prop := ∀ Y, Below X.heap.size X Y → Calls Tryz.prog F #[.int .i64 v] Y fun e w' => e = .returned (.string S) ∧ Below Y.heap.size Y w'
theorem gives_itoa (n : Int) (h0 : -9223372036854775808 ≤ n) (h1 : n ≤ 9223372036854775807) (X : World) (ht : Tab X) : Gives 16 n ⟨(Lib.itoa n).toArray⟩ X := fun Y hY =>
  (Tryz.strconv_Itoa n h0 h1 Y (ht.below hY)).mono fun _ _ ⟨e, k, os, h⟩ => ⟨e, h ▸ below_row Y k os⟩
theorem gives_date (f : Int → List UInt8) (hf : Dates f) (n : Int) (h0 : 0 ≤ n) (h1 : n ≤ 3652058) (X : World) (ht : Tab X) : Gives 17 n ⟨(f n).toArray⟩ X := fun Y hY => date_any f hf n h0 h1 Y (ht.below hY)
theorem gives_money (n : Int) (h0 : -9223372036854775808 ≤ n) (h1 : n ≤ 9223372036854775807) (X : World) (ht : Tab X) : Gives 12 n ⟨(moneyL n).toArray⟩ X := fun Y hY => money_any n h0 h1 Y (ht.below hY)
theorem gives_line (k : Int) (h0 : 0 ≤ k) (h1 : k ≤ 7) (X : World) : Gives 18 k (lineN k) X := fun Y _ => (lineName_any k h0 h1 Y).mono fun _ _ ⟨e, h⟩ => ⟨e, h ▸ Below.refl _ _⟩
theorem gives_item (k : Int) (h0 : 0 ≤ k) (h1 : k ≤ 2) (X : World) : Gives 19 k (itemN k) X := fun Y _ => (itemName_any k h0 h1 Y).mono fun _ _ ⟨e, h⟩ => ⟨e, h ▸ Below.refl _ _⟩
theorem Gives.drew {F : Nat} {v : Int} {S : ByteArray} {X : World} (h : Gives F v S X) : Gives F v S X.drew := fun Y hY => h Y (((Below.refl _ X).drew).trans hY)
end Go.Proofs.YtlmejpkngnilcaaGreatDoor

namespace Go.Proofs.YtlmejpkngnilcaaGreatDoor
open Go.RowKit Go.Shelf

/-- A line without its newline. -/
def bareW (x : ByteArray) : ByteArray := ⟨(Lib.trimSuffix x.data.toList [10]).toArray⟩
def sp : ByteArray := ⟨#[32]⟩
/-- A line's words. -/
def wordsOf (x : ByteArray) : List ByteArray := Lib.splitB sp 0 (Lib.countB (bareW x) sp) (bareW x)
theorem wordsOf_len (x : ByteArray) : (wordsOf x).length = Lib.countB (bareW x) sp + 1 := Lib.splitB_all sp (by decide) 0 _ _ rfl
theorem bareW_size (x : ByteArray) : (bareW x).size ≤ x.size := by
  have e : ∀ l : List UInt8, (⟨l.toArray⟩ : ByteArray).size = l.length := fun l => List.size_toArray
  have e2 : x.data.toList.length = x.size := Array.length_toList
  unfold bareW
  rw [e, ← e2]
  unfold Lib.trimSuffix
  split
  · rw [List.length_take]; omega
  · exact Nat.le_refl _
theorem splitB_size (s0 : ByteArray) : ∀ (k : Nat) (s : ByteArray), ∀ y ∈ Lib.splitB s0 0 k s, y.size ≤ s.size
  | 0, s, y, hy => by
    rw [Lib.splitB_zero, List.mem_singleton] at hy
    rw [hy]; exact Nat.le_refl _
  | k + 1, s, y, hy => by
    unfold Lib.splitB at hy
    split at hy
    · rw [List.mem_singleton] at hy
      rw [hy]; exact Nat.le_refl _
    · rcases List.mem_cons.1 hy with hy | hy
      · rw [hy, ByteArray.size_extract]; omega
      · have := splitB_size s0 k _ y hy
        rw [ByteArray.size_extract] at this
        omega
theorem wordsOf_size (x : ByteArray) : ∀ y ∈ wordsOf x, y.size ≤ x.size := fun y hy => Nat.le_trans (splitB_size sp _ _ y hy) (bareW_size x)
theorem wordsOf_few (x : ByteArray) (h : x.size ≤ 100000) : (wordsOf x).length ≤ 100001 := by
  rw [wordsOf_len]
  have h1 := Lib.countB_le sp (by decide) _ (bareW x) (Nat.le_refl _)
  have h2 := bareW_size x
  omega
/-- What was taken of words, one behind the other. -/
def Took : List (ByteArray → Int → Prop) → List ByteArray → List Int → Prop
  | [], _, vs => vs = []
  | _ :: _, [], _ => False
  | _ :: _, _ :: _, [] => False
  | R :: Rs, s :: left, v :: vs => R s v ∧ Took Rs left vs
theorem took_snoc {R : ByteArray → Int → Prop} {v : Int} : ∀ {Rs : List (ByteArray → Int → Prop)} {left : List ByteArray} {vs : List Int}, Took Rs left vs → left.drop Rs.length ≠ [] → R (hd (left.drop Rs.length)) v → Took (Rs ++ [R]) left (vs ++ [v])
  | [], left, vs, h, hl, hr => by
    have h : vs = [] := h
    subst h
    cases left with
    | nil => exact absurd rfl hl
    | cons s r => exact ⟨hr, rfl⟩
  | R' :: Rs, [], vs, h, _, _ => h.elim
  | R' :: Rs, s :: left, [], h, _, _ => h.elim
  | R' :: Rs, s :: left, u :: vs, h, hl, hr => ⟨h.1, took_snoc (Rs := Rs) h.2 hl hr⟩
theorem took_unsnoc {R : ByteArray → Int → Prop} : ∀ {Rs : List (ByteArray → Int → Prop)} {left : List ByteArray} {vs : List Int}, Took (Rs ++ [R]) left vs → (∃ us, Took Rs left us) ∧ left.drop Rs.length ≠ [] ∧ ∃ v, R (hd (left.drop Rs.length)) v
  | [], [], vs, h => h.elim
  | [], s :: left, [], h => h.elim
  | [], s :: left, v :: vs, h => ⟨⟨[], rfl⟩, by simp, v, h.1⟩
  | R' :: Rs, [], vs, h => h.elim
  | R' :: Rs, s :: left, [], h => h.elim
  | R' :: Rs, s :: left, v :: vs, h => by
    obtain ⟨⟨us, h1⟩, h2, h3⟩ := took_unsnoc (Rs := Rs) (left := left) (vs := vs) h.2
    exact ⟨⟨v :: us, h.1, h1⟩, h2, h3⟩
/-- The words' box at block g behind some that were taken of left. -/
structure Chn (g : Nat) (left : List ByteArray) (Rs : List (ByteArray → Int → Prop)) (vs : List Int) (am : Bool) (w X : World) : Prop where
  wd : Wd X g (left.drop Rs.length) am
  yes : am = false → Took Rs left vs
  no : (∃ us, Took Rs left us) → am = false
  below : Below g w X
theorem Chn.nil {g : Nat} {left : List ByteArray} {w : World} (h : Wd w g left false) : Chn g left [] [] false w w := ⟨h, fun _ => rfl, fun _ => rfl, Below.refl _ _⟩
theorem Chn.drew {g : Nat} {left : List ByteArray} {Rs : List (ByteArray → Int → Prop)} {vs : List Int} {am : Bool} {w X : World} (h : Chn g left Rs vs am w X) : Chn g left Rs vs am w X.drew :=
  ⟨h.wd.below (Below.refl X.heap.size X).drew h.wd.lt, h.yes, h.no, h.below.drew⟩
theorem Chn.step {g : Nat} {left : List ByteArray} {Rs : List (ByteArray → Int → Prop)} {vs : List Int} {am : Bool} {w X X' : World} {R : ByteArray → Int → Prop} {e : Ending} (h : Chn g left Rs vs am w X) (ht : TakesW R g (left.drop Rs.length) am X e X') :
    ∃ v am', e = .returned (.int .i64 v) ∧ Chn g left (Rs ++ [R]) (vs ++ [v]) am' w X' := by
  obtain ⟨v, am', he, h1, h2, h3, h4⟩ := ht
  refine ⟨v, am', he, ?_, fun ha => ?_, fun ⟨us, hu⟩ => ?_, h.below.trans h2⟩
  · rw [List.length_append, List.length_singleton, ← List.tail_drop]; exact h1
  · obtain ⟨a1, a2, a3⟩ := h3 ha
    exact took_snoc (h.yes a1) a2 a3
  · obtain ⟨u1, u2, u3⟩ := took_unsnoc hu
    exact h4 (h.no u1) u2 u3
/-- What the words' functions want of the world. -/
structure PW (w : World) : Prop where
  tab : Tab w
  errs : Errs w
  max : HasMax w
theorem PW.below {w w' : World} (h : PW w) (hb : Below w.heap.size w w') : PW w' := ⟨h.tab.below hb, h.errs.below hb, h.max.below hb⟩
section
variable {g : Nat} {left : List ByteArray} {Rs : List (ByteArray → Int → Prop)} {vs : List Int} {am : Bool} {w X : World}
def Stp (g : Nat) (left : List ByteArray) (Rs : List (ByteArray → Int → Prop)) (vs : List Int) (w : World) (R : ByteArray → Int → Prop) (e : Ending) (X' : World) : Prop := ∃ v am', e = .returned (.int .i64 v) ∧ Chn g left (Rs ++ [R]) (vs ++ [v]) am' w X'
theorem number_c (h : Chn g left Rs vs am w X) (hn : left.length ≤ 1000000) (hz : ∀ s ∈ left, s.size ≤ 1000000) (hp : ∀ w', Below g w w' → PW w') : Calls Tryz.prog 32 #[.pointer (some ⟨g, 0, none⟩)] X (Stp g left Rs vs w numR) :=
  (number_any g _ am X (by rw [List.length_drop]; omega) (fun s hs => hz s (List.mem_of_mem_drop hs)) h.wd (fun w' hb => (hp w' (h.below.trans hb)).errs)).mono fun _ _ ht => h.step ht
theorem day_c (h : Chn g left Rs vs am w X) (hn : left.length ≤ 1000000) (hz : ∀ s ∈ left, s.size ≤ 1000000) (hp : ∀ w', Below g w w' → PW w') : Calls Tryz.prog 33 #[.pointer (some ⟨g, 0, none⟩)] X (Stp g left Rs vs w dayR) :=
  (wday_any g _ am X (by rw [List.length_drop]; omega) (fun s hs => hz s (List.mem_of_mem_drop hs)) h.wd (fun w' hb => (hp w' (h.below.trans hb)).max)).mono fun _ _ ht => h.step ht
theorem amount_c (h : Chn g left Rs vs am w X) (hn : left.length ≤ 1000000) (hz : ∀ s ∈ left, s.size ≤ 1000000) (hp : ∀ w', Below g w w' → PW w') : Calls Tryz.prog 34 #[.pointer (some ⟨g, 0, none⟩)] X (Stp g left Rs vs w amtR) :=
  (wamount_any g _ am X (by rw [List.length_drop]; omega) (fun s hs => hz s (List.mem_of_mem_drop hs)) h.wd (fun w' hb => (hp w' (h.below.trans hb)).tab) (fun w' hb => (hp w' (h.below.trans hb)).errs)).mono fun _ _ ht => h.step ht
theorem line_c (h : Chn g left Rs vs am w X) (hn : left.length ≤ 1000000) : Calls Tryz.prog 35 #[.pointer (some ⟨g, 0, none⟩), .func (.func 18) #[] #[], .int .i64 1, .int .i64 7] X (Stp g left Rs vs w lineR) :=
  (kindline_any g _ am X (by rw [List.length_drop]; omega) h.wd).mono fun _ _ ht => h.step ht
theorem item_c (h : Chn g left Rs vs am w X) (hn : left.length ≤ 1000000) : Calls Tryz.prog 35 #[.pointer (some ⟨g, 0, none⟩), .func (.func 19) #[] #[], .int .i64 0, .int .i64 2] X (Stp g left Rs vs w itemR) :=
  (kinditem_any g _ am X (by rw [List.length_drop]; omega) h.wd).mono fun _ _ ht => h.step ht
end
/-- A statement's contents. -/
structure Smt where
  id : Int
  fr : Int
  to_ : Int
  owed : Int
  credit : Int
  l : List Ln
  m : List It
def Smt.zero : Smt := ⟨0, 0, 0, 0, 0, [], []⟩
def stB : ByteArray := ⟨#[115, 116, 97, 116, 101, 109, 101, 110, 116]⟩
def opB : ByteArray := ⟨#[111, 112, 101, 110, 105, 110, 103]⟩
def clB : ByteArray := ⟨#[99, 108, 111, 115, 105, 110, 103]⟩
def duB : ByteArray := ⟨#[100, 117, 101]⟩
/-- What a line's words come to. -/
def LineW (ws : List ByteArray) (s s' : Smt) : Prop :=
  if hd ws = stB then ∃ a b c, Took [numR, dayR, dayR] ws.tail [a, b, c] ∧ s' = { s with id := a, fr := b, to_ := c }
  else if hd ws = opB then ∃ a b, Took [amtR, amtR] ws.tail [a, b] ∧ s' = { s with owed := a, credit := b }
  else if hd ws = clB then s' = s
  else if hd ws = duB then ∃ a b c d, Took [dayR, itemR, numR, amtR] ws.tail [a, b, c, d] ∧ s' = { s with m := s.m ++ [⟨a, b, c, d⟩] }
  else ∃ a b c d e, Took [dayR, lineR, numR, amtR, amtR] ws [a, b, c, d, e] ∧ s' = { s with l := s.l ++ [⟨a, b, c, d, e⟩] }
/-- What lines come to. -/
inductive ReadsT : List ByteArray → Smt → Prop
  | nil : ReadsT [] Smt.zero
  | step {pre : List ByteArray} {x : ByteArray} {s s' : Smt} : ReadsT pre s → LineW (wordsOf x) s s' → ReadsT (pre ++ [x]) s'
theorem ReadsT.len {pre : List ByteArray} {s : Smt} (h : ReadsT pre s) : s.l.length ≤ pre.length ∧ s.m.length ≤ pre.length := by
  induction h with
  | nil => exact ⟨Nat.le_refl _, Nat.le_refl _⟩
  | @step pre x s s' _ h ih =>
    rw [List.length_append, List.length_singleton]
    unfold LineW at h
    split at h
    · obtain ⟨_, _, _, _, rfl⟩ := h; exact ⟨by dsimp only; omega, by dsimp only; omega⟩
    · split at h
      · obtain ⟨_, _, _, rfl⟩ := h; exact ⟨by dsimp only; omega, by dsimp only; omega⟩
      · split at h
        · subst h; exact ⟨by omega, by omega⟩
        · split at h
          · obtain ⟨_, _, _, _, _, rfl⟩ := h
            refine ⟨by dsimp only; omega, ?_⟩
            show (s.m ++ [_]).length ≤ _
            rw [List.length_append, List.length_singleton]; omega
          · obtain ⟨_, _, _, _, _, _, rfl⟩ := h
            refine ⟨?_, by dsimp only; omega⟩
            show (s.l ++ [_]).length ≤ _
            rw [List.length_append, List.length_singleton]; omega
end Go.Proofs.YtlmejpkngnilcaaGreatDoor

namespace Go.Proofs.YtlmejpkngnilcaaGreatDoor
open Go.RowKit Go.Shelf

theorem printV_no {f : Int → List UInt8} {id fr to_ owed credit : Int} {l : List Ln} {m : List It} (h : rightB id fr to_ owed credit l m = false) : printV f id fr to_ owed credit l m = .tuple #[.string ⟨#[]⟩, .int .i64 1] := by
  unfold printV; rw [h]; rfl
theorem printV_yes {f : Int → List UInt8} {id fr to_ owed credit : Int} {l : List Ln} {m : List It} (h : rightB id fr to_ owed credit l m = true) : printV f id fr to_ owed credit l m = .tuple #[.string ⟨(printL f id fr to_ owed credit l m (two (sumV (owed :: l.map Ln.owed))).1 (two (sumV (credit :: l.map Ln.credit))).1).toArray⟩, .int .i64 0] := by
  unfold printV; rw [h]; rfl
theorem ret_v {a b : Value} (h : a = b) : Ending.returned a = .returned b := by rw [h]
set_option maxHeartbeats 8000000 in
set_option maxRecDepth 100000 in
theorem print_any (f : Int → List UInt8) (hf : Dates f) (id fr to_ owed credit : Int) (A A2 : Option Addr) (c c2 : Nat) (l : List Ln) (m : List It) (w : World) (hL : RdL w w.heap.size A l) (hT : RdT w w.heap.size A2 m) (hl : l.length ≤ 1000000) (hm : m.length ≤ 1000000) (ht : Tab w) :
    Calls Tryz.prog 7 #[.agg #[.int .i64 id, .int .i64 fr, .int .i64 to_, .int .i64 owed, .int .i64 credit, .slice A l.length c, .slice A2 m.length c2]] w fun e w' => e = .returned (printV f id fr to_ owed credit l m) ∧ Below w.heap.size w w' := by
  have HL := Lib.hid hL; have HT := Lib.hid hT; have HTB := Lib.hid ht
  obtain ⟨V, hV⟩ : ∃ V, V = printV f id fr to_ owed credit l m := ⟨_, rfl⟩
  rw [← hV]
  have HV := Lib.hid hV
  have HF := Lib.hid hf
  obtain ⟨b, hb⟩ : ∃ b, b = rightB id fr to_ owed credit l m := ⟨_, rfl⟩
  obtain ⟨W, hW⟩ : ∃ W : World, W = w.alloc (.cells #[.int .i64 id, .int .i64 fr, .int .i64 to_, .int .i64 owed, .int .i64 credit, .slice A l.length c, .slice A2 m.length c2] 25) := ⟨_, rfl⟩
  have hb0 : Below w.heap.size w W := by rw [hW]; exact (Below.refl _ _).alloc (Nat.le_refl _) _
  have hsz : W.heap.size = w.heap.size + 1 := by rw [hW]; simp
  have KR := right_ex id fr to_ owed credit A A2 c c2 l m W ((hL.below hb0 (Nat.le_refl _)).more (by omega)) ((hT.below hb0 (Nat.le_refl _)).more (by omega)) hl hm
  rw [← hb] at KR
  have HKR := Lib.hid KR
  have HB0 := Lib.hid hb0
  have HBB := Lib.hid hb
  have HRB : Hid (W.heap[w.heap.size]? = some (.cells #[.int .i64 id, .int .i64 fr, .int .i64 to_, .int .i64 owed, .int .i64 credit, .slice A l.length c, .slice A2 m.length c2] 25)) := Lib.hid (by rw [hW]; exact heap_alloc_new w _)
  have q0 : W.cell? ⟨w.heap.size, 0, none⟩ = some (.int .i64 id) := by rw [hW]; simp
  have q1 : W.cell? ⟨w.heap.size, 1, none⟩ = some (.int .i64 fr) := by rw [hW]; simp
  have q2 : W.cell? ⟨w.heap.size, 2, none⟩ = some (.int .i64 to_) := by rw [hW]; simp
  have q3 : W.cell? ⟨w.heap.size, 3, none⟩ = some (.int .i64 owed) := by rw [hW]; simp
  have q4 : W.cell? ⟨w.heap.size, 4, none⟩ = some (.int .i64 credit) := by rw [hW]; simp
  have q5 : W.cell? ⟨w.heap.size, 5, none⟩ = some (.slice A l.length c) := by rw [hW]; simp
  have q6 : W.cell? ⟨w.heap.size, 6, none⟩ = some (.slice A2 m.length c2) := by rw [hW]; simp
  have QQ := Lib.hid (And.intro q0 (And.intro q1 (And.intro q2 (And.intro q3 (And.intro q4 (And.intro q5 q6))))))
  have HW := Lib.hid hW
  have HS : Hid (w.heap.size < W.heap.size) := Lib.hid (by omega)
  clear hL hT hV hf hb KR ht hb0 hW hsz
  go_enter Tryz.func7, Tryz.ntmps7
  go_upto_region 1 with fail
  rw [← HW.out]
  go_wp2_with fail
  refine HKR.out.mono ?_
  rintro e w1 ⟨rfl, hb1⟩
  have HB1 := Lib.hid hb1
  clear hb1 HKR q0 q1 q2 q3 q4 q5 q6
  cases b
  · go_wp2_with fail
    go_ret2
    exact ⟨ret_v (by rw [HV.out, printV_no HBB.out.symm]; rfl), HB0.out.trans (HB1.out.mono HB0.out.size)⟩
  · have HRF := Lib.hid (rightB_facts HBB.out.symm)
    obtain ⟨a, ha⟩ : ∃ a, a = (two (sumV (owed :: l.map Ln.owed))).1 := ⟨_, rfl⟩
    obtain ⟨bb, hbb⟩ : ∃ a, a = (two (sumV (credit :: l.map Ln.credit))).1 := ⟨_, rfl⟩
    rw [← ha, ← hbb] at HRF
    have HVV : Hid (V = .tuple #[.string ⟨(printL f id fr to_ owed credit l m a bb).toArray⟩, .int .i64 0]) := Lib.hid (by rw [HV.out, printV_yes HBB.out.symm, ha, hbb])
    clear ha hbb
    go_upto_region 5 with fail
    -- FROM HERE
    obtain ⟨W1, hW1⟩ : ∃ W1, W1 = w1.alloc (.cells #[.pointer none, .slice none 0 0] 41) := ⟨_, rfl⟩
    obtain ⟨gb, hgb⟩ : ∃ gb, gb = w1.heap.size := ⟨_, rfl⟩
    have P0 : Hid (Pst W gb [] W1) := Lib.hid (by rw [hW1, hgb]; exact ⟨HB1.out.alloc HB1.out.size _, none, 0, Bld.new w1 W.heap.size HB1.out.size⟩)
    have HC : Hid (∀ Y, Below W.heap.size W Y → Y.cell? ⟨w.heap.size, 0, none⟩ = some (.int .i64 id) ∧ Y.cell? ⟨w.heap.size, 1, none⟩ = some (.int .i64 fr) ∧ Y.cell? ⟨w.heap.size, 2, none⟩ = some (.int .i64 to_) ∧ Y.cell? ⟨w.heap.size, 3, none⟩ = some (.int .i64 owed) ∧ Y.cell? ⟨w.heap.size, 4, none⟩ = some (.int .i64 credit) ∧ Y.cell? ⟨w.heap.size, 5, none⟩ = some (.slice A l.length c) ∧ Y.cell? ⟨w.heap.size, 6, none⟩ = some (.slice A2 m.length c2)) := Lib.hid (fun Y hY => by
      have h := fun j => hY.cell (p := ⟨w.heap.size, j, none⟩) HS.out
      rw [h, h, h, h, h, h, h]; exact QQ.out)
    rw [← hW1, ← hgb]
    clear hW1 hgb HB1
    have B3 := (Below.refl W1.heap.size W1).drew
    have HTX := HTB.out.below (HB0.out.trans (P0.out.bl.mono HB0.out.size))
    obtain ⟨S0, hS0⟩ : ∃ S : ByteArray, S = ⟨(Lib.itoa id).toArray⟩ := ⟨_, rfl⟩
    have G0 : Hid (∀ Y, Below W1.heap.size W1 Y → Calls Tryz.prog 16 #[.int .i64 id] Y fun e w' => e = .returned (.string S0) ∧ Below Y.heap.size Y w') := Lib.hid (by rw [hS0]; exact gives_itoa id (by have := HRF.out.id0; omega) (by have := HRF.out.id1; omega) W1 HTX)
    obtain ⟨S1, hS1⟩ : ∃ S : ByteArray, S = ⟨(f fr).toArray⟩ := ⟨_, rfl⟩
    have G1 : Hid (∀ Y, Below W1.heap.size W1 Y → Calls Tryz.prog 17 #[.int .i64 fr] Y fun e w' => e = .returned (.string S1) ∧ Below Y.heap.size Y w') := Lib.hid (by rw [hS1]; exact gives_date f HF.out fr HRF.out.fr0 HRF.out.fr1 W1 HTX)
    obtain ⟨S2, hS2⟩ : ∃ S : ByteArray, S = ⟨(f to_).toArray⟩ := ⟨_, rfl⟩
    have G2 : Hid (∀ Y, Below W1.heap.size W1 Y → Calls Tryz.prog 17 #[.int .i64 to_] Y fun e w' => e = .returned (.string S2) ∧ Below Y.heap.size Y w') := Lib.hid (by rw [hS2]; exact gives_date f HF.out to_ HRF.out.to0 HRF.out.to1 W1 HTX)
    have HE : Hid ([(⟨#[115, 116, 97, 116, 101, 109, 101, 110, 116]⟩ : ByteArray), S0, S1, S2].map (fun x : ByteArray => x.data.toList) = headW f id fr to_) := Lib.hid (by rw [hS0, hS1, hS2]; rfl)
    have HLN : Hid ((lineL (headW f id fr to_)).length ≤ 140) := Lib.hid (by have := headW_len HF.out (id := id) (by have := HRF.out.id0; omega) HRF.out.id1 HRF.out.fr0 HRF.out.fr1 HRF.out.to0 HRF.out.to1; omega)
    have HLL : Hid (([] : List UInt8).length ≤ 100000) := Lib.hid (by simp)
    have HKA : Hid (∀ Y, Below W.heap.size W Y → Y.cell? ⟨w.heap.size, 0, none⟩ = some (.int .i64 id) ∧ Y.cell? ⟨w.heap.size, 1, none⟩ = some (.int .i64 fr) ∧ Y.cell? ⟨w.heap.size, 2, none⟩ = some (.int .i64 to_)) := Lib.hid (fun Y hY => by have := HC.out Y hY; exact ⟨this.1, this.2.1, this.2.2.1⟩)
    have HKB : Hid (∀ Y, Below W1.heap.size W1 Y → Y.cell? ⟨w.heap.size, 0, none⟩ = some (.int .i64 id) ∧ Y.cell? ⟨w.heap.size, 1, none⟩ = some (.int .i64 fr) ∧ Y.cell? ⟨w.heap.size, 2, none⟩ = some (.int .i64 to_)) := Lib.hid (fun Y hY => HKA.out Y (P0.out.bl.trans (hY.mono P0.out.bl.size)))
    have HLINE : Hid (∀ Y, Below W1.heap.size W1 Y → Calls Tryz.prog 13 #[.slice (some ⟨Y.heap.size, 0, none⟩) 4 4, .pointer (some ⟨gb, 0, none⟩)] (Y.alloc (.cells #[.string (⟨#[115, 116, 97, 116, 101, 109, 101, 110, 116]⟩ : ByteArray), .string S0, .string S1, .string S2] 9)) fun e w' => (∃ v, e = .returned v) ∧ Pst W gb (([] : List UInt8) ++ lineL (headW f id fr to_)) w' ∧ KpL gb W1 w') := Lib.hid (fun Y hY => line_any P0.out hY [(⟨#[115, 116, 97, 116, 101, 109, 101, 110, 116]⟩ : ByteArray), S0, S1, S2] (headW f id fr to_) _ _ 4 HE.out rfl rfl (by simp) (by have := HLN.out; omega) HLL.out)
    clear HTX hS0 hS1 hS2
    go_region_held (fun Y => Y.cell? ⟨w.heap.size, 0, none⟩ = some (.int .i64 id) ∧ Y.cell? ⟨w.heap.size, 1, none⟩ = some (.int .i64 fr) ∧ Y.cell? ⟨w.heap.size, 2, none⟩ = some (.int .i64 to_))
      (first | exact HKB.out _ B3 | exact HKB.out _ (B3.alloc B3.size _) | exact HKA.out _ P9.bl)
      (first
        | (go_at_call 16; (with_reducible refine (G0.out _ B3).mono ?_); rintro e w3 ⟨rfl, hb3⟩; have B3 := B3.trans (hb3.mono B3.size))
        | (go_at_call 17; (with_reducible refine (G1.out _ B3).mono ?_); rintro e w3 ⟨rfl, hb3⟩; have B3 := B3.trans (hb3.mono B3.size))
        | (go_at_call 17; (with_reducible refine (G2.out _ B3).mono ?_); rintro e w3 ⟨rfl, hb3⟩; have B3 := B3.trans (hb3.mono B3.size))
        | (go_at_call 13; (with_reducible refine (HLINE.out _ B3).mono ?_); rintro e w9 ⟨⟨v9, rfl⟩, P9, K9⟩))
    obtain ⟨L1, hL1⟩ : ∃ L, L = lineL (headW f id fr to_) := ⟨_, rfl⟩
    have P1 : Hid (Pst W gb L1 w9) := Lib.hid (by rw [hL1]; exact P9)
    have HL1 := Lib.hid hL1
    have hL1l : L1.length ≤ 140 := by rw [hL1]; exact HLN.out
    obtain ⟨W2, hW2⟩ : ∃ W2, W2 = w9 := ⟨_, rfl⟩
    clear P9 K9 HLINE B3 HLN HLL HE G0 G1 G2 P0 HKA HKB hL1 hb3
    subst hW2
    go_upto_region 6 with fail
    have B3 := (Below.refl W2.heap.size W2).drew
    have HTX := HTB.out.below (HB0.out.trans (P1.out.bl.mono HB0.out.size))
    obtain ⟨S0, hS0⟩ : ∃ S : ByteArray, S = ⟨(moneyL owed).toArray⟩ := ⟨_, rfl⟩
    have G0 : Hid (∀ Y, Below W2.heap.size W2 Y → Calls Tryz.prog 12 #[.int .i64 owed] Y fun e w' => e = .returned (.string S0) ∧ Below Y.heap.size Y w') := Lib.hid (by rw [hS0]; exact gives_money owed (by have := HRF.out.ow; unfold Amt at this; omega) (by have := HRF.out.ow; unfold Amt at this; omega) W2 HTX)
    obtain ⟨S1, hS1⟩ : ∃ S : ByteArray, S = ⟨(moneyL credit).toArray⟩ := ⟨_, rfl⟩
    have G1 : Hid (∀ Y, Below W2.heap.size W2 Y → Calls Tryz.prog 12 #[.int .i64 credit] Y fun e w' => e = .returned (.string S1) ∧ Below Y.heap.size Y w') := Lib.hid (by rw [hS1]; exact gives_money credit (by have := HRF.out.cr; unfold Amt at this; omega) (by have := HRF.out.cr; unfold Amt at this; omega) W2 HTX)
    have HE : Hid ([(⟨#[111, 112, 101, 110, 105, 110, 103]⟩ : ByteArray), S0, S1].map (fun x : ByteArray => x.data.toList) = openW owed credit) := Lib.hid (by rw [hS0, hS1]; rfl)
    have HLN : Hid ((lineL (openW owed credit)).length ≤ 140) := Lib.hid (by have h1 := HRF.out.ow; have h2 := HRF.out.cr; unfold Amt at h1 h2; have := openW_len (a := owed) (b := credit) (by omega) (by omega) (by omega) (by omega); omega)
    have HLL : Hid ((L1).length ≤ 100000) := Lib.hid (by omega)
    have HKA : Hid (∀ Y, Below W.heap.size W Y → Y.cell? ⟨w.heap.size, 3, none⟩ = some (.int .i64 owed) ∧ Y.cell? ⟨w.heap.size, 4, none⟩ = some (.int .i64 credit)) := Lib.hid (fun Y hY => by have := HC.out Y hY; exact ⟨this.2.2.2.1, this.2.2.2.2.1⟩)
    have HKB : Hid (∀ Y, Below W2.heap.size W2 Y → Y.cell? ⟨w.heap.size, 3, none⟩ = some (.int .i64 owed) ∧ Y.cell? ⟨w.heap.size, 4, none⟩ = some (.int .i64 credit)) := Lib.hid (fun Y hY => HKA.out Y (P1.out.bl.trans (hY.mono P1.out.bl.size)))
    have HLINE : Hid (∀ Y, Below W2.heap.size W2 Y → Calls Tryz.prog 13 #[.slice (some ⟨Y.heap.size, 0, none⟩) 3 3, .pointer (some ⟨gb, 0, none⟩)] (Y.alloc (.cells #[.string (⟨#[111, 112, 101, 110, 105, 110, 103]⟩ : ByteArray), .string S0, .string S1] 9)) fun e w' => (∃ v, e = .returned v) ∧ Pst W gb ((L1) ++ lineL (openW owed credit)) w' ∧ KpL gb W2 w') := Lib.hid (fun Y hY => line_any P1.out hY [(⟨#[111, 112, 101, 110, 105, 110, 103]⟩ : ByteArray), S0, S1] (openW owed credit) _ _ 3 HE.out rfl rfl (by simp) (by have := HLN.out; omega) HLL.out)
    clear HTX hS0 hS1
    go_region_held (fun Y => Y.cell? ⟨w.heap.size, 3, none⟩ = some (.int .i64 owed) ∧ Y.cell? ⟨w.heap.size, 4, none⟩ = some (.int .i64 credit))
      (first | exact HKB.out _ B3 | exact HKB.out _ (B3.alloc B3.size _) | exact HKA.out _ P9.bl)
      (first
        | (go_at_call 12; (with_reducible refine (G0.out _ B3).mono ?_); rintro e w3 ⟨rfl, hb3⟩; have B3 := B3.trans (hb3.mono B3.size))
        | (go_at_call 12; (with_reducible refine (G1.out _ B3).mono ?_); rintro e w3 ⟨rfl, hb3⟩; have B3 := B3.trans (hb3.mono B3.size))
        | (go_at_call 13; (with_reducible refine (HLINE.out _ B3).mono ?_); rintro e w9 ⟨⟨v9, rfl⟩, P9, K9⟩))
    obtain ⟨L2, hL2⟩ : ∃ L, L = L1 ++ lineL (openW owed credit) := ⟨_, rfl⟩
    have P2 : Hid (Pst W gb L2 w9) := Lib.hid (by rw [hL2]; exact P9)
    have HL2 := Lib.hid hL2
    have hL2l : L2.length ≤ 280 := by rw [hL2, List.length_append]; have := HLN.out; omega
    obtain ⟨W3, hW3⟩ : ∃ W3, W3 = w9 := ⟨_, rfl⟩
    clear P9 K9 HLINE B3 HLN HLL HE G0 G1 P1 HKA HKB hL2 hb3
    subst hW3
    have q5 := (HC.out W3 P2.out.bl).2.2.2.2.2.1
    have hlen := HRF.out.len
    go_wp2_with fail
    go_loopw [41] (fun i wr => ∃ k : Nat, k ≤ l.length ∧ i = .int .i64 (k : Int) ∧ Hid (Pst W gb (L2 ++ (l.take k).flatMap (fun y => lineL (lnW f y))) wr)) (fun i _ => l.length - (intOf i).toNat)
    case atStart => exact ⟨0, by omega, rfl, by simpa using P2⟩
    case round =>
      obtain ⟨k, hk, rfl, HP⟩ := hrel
      by_cases hlt : k < l.length
      · have HRL : RdL wr w.heap.size A l := (HL.out.below HB0.out (Nat.le_refl _)).below HP.out.bl (Nat.le_of_lt HS.out)
        obtain ⟨b5, off, rfl, _, d0, d1, d2, d3, d4⟩ := HRL.at_ hlt
        obtain ⟨y, hy⟩ : ∃ y, y = l[k] := ⟨_, rfl⟩
        rw [← hy] at d0 d1 d2 d3 d4
        have HY := Lib.hid hy
        obtain ⟨y0, y1, y2, y3, y4, y5, ⟨y6, y7⟩, y8, y9⟩ := HRF.out.lines y (by rw [hy]; exact List.getElem_mem hlt)
        obtain ⟨L3, hL3⟩ : ∃ L, L = L2 ++ (l.take k).flatMap (fun y => lineL (lnW f y)) := ⟨_, rfl⟩
        have hL3l : L3.length ≤ 280 + 140 * 500 := by
          have h1 := flat_len (fun y => lineL (lnW f y)) 140 (l.take k) (fun x hx => lnW_len HF.out (HRF.out.lines x (List.mem_of_mem_take hx)))
          rw [hL3, List.length_append]
          rw [List.length_take] at h1
          omega
        rw [← hL3] at HP
        obtain ⟨W4, hW4⟩ : ∃ W4, W4 = wr.alloc (.cells #[.int .i64 y.day, .int .i64 y.kind, .int .i64 y.ref, .int .i64 y.owed, .int .i64 y.credit] 51) := ⟨_, rfl⟩
        have P4 : Hid (Pst W gb L3 W4) := Lib.hid (by rw [hW4]; exact HP.out.on ((Below.refl _ _).alloc (Nat.le_refl _) _))
        obtain ⟨gx, hgx⟩ : ∃ gx, gx = wr.heap.size := ⟨_, rfl⟩
        have HBX : Hid (W4.heap[gx]? = some (.cells #[.int .i64 y.day, .int .i64 y.kind, .int .i64 y.ref, .int .i64 y.owed, .int .i64 y.credit] 51)) := Lib.hid (by rw [hW4, hgx]; exact heap_alloc_new wr _)
        have HNE : Hid (gx ≠ gb) := Lib.hid (by obtain ⟨_, _, hB⟩ := HP.out.bd; have := hB.lt; omega)
        have HX3 := Lib.hid hL3
        clear hy hL3 HRL
        go_wp2_with fail
        rw [← hW4, ← hgx]
        clear hW4 hgx
        have B3 := (Below.refl W4.heap.size W4).drew
        have HTX := HTB.out.below (HB0.out.trans (P4.out.bl.mono HB0.out.size))
        obtain ⟨S0, hS0⟩ : ∃ S : ByteArray, S = ⟨(f y.day).toArray⟩ := ⟨_, rfl⟩
        have G0 : Hid (∀ Y, Below W4.heap.size W4 Y → Calls Tryz.prog 17 #[.int .i64 y.day] Y fun e w' => e = .returned (.string S0) ∧ Below Y.heap.size Y w') := Lib.hid (by rw [hS0]; exact gives_date f HF.out y.day y0 y1 W4 HTX)
        obtain ⟨S1, hS1⟩ : ∃ S : ByteArray, S = lineN y.kind := ⟨_, rfl⟩
        have G1 : Hid (∀ Y, Below W4.heap.size W4 Y → Calls Tryz.prog 18 #[.int .i64 y.kind] Y fun e w' => e = .returned (.string S1) ∧ Below Y.heap.size Y w') := Lib.hid (by rw [hS1]; exact gives_line y.kind (by omega) y3 W4)
        obtain ⟨S2, hS2⟩ : ∃ S : ByteArray, S = ⟨(Lib.itoa y.ref).toArray⟩ := ⟨_, rfl⟩
        have G2 : Hid (∀ Y, Below W4.heap.size W4 Y → Calls Tryz.prog 16 #[.int .i64 y.ref] Y fun e w' => e = .returned (.string S2) ∧ Below Y.heap.size Y w') := Lib.hid (by rw [hS2]; exact gives_itoa y.ref (by omega) (by omega) W4 HTX)
        obtain ⟨S3, hS3⟩ : ∃ S : ByteArray, S = ⟨(moneyL y.owed).toArray⟩ := ⟨_, rfl⟩
        have G3 : Hid (∀ Y, Below W4.heap.size W4 Y → Calls Tryz.prog 12 #[.int .i64 y.owed] Y fun e w' => e = .returned (.string S3) ∧ Below Y.heap.size Y w') := Lib.hid (by rw [hS3]; exact gives_money y.owed y6 y7 W4 HTX)
        obtain ⟨S4, hS4⟩ : ∃ S : ByteArray, S = ⟨(moneyL y.credit).toArray⟩ := ⟨_, rfl⟩
        have G4 : Hid (∀ Y, Below W4.heap.size W4 Y → Calls Tryz.prog 12 #[.int .i64 y.credit] Y fun e w' => e = .returned (.string S4) ∧ Below Y.heap.size Y w') := Lib.hid (by rw [hS4]; exact gives_money y.credit y8 y9 W4 HTX)
        have HE : Hid ([S0, S1, S2, S3, S4].map (fun x : ByteArray => x.data.toList) = lnW f y) := Lib.hid (by rw [hS0, hS1, hS2, hS3, hS4]; rfl)
        have HLN : Hid ((lineL (lnW f y)).length ≤ 140) := Lib.hid (lnW_len HF.out ⟨y0, y1, y2, y3, y4, y5, ⟨y6, y7⟩, y8, y9⟩)
        have HLL : Hid ((L3).length ≤ 100000) := Lib.hid (by omega)
        have HKA : Hid (∀ Y : World, Y.heap[gx]? = some (.cells #[.int .i64 y.day, .int .i64 y.kind, .int .i64 y.ref, .int .i64 y.owed, .int .i64 y.credit] 51) → Y.cell? ⟨gx, 0, none⟩ = some (.int .i64 y.day) ∧ Y.cell? ⟨gx, 1, none⟩ = some (.int .i64 y.kind) ∧ Y.cell? ⟨gx, 2, none⟩ = some (.int .i64 y.ref) ∧ Y.cell? ⟨gx, 3, none⟩ = some (.int .i64 y.owed) ∧ Y.cell? ⟨gx, 4, none⟩ = some (.int .i64 y.credit)) := Lib.hid (fun Y hY => by simp [World.cell?, hY])
        have HKB : Hid (∀ Y, Below W4.heap.size W4 Y → Y.cell? ⟨gx, 0, none⟩ = some (.int .i64 y.day) ∧ Y.cell? ⟨gx, 1, none⟩ = some (.int .i64 y.kind) ∧ Y.cell? ⟨gx, 2, none⟩ = some (.int .i64 y.ref) ∧ Y.cell? ⟨gx, 3, none⟩ = some (.int .i64 y.owed) ∧ Y.cell? ⟨gx, 4, none⟩ = some (.int .i64 y.credit)) := Lib.hid (fun Y hY => HKA.out Y ((hY.block gx (Array.getElem?_eq_some_iff.1 HBX.out).1).trans HBX.out))
        have HKC : Hid (∀ Y, KpL gb W4 Y → Y.cell? ⟨gx, 0, none⟩ = some (.int .i64 y.day) ∧ Y.cell? ⟨gx, 1, none⟩ = some (.int .i64 y.kind) ∧ Y.cell? ⟨gx, 2, none⟩ = some (.int .i64 y.ref) ∧ Y.cell? ⟨gx, 3, none⟩ = some (.int .i64 y.owed) ∧ Y.cell? ⟨gx, 4, none⟩ = some (.int .i64 y.credit)) := Lib.hid (fun Y hY => HKA.out Y (hY gx _ _ _ HNE.out (by decide) HBX.out))
        have HLINE : Hid (∀ Y, Below W4.heap.size W4 Y → Calls Tryz.prog 13 #[.slice (some ⟨Y.heap.size, 0, none⟩) 5 5, .pointer (some ⟨gb, 0, none⟩)] (Y.alloc (.cells #[.string S0, .string S1, .string S2, .string S3, .string S4] 9)) fun e w' => (∃ v, e = .returned v) ∧ Pst W gb ((L3) ++ lineL (lnW f y)) w' ∧ KpL gb W4 w') := Lib.hid (fun Y hY => line_any P4.out hY [S0, S1, S2, S3, S4] (lnW f y) _ _ 5 HE.out rfl rfl (by simp) (by have := HLN.out; omega) HLL.out)
        clear HTX hS0 hS1 hS2 hS3 hS4
        go_region_held (fun Y => Y.cell? ⟨gx, 0, none⟩ = some (.int .i64 y.day) ∧ Y.cell? ⟨gx, 1, none⟩ = some (.int .i64 y.kind) ∧ Y.cell? ⟨gx, 2, none⟩ = some (.int .i64 y.ref) ∧ Y.cell? ⟨gx, 3, none⟩ = some (.int .i64 y.owed) ∧ Y.cell? ⟨gx, 4, none⟩ = some (.int .i64 y.credit))
          (first | exact HKB.out _ B3 | exact HKB.out _ (B3.alloc B3.size _) | exact HKC.out _ K9)
          (first
            | (go_at_call 17; (with_reducible refine (G0.out _ B3).mono ?_); rintro e w3 ⟨rfl, hb3⟩; have B3 := B3.trans (hb3.mono B3.size))
            | (go_at_call 18; (with_reducible refine (G1.out _ B3).mono ?_); rintro e w3 ⟨rfl, hb3⟩; have B3 := B3.trans (hb3.mono B3.size))
            | (go_at_call 16; (with_reducible refine (G2.out _ B3).mono ?_); rintro e w3 ⟨rfl, hb3⟩; have B3 := B3.trans (hb3.mono B3.size))
            | (go_at_call 12; (with_reducible refine (G3.out _ B3).mono ?_); rintro e w3 ⟨rfl, hb3⟩; have B3 := B3.trans (hb3.mono B3.size))
            | (go_at_call 12; (with_reducible refine (G4.out _ B3).mono ?_); rintro e w3 ⟨rfl, hb3⟩; have B3 := B3.trans (hb3.mono B3.size))
            | (go_at_call 13; (with_reducible refine (HLINE.out _ B3).mono ?_); rintro e w9 ⟨⟨v9, rfl⟩, P9, K9⟩))
        have HPN : Hid (Pst W gb (L2 ++ (l.take (k + 1)).flatMap (fun y => lineL (lnW f y))) w9) := Lib.hid (by
          have e1 : L2 ++ (l.take (k + 1)).flatMap (fun y => lineL (lnW f y)) = L3 ++ lineL (lnW f y) := by
            rw [HX3.out, HY.out, List.take_succ_eq_append_getElem hlt, List.flatMap_append, ← List.append_assoc]
            simp
          rw [e1]; exact P9)
        clear P9 K9 HLINE B3 HLN HLL HE P4 HKA HKB HKC hb3
        go_wp2_with fail
        go_round
        case rel => exact ⟨k + 1, by omega, by go_num, HPN⟩
        case measure => simp [intOf]; omega
      · have hkl : l.take k = l := List.take_of_length_le (by omega)
        obtain ⟨L4, hL4⟩ : ∃ L, L = L2 ++ l.flatMap (fun y => lineL (lnW f y)) := ⟨_, rfl⟩
        have P5 : Hid (Pst W gb L4 wr) := Lib.hid (by have := HP.out; rw [hkl, ← hL4] at this; exact this)
        have hL4l : L4.length ≤ 280 + 140 * 500 := by
          have h1 := flat_len (fun y => lineL (lnW f y)) 140 l (fun x hx => lnW_len HF.out (HRF.out.lines x hx))
          rw [hL4, List.length_append]
          omega
        obtain ⟨W5, hW5⟩ : ∃ W5, W5 = wr := ⟨_, rfl⟩
        have HL4 := Lib.hid hL4
        clear HP hL4 hkl q5
        subst hW5
        have q6 := (HC.out W5 P5.out.bl).2.2.2.2.2.2
        have hmlen := HRF.out.mlen
        go_wp2_with fail
        go_loopw [67] (fun i wr => ∃ k : Nat, k ≤ m.length ∧ i = .int .i64 (k : Int) ∧ Hid (Pst W gb (L4 ++ (m.take k).flatMap (fun y => lineL (itW f y))) wr)) (fun i _ => m.length - (intOf i).toNat)
        case atStart => exact ⟨0, by omega, rfl, by simpa using P5⟩
        case round =>
          obtain ⟨k, hk, rfl, HP⟩ := hrel
          by_cases hlt : k < m.length
          · have HRL : RdT wr w.heap.size A2 m := (HT.out.below HB0.out (Nat.le_refl _)).below HP.out.bl (Nat.le_of_lt HS.out)
            obtain ⟨b5, off, rfl, _, d0, d1, d2, d3⟩ := HRL.at_ hlt
            obtain ⟨y, hy⟩ : ∃ y, y = m[k] := ⟨_, rfl⟩
            rw [← hy] at d0 d1 d2 d3
            have HY := Lib.hid hy
            obtain ⟨y0, y1, y2, y3, ⟨y6, y7⟩, y8, y9⟩ := HRF.out.items y (by rw [hy]; exact List.getElem_mem hlt)
            obtain ⟨L3, hL3⟩ : ∃ L, L = L4 ++ (m.take k).flatMap (fun y => lineL (itW f y)) := ⟨_, rfl⟩
            have hL3l : L3.length ≤ 280 + 140 * 500 + 100 * 200 := by
              have h1 := flat_len (fun y => lineL (itW f y)) 100 (m.take k) (fun x hx => itW_len HF.out (HRF.out.items x (List.mem_of_mem_take hx)))
              rw [hL3, List.length_append]
              rw [List.length_take] at h1
              omega
            rw [← hL3] at HP
            obtain ⟨W4, hW4⟩ : ∃ W4, W4 = wr.alloc (.cells #[.int .i64 y.due, .int .i64 y.kind, .int .i64 y.period, .int .i64 y.open_] 53) := ⟨_, rfl⟩
            have P4 : Hid (Pst W gb L3 W4) := Lib.hid (by rw [hW4]; exact HP.out.on ((Below.refl _ _).alloc (Nat.le_refl _) _))
            obtain ⟨gx, hgx⟩ : ∃ gx, gx = wr.heap.size := ⟨_, rfl⟩
            have HBX : Hid (W4.heap[gx]? = some (.cells #[.int .i64 y.due, .int .i64 y.kind, .int .i64 y.period, .int .i64 y.open_] 53)) := Lib.hid (by rw [hW4, hgx]; exact heap_alloc_new wr _)
            have HNE : Hid (gx ≠ gb) := Lib.hid (by obtain ⟨_, _, hB⟩ := HP.out.bd; have := hB.lt; omega)
            have HX3 := Lib.hid hL3
            clear hy hL3 HRL
            go_wp2_with fail
            rw [← hW4, ← hgx]
            clear hW4 hgx
            have B3 := (Below.refl W4.heap.size W4).drew
            have HTX := HTB.out.below (HB0.out.trans (P4.out.bl.mono HB0.out.size))
            obtain ⟨S0, hS0⟩ : ∃ S : ByteArray, S = ⟨(f y.due).toArray⟩ := ⟨_, rfl⟩
            have G0 : Hid (∀ Y, Below W4.heap.size W4 Y → Calls Tryz.prog 17 #[.int .i64 y.due] Y fun e w' => e = .returned (.string S0) ∧ Below Y.heap.size Y w') := Lib.hid (by rw [hS0]; exact gives_date f HF.out y.due y0 y1 W4 HTX)
            obtain ⟨S1, hS1⟩ : ∃ S : ByteArray, S = itemN y.kind := ⟨_, rfl⟩
            have G1 : Hid (∀ Y, Below W4.heap.size W4 Y → Calls Tryz.prog 19 #[.int .i64 y.kind] Y fun e w' => e = .returned (.string S1) ∧ Below Y.heap.size Y w') := Lib.hid (by rw [hS1]; exact gives_item y.kind y2 y3 W4)
            obtain ⟨S2, hS2⟩ : ∃ S : ByteArray, S = ⟨(Lib.itoa y.period).toArray⟩ := ⟨_, rfl⟩
            have G2 : Hid (∀ Y, Below W4.heap.size W4 Y → Calls Tryz.prog 16 #[.int .i64 y.period] Y fun e w' => e = .returned (.string S2) ∧ Below Y.heap.size Y w') := Lib.hid (by rw [hS2]; exact gives_itoa y.period y6 y7 W4 HTX)
            obtain ⟨S3, hS3⟩ : ∃ S : ByteArray, S = ⟨(moneyL y.open_).toArray⟩ := ⟨_, rfl⟩
            have G3 : Hid (∀ Y, Below W4.heap.size W4 Y → Calls Tryz.prog 12 #[.int .i64 y.open_] Y fun e w' => e = .returned (.string S3) ∧ Below Y.heap.size Y w') := Lib.hid (by rw [hS3]; exact gives_money y.open_ y8 y9 W4 HTX)
            have HE : Hid ([(⟨#[100, 117, 101]⟩ : ByteArray), S0, S1, S2, S3].map (fun x : ByteArray => x.data.toList) = itW f y) := Lib.hid (by rw [hS0, hS1, hS2, hS3]; rfl)
            have HLN : Hid ((lineL (itW f y)).length ≤ 140) := Lib.hid (by have := itW_len HF.out (x := y) ⟨y0, y1, y2, y3, ⟨y6, y7⟩, y8, y9⟩; omega)
            have HLL : Hid ((L3).length ≤ 100000) := Lib.hid (by omega)
            have HKA : Hid (∀ Y : World, Y.heap[gx]? = some (.cells #[.int .i64 y.due, .int .i64 y.kind, .int .i64 y.period, .int .i64 y.open_] 53) → Y.cell? ⟨gx, 0, none⟩ = some (.int .i64 y.due) ∧ Y.cell? ⟨gx, 1, none⟩ = some (.int .i64 y.kind) ∧ Y.cell? ⟨gx, 2, none⟩ = some (.int .i64 y.period) ∧ Y.cell? ⟨gx, 3, none⟩ = some (.int .i64 y.open_)) := Lib.hid (fun Y hY => by simp [World.cell?, hY])
            have HKB : Hid (∀ Y, Below W4.heap.size W4 Y → Y.cell? ⟨gx, 0, none⟩ = some (.int .i64 y.due) ∧ Y.cell? ⟨gx, 1, none⟩ = some (.int .i64 y.kind) ∧ Y.cell? ⟨gx, 2, none⟩ = some (.int .i64 y.period) ∧ Y.cell? ⟨gx, 3, none⟩ = some (.int .i64 y.open_)) := Lib.hid (fun Y hY => HKA.out Y ((hY.block gx (Array.getElem?_eq_some_iff.1 HBX.out).1).trans HBX.out))
            have HKC : Hid (∀ Y, KpL gb W4 Y → Y.cell? ⟨gx, 0, none⟩ = some (.int .i64 y.due) ∧ Y.cell? ⟨gx, 1, none⟩ = some (.int .i64 y.kind) ∧ Y.cell? ⟨gx, 2, none⟩ = some (.int .i64 y.period) ∧ Y.cell? ⟨gx, 3, none⟩ = some (.int .i64 y.open_)) := Lib.hid (fun Y hY => HKA.out Y (hY gx _ _ _ HNE.out (by decide) HBX.out))
            have HLINE : Hid (∀ Y, Below W4.heap.size W4 Y → Calls Tryz.prog 13 #[.slice (some ⟨Y.heap.size, 0, none⟩) 5 5, .pointer (some ⟨gb, 0, none⟩)] (Y.alloc (.cells #[.string (⟨#[100, 117, 101]⟩ : ByteArray), .string S0, .string S1, .string S2, .string S3] 9)) fun e w' => (∃ v, e = .returned v) ∧ Pst W gb ((L3) ++ lineL (itW f y)) w' ∧ KpL gb W4 w') := Lib.hid (fun Y hY => line_any P4.out hY [(⟨#[100, 117, 101]⟩ : ByteArray), S0, S1, S2, S3] (itW f y) _ _ 5 HE.out rfl rfl (by simp) (by have := HLN.out; omega) HLL.out)
            clear HTX hS0 hS1 hS2 hS3
            go_region_held (fun Y => Y.cell? ⟨gx, 0, none⟩ = some (.int .i64 y.due) ∧ Y.cell? ⟨gx, 1, none⟩ = some (.int .i64 y.kind) ∧ Y.cell? ⟨gx, 2, none⟩ = some (.int .i64 y.period) ∧ Y.cell? ⟨gx, 3, none⟩ = some (.int .i64 y.open_))
              (first | exact HKB.out _ B3 | exact HKB.out _ (B3.alloc B3.size _) | exact HKC.out _ K9)
              (first
                | (go_at_call 17; (with_reducible refine (G0.out _ B3).mono ?_); rintro e w3 ⟨rfl, hb3⟩; have B3 := B3.trans (hb3.mono B3.size))
                | (go_at_call 19; (with_reducible refine (G1.out _ B3).mono ?_); rintro e w3 ⟨rfl, hb3⟩; have B3 := B3.trans (hb3.mono B3.size))
                | (go_at_call 16; (with_reducible refine (G2.out _ B3).mono ?_); rintro e w3 ⟨rfl, hb3⟩; have B3 := B3.trans (hb3.mono B3.size))
                | (go_at_call 12; (with_reducible refine (G3.out _ B3).mono ?_); rintro e w3 ⟨rfl, hb3⟩; have B3 := B3.trans (hb3.mono B3.size))
                | (go_at_call 13; (with_reducible refine (HLINE.out _ B3).mono ?_); rintro e w9 ⟨⟨v9, rfl⟩, P9, K9⟩))
            have HPN : Hid (Pst W gb (L4 ++ (m.take (k + 1)).flatMap (fun y => lineL (itW f y))) w9) := Lib.hid (by
              have e1 : L4 ++ (m.take (k + 1)).flatMap (fun y => lineL (itW f y)) = L3 ++ lineL (itW f y) := by
                rw [HX3.out, HY.out, List.take_succ_eq_append_getElem hlt, List.flatMap_append, ← List.append_assoc]
                simp
              rw [e1]; exact P9)
            clear P9 K9 HLINE B3 HLN HLL HE P4 HKA HKB HKC hb3
            go_wp2_with fail
            go_round
            case rel => exact ⟨k + 1, by omega, by go_num, HPN⟩
            case measure => simp [intOf]; omega
          · have hkl : m.take k = m := List.take_of_length_le (by omega)
            obtain ⟨L5, hL5⟩ : ∃ L, L = L4 ++ m.flatMap (fun y => lineL (itW f y)) := ⟨_, rfl⟩
            have P6 : Hid (Pst W gb L5 wr) := Lib.hid (by have := HP.out; rw [hkl, ← hL5] at this; exact this)
            have hL5l : L5.length ≤ 280 + 140 * 500 + 100 * 200 := by
              have h1 := flat_len (fun y => lineL (itW f y)) 100 m (fun x hx => itW_len HF.out (HRF.out.items x hx))
              rw [hL5, List.length_append]
              omega
            obtain ⟨W6, hW6⟩ : ∃ W6, W6 = wr := ⟨_, rfl⟩
            have HL5 := Lib.hid hL5
            clear HP hL5 hkl q6
            subst hW6
            obtain ⟨q0, q1, q2, q3, q4, q5, q6⟩ := HC.out W6 P6.out.bl
            have hBW : Below w.heap.size w W6 := HB0.out.trans (P6.out.bl.mono HB0.out.size)
            have KS : Hid (Calls Tryz.prog 20 #[.agg #[.int .i64 id, .int .i64 fr, .int .i64 to_, .int .i64 owed, .int .i64 credit, .slice A l.length c, .slice A2 m.length c2]] W6 fun e w' => e = .returned (.tuple #[.int .i64 a, .int .i64 bb, .int .i64 0]) ∧ Below W6.heap.size W6 w') := Lib.hid
              ((sums_any id fr to_ owed credit A A2 c m.length c2 l W6 ((HL.out.below hBW (Nat.le_refl _)).more hBW.size) (by omega)).mono fun e w' ⟨⟨a1, x1, b1, z1, s1, s2, hs⟩, h2⟩ => by
                rw [HRF.out.sumO] at s1
                rw [HRF.out.sumC] at s2
                injection s1 with s1; injection s1 with s1; injection s1 with s11 s1; injection s1 with s12 _; injection s11 with _ s11; injection s12 with _ s12
                injection s2 with s2; injection s2 with s2; injection s2 with s21 s2; injection s2 with s22 _; injection s21 with _ s21; injection s22 with _ s22
                subst s11 s12 s21 s22
                rcases hs with ⟨_, _, rfl⟩ | ⟨hn, _⟩
                · exact ⟨rfl, h2⟩
                · exact absurd ⟨rfl, rfl⟩ hn)
            clear hBW
            go_wp2_with fail
            refine KS.out.mono ?_
            rintro e w7 ⟨rfl, hb7⟩
            have P7 : Hid (Pst W gb L5 w7) := Lib.hid (P6.out.on hb7)
            clear hb7 KS q0 q1 q2 q3 q4 q5 q6
            have HTX := Lib.hid (HTB.out.below (HB0.out.trans (P7.out.bl.mono HB0.out.size)))
            have hAa := HRF.out.a_
            have hAb := HRF.out.b_
            unfold Amt at hAa hAb
            have G0 := Lib.hid (gives_money a (by omega) (by omega) w7 HTX.out)
            have G1 := Lib.hid (gives_money bb (by omega) (by omega) w7 HTX.out)
            obtain ⟨S0, hS0⟩ : ∃ S : ByteArray, S = ⟨(moneyL a).toArray⟩ := ⟨_, rfl⟩
            obtain ⟨S1, hS1⟩ : ∃ S : ByteArray, S = ⟨(moneyL bb).toArray⟩ := ⟨_, rfl⟩
            rw [← hS0] at G0
            rw [← hS1] at G1
            have HE : Hid ([(⟨#[99, 108, 111, 115, 105, 110, 103]⟩ : ByteArray), S0, S1].map (fun x : ByteArray => x.data.toList) = closeW a bb) := Lib.hid (by rw [hS0, hS1]; rfl)
            have HLN : Hid ((lineL (closeW a bb)).length ≤ 140) := Lib.hid (by have := openW_len (a := a) (b := bb) (by omega) (by omega) (by omega) (by omega); unfold openW at this; unfold closeW; rw [lineL_len] at this ⊢; exact Nat.le_trans this (by decide))
            clear hS0 hS1 hAa hAb
            go_wp2_with fail
            refine (G0.out _ (Below.refl _ _)).mono ?_
            rintro e w8 ⟨rfl, hb8⟩
            go_wp2_with fail
            refine (G1.out _ hb8).mono ?_
            rintro e w10 ⟨rfl, hb10⟩
            have hb9 := hb8.trans (hb10.mono hb8.size)
            go_wp2_with fail
            refine (line_any P7.out hb9 [⟨#[99, 108, 111, 115, 105, 110, 103]⟩, S0, S1] (closeW a bb) _ _ 3 HE.out rfl rfl (by simp) (by have := HLN.out; omega) (by omega)).mono ?_
            rintro e w11 ⟨⟨v9, rfl⟩, P9, K9⟩
            have P10 := Lib.hid P9
            clear P9 K9 hb8 hb10 hb9
            obtain ⟨A9, c9, hB9⟩ := P10.out.bd
            have HB9 := Lib.hid hB9
            have hz9 := P10.out.bl.size
            clear hB9
            go_wp2_with fail
            refine (Tryz.Builder_String_any W.heap.size gb _ w11 HB9.out.is hz9).mono ?_
            rintro e w12 ⟨rfl, hb12⟩
            have HB12 := Lib.hid hb12
            clear hb12
            go_wp2_with fail
            go_ret2
            refine ⟨ret_v ?_, HB0.out.trans ((P10.out.bl.trans HB12.out).mono HB0.out.size)⟩
            rw [HVV.out]
            have e1 : printL f id fr to_ owed credit l m a bb = L5 ++ lineL (closeW a bb) := by
              unfold printL
              rw [HL5.out, HL4.out, HL2.out, HL1.out]
            rw [e1]
            rfl
end Go.Proofs.YtlmejpkngnilcaaGreatDoor

/- Parts of the proof, one behind the other: What statement.Print printed, statement.Parse reads back: plainly.; What Parse gives at a text that Print printed: the statement. -/
import Derived.Test.YtlmejpkngnilcaaGreatDoorMrg40
import Derived.Test.YtlmejpkngnilcaaGreatDoorMrg12
namespace Go.Proofs.YtlmejpkngnilcaaGreatDoor
open Go.RowKit Go.Shelf

/-- No blank, no newline. -/
def Gd (l : List UInt8) : Prop := ∀ b ∈ l, b ≠ 32 ∧ b ≠ 10
theorem Gd.app {l m : List UInt8} (h : Gd l) (h2 : Gd m) : Gd (l ++ m) := fun b hb => by
  rcases List.mem_append.1 hb with h3 | h3
  · exact h b h3
  · exact h2 b h3
theorem gd_digs {l : List UInt8} (h : Digs l) : Gd l := fun b hb => by
  have := h b hb
  exact ⟨fun e => by subst e; revert this; decide, fun e => by subst e; revert this; decide⟩
theorem gd_dg (n : Nat) : ∀ w, Gd (Dig.digW w n) := fun w => gd_digs (fun c hc => by
  induction w generalizing n with
  | zero => unfold Dig.digW at hc; cases hc
  | succ w ih =>
    unfold Dig.digW at hc
    rcases List.mem_append.1 hc with h | h
    · exact ih _ h
    · rw [List.mem_singleton] at h
      rw [h, Dig.dg_nat]; omega)
theorem gd_text (y m d : Int) : Gd (Dig.text y m d) := by
  unfold Dig.text
  have h45 : Gd [45] := fun b hb => by rw [List.mem_singleton] at hb; subst hb; decide
  exact ((((gd_dg _ _).app h45).app (gd_dg _ _)).app h45).app (gd_dg _ _)
theorem gd_grpT : ∀ {l : List UInt8}, Gd l → Gd (grpT l)
  | [], _ => fun b hb => by cases hb
  | c :: l, h => by
    rw [grpT_cons]
    have hc := h c (by simp)
    refine Gd.app ?_ (gd_grpT (fun b hb => h b (by simp [hb])))
    split
    · intro b hb
      simp at hb
      rcases hb with rfl | rfl
      · decide
      · exact hc
    · intro b hb
      rw [List.mem_singleton] at hb
      subst hb; exact hc
theorem gd_grp : ∀ {l : List UInt8}, Gd l → Gd (grp l)
  | [], _ => fun b hb => by cases hb
  | c :: l, h => fun b hb => by
    unfold grp at hb
    rcases List.mem_cons.1 hb with rfl | hb
    · exact h b (by simp)
    · exact gd_grpT (fun x hx => h x (by simp [hx])) b hb
theorem gd_money (a : Int) : Gd (moneyL a) := by
  unfold moneyL moneyOf
  refine Gd.app ?_ (Gd.app (gd_grp (gd_digs (digs_dec _))) ?_)
  · split
    · intro b hb; rw [List.mem_singleton] at hb; subst hb; decide
    · intro b hb; cases hb
  · intro b hb
    have hd : Digs [UInt8.ofNat (48 + a.natAbs % 100 / 10), UInt8.ofNat (48 + a.natAbs % 10)] := fun c hc => by
      simp only [List.mem_cons, List.not_mem_nil, or_false] at hc
      rcases hc with rfl | rfl
      · rw [toNat_digit _ (by omega)]; omega
      · rw [toNat_digit _ (by omega)]; omega
    rcases List.mem_cons.1 hb with rfl | hb
    · decide
    · exact gd_digs hd b hb
theorem itoa_dec {n : Int} (h : 0 ≤ n) : Lib.itoa n = Lib.decDigits n.toNat := by unfold Lib.itoa; rw [if_neg (by omega)]
theorem gd_itoa {n : Int} (h : 0 ≤ n) : Gd (Lib.itoa n) := by rw [itoa_dec h]; exact gd_digs (digs_dec _)
theorem gd_line (k : Int) : Gd (lineN k).data.toList := by unfold lineN; split <;> (intro b hb; revert b; decide)
theorem gd_item (k : Int) : Gd (itemN k).data.toList := by unfold itemN; split <;> (intro b hb; revert b; decide)

def mk (u : List UInt8) : ByteArray := ⟨u.toArray⟩
theorem mk_data (u : List UInt8) : (mk u).data.toList = u := rfl
theorem of_data {W : List ByteArray} {ws : List (List UInt8)} (h : W.map (·.data.toList) = ws) : W = ws.map mk := by
  rw [← h, List.map_map]
  have : (mk ∘ fun x : ByteArray => x.data.toList) = id := by funext x; rfl
  rw [this, List.map_id]
/-! numbers read back -/
theorem num_iff {n v : Int} (h0 : 0 ≤ n) (h1 : n ≤ 1099511627776) : numR (mk (Lib.itoa n)) v ↔ v = n := by
  have e : Lib.atoiAll (Lib.itoa n) = .ok n := by
    rw [itoa_dec h0]
    obtain ⟨c, r, hr⟩ : ∃ c r, Lib.decDigits n.toNat = c :: r := by
      cases h : Lib.decDigits n.toNat with
      | nil => exact absurd h (dec_ne _)
      | cons c r => exact ⟨c, r, rfl⟩
    have hc := digs_dec n.toNat c (by rw [hr]; exact List.mem_cons_self ..)
    have hm : Lib.parseMag (c :: r) = .ok n.toNat := by
      rw [← hr]
      unfold Lib.parseMag
      have := parse_dec n.toNat (by omega) []
      rw [List.append_nil] at this
      rw [if_neg (dec_ne _), this]
      rfl
    rw [hr, Lib.atoiAll_plain c r (by omega) (by omega), hm]
    show (if 9223372036854775808 ≤ n.toNat then Lib.NumEnd.range else .ok (n.toNat : Int)) = _
    rw [if_neg (by omega)]
    congr 1
    omega
  unfold numR
  rw [mk_data, e]
  exact ⟨fun h => by injection h with h; exact h.symm, fun h => by rw [h]⟩
theorem amt_iff {n v : Int} (h0 : -9223372036854775808 ≤ n) (h1 : n ≤ 9223372036854775807) : amtR (mk (moneyL n)) v ↔ v = n := by
  unfold amtR
  rw [mk_data, amtP_money n h0 h1]
  exact ⟨fun h => by injection h with h; exact h.symm, fun h => by rw [h]⟩
theorem parse_text {n y m d : Int} {e : Ending} (hd : IsDate n y m d) (h : ParseOf (Dig.text y m d) e) : e = .returned (.tuple #[.int .i64 n, .int .i64 0]) := by
  obtain ⟨y, m, d, rfl, rfl, rfl, hy, hm, hdd⟩ := isDate_nat hd
  obtain ⟨a1, a2⟩ := Prs.dval_digW 4 y (by omega)
  obtain ⟨b1, b2⟩ := Prs.dval_digW 2 m (by omega)
  obtain ⟨c1, c2⟩ := Prs.dval_digW 2 d (by omega)
  have hF : Prs.Fields (Dig.text (y : Int) (m : Int) (d : Int)) (Dig.digW 4 y) (Dig.digW 2 m) (Dig.digW 2 d) := by
    refine ⟨?_, by rw [Dig.digW_length], by rw [Dig.digW_length], by rw [Dig.digW_length], a2, b2, c2⟩
    unfold Dig.text
    simp
  have hV : V (Dig.digW 4 y) (Dig.digW 2 m) (Dig.digW 2 d) := by unfold V; rw [a1, b1, c1]; exact hd.1
  rcases h with ⟨p, q, r, h1, h2, rfl⟩ | ⟨h1, rfl⟩
  · obtain ⟨rfl, rfl, rfl⟩ := Prs.fields_same h1 hF
    rw [a1, b1, c1, hd.2]
  · exact absurd hV (h1 _ _ _ hF)
theorem text_parse {n y m d : Int} (hd : IsDate n y m d) : ParseOf (Dig.text y m d) (.returned (.tuple #[.int .i64 n, .int .i64 0])) := by
  obtain ⟨y, m, d, rfl, rfl, rfl, hy, hm, hdd⟩ := isDate_nat hd
  obtain ⟨a1, a2⟩ := Prs.dval_digW 4 y (by omega)
  obtain ⟨b1, b2⟩ := Prs.dval_digW 2 m (by omega)
  obtain ⟨c1, c2⟩ := Prs.dval_digW 2 d (by omega)
  refine .inl ⟨Dig.digW 4 y, Dig.digW 2 m, Dig.digW 2 d, ⟨?_, by rw [Dig.digW_length], by rw [Dig.digW_length], by rw [Dig.digW_length], a2, b2, c2⟩, ?_, ?_⟩
  · unfold Dig.text
    simp
  · unfold V; rw [a1, b1, c1]; exact hd.1
  · rw [a1, b1, c1, hd.2]
theorem day_iff {f : Int → List UInt8} (hf : Dates f) {n v : Int} (h0 : 0 ≤ n) (h1 : n ≤ 3652058) : dayR (mk (f n)) v ↔ v = n := by
  obtain ⟨y, m, d, hd, e⟩ := hf n h0 h1
  unfold dayR
  rw [mk_data, e]
  constructor
  · intro h
    have := parse_text hd h
    injection this with this; injection this with this; injection this with this; injection this with this _; injection this with _ this
  · rintro rfl; exact text_parse hd
theorem line_iff {n v : Int} (h0 : 1 ≤ n) (h1 : n ≤ 7) : lineR (lineN n) v ↔ v = n := by
  constructor
  · rintro ⟨g0, g1, e⟩
    have hn : n = 1 ∨ n = 2 ∨ n = 3 ∨ n = 4 ∨ n = 5 ∨ n = 6 ∨ n = 7 := by omega
    have hv : v = 1 ∨ v = 2 ∨ v = 3 ∨ v = 4 ∨ v = 5 ∨ v = 6 ∨ v = 7 := by omega
    rcases hn with rfl | rfl | rfl | rfl | rfl | rfl | rfl <;> rcases hv with rfl | rfl | rfl | rfl | rfl | rfl | rfl <;> first | rfl | (exact absurd (congrArg (fun s : ByteArray => s.data.toList) e) (by decide))
  · rintro rfl; exact ⟨h0, h1, rfl⟩
theorem item_iff {n v : Int} (h0 : 0 ≤ n) (h1 : n ≤ 2) : itemR (itemN n) v ↔ v = n := by
  constructor
  · rintro ⟨g0, g1, e⟩
    have hn : n = 0 ∨ n = 1 ∨ n = 2 := by omega
    have hv : v = 0 ∨ v = 1 ∨ v = 2 := by omega
    rcases hn with rfl | rfl | rfl <;> rcases hv with rfl | rfl | rfl <;> first | rfl | (exact absurd (congrArg (fun s : ByteArray => s.data.toList) e) (by decide))
  · rintro rfl; exact ⟨h0, h1, rfl⟩
/-! words of a line -/
theorem index_app {c : UInt8} : ∀ {x : List UInt8} (r : List UInt8), (∀ b ∈ x, b ≠ c) → Lib.indexByte (x ++ c :: r) c = (x.length : Int)
  | [], r, _ => by unfold Lib.indexByte; simp
  | b :: x, r, h => by
    have hb : (b == c) = false := by simpa using h b (by simp)
    have ih := index_app (x := x) r (fun y hy => h y (by simp [hy]))
    rw [List.cons_append]
    unfold Lib.indexByte
    rw [hb, ih]
    have : ((x.length : Int) == -1) = false := by simp
    rw [this]
    simp
theorem index_no {c : UInt8} : ∀ {x : List UInt8}, (∀ b ∈ x, b ≠ c) → Lib.indexByte x c = -1
  | [], _ => rfl
  | b :: x, h => by
    have hb : (b == c) = false := by simpa using h b (by simp)
    unfold Lib.indexByte
    rw [hb, index_no (fun y hy => h y (by simp [hy]))]
    rfl
theorem join_two (x y : List UInt8) (r : List (List UInt8)) : Lib.join (x :: y :: r) [32] = x ++ 32 :: Lib.join (y :: r) [32] := by
  rw [Lib.join_cons, Lib.join_cons]
  simp [Lib.joinTail]
theorem split_join : ∀ (x : List UInt8) (r : List (List UInt8)), (∀ u ∈ x :: r, Gd u) → Lib.splitK [32] 0 r.length (Lib.join (x :: r) [32]) = x :: r
  | x, [], _ => by rw [Lib.join_one]; rfl
  | x, y :: r, h => by
    have hx : ∀ b ∈ x, b ≠ 32 := fun b hb => (h x (by simp) b hb).1
    rw [join_two]
    show (if Lib.index (x ++ 32 :: Lib.join (y :: r) [32]) [32] == -1 then _ else _) = _
    rw [Lib.index_one, index_app _ hx]
    have hne : ((x.length : Int) == -1) = false := by simp
    rw [hne]
    simp only [Bool.false_eq_true, if_false, Int.toNat_natCast, Nat.add_zero, List.length_singleton]
    have e1 : (x ++ 32 :: Lib.join (y :: r) [32]).take x.length = x := by simp
    have e2 : (x ++ 32 :: Lib.join (y :: r) [32]).drop (x.length + 1) = Lib.join (y :: r) [32] := by simp
    rw [e1, e2, split_join y r (fun u hu => h u (by simp at hu ⊢; exact .inr hu))]
theorem count_no {x : List UInt8} (h : ∀ b ∈ x, b ≠ 32) : x.count 32 = 0 := List.count_eq_zero.2 (fun hm => h 32 hm rfl)
theorem count_join : ∀ (x : List UInt8) (r : List (List UInt8)), (∀ u ∈ x :: r, Gd u) → (Lib.join (x :: r) [32]).count 32 = r.length
  | x, [], h => by rw [Lib.join_one]; exact count_no (fun b hb => (h x (by simp) b hb).1)
  | x, y :: r, h => by
    rw [join_two, List.count_append, count_no (fun b hb => (h x (by simp) b hb).1), List.count_cons_self, count_join y r (fun u hu => h u (by simp at hu ⊢; exact .inr hu))]
    simp
theorem trim_line (l : List UInt8) : Lib.trimSuffix (l ++ [10]) [10] = l := by
  unfold Lib.trimSuffix Lib.hasSuffix
  rw [if_pos (List.isSuffixOf_iff_suffix.2 (List.suffix_append _ _))]
  simp
theorem wordsOf_line {x : ByteArray} {u : List UInt8} {r : List (List UInt8)} (hx : x.data.toList = lineL (u :: r)) (h : ∀ v ∈ u :: r, Gd v) : wordsOf x = (u :: r).map mk := by
  apply of_data
  have hb : (bareW x).data.toList = Lib.join (u :: r) [32] := by
    show Lib.trimSuffix x.data.toList [10] = _
    rw [hx]
    unfold lineL
    exact trim_line _
  have hc : Lib.countB (bareW x) sp = r.length := by
    show Lib.count (bareW x).data.toList [32] = _
    rw [hb, Lib.count_one]
    exact count_join u r h
  unfold wordsOf
  rw [hc, Lib.splitB_data, hb]
  exact split_join u r h
/-! lines of a text -/
theorem cutL_line : ∀ {v : List UInt8} (w : List UInt8), (∀ b ∈ v, b ≠ 10) → cutL (v ++ 10 :: w) = (v ++ [10], w)
  | [], w, _ => by simp [cutL]
  | b :: v, w, h => by
    rw [List.cons_append]
    unfold cutL
    rw [if_neg (h b (by simp)), cutL_line w (fun y hy => h y (by simp [hy]))]
    rfl
theorem lines_det {Z : List (List UInt8)} (hZ : ∀ u ∈ Z, ∃ v, u = v ++ [10] ∧ ∀ b ∈ v, b ≠ 10) {t : ByteArray} (ht : t.data.toList = Z.flatten) {pre : List ByteArray} {r : ByteArray} (h : LinesOf t pre r) :
    pre.map (·.data.toList) = Z.take pre.length ∧ r.data.toList = (Z.drop pre.length).flatten := by
  induction h with
  | nil => exact ⟨rfl, ht⟩
  | @step pre r x r' _ hr hx hr' ih =>
    obtain ⟨ih1, ih2⟩ := ih
    cases hd : Z.drop pre.length with
    | nil =>
      rw [hd] at ih2
      have : r.size = 0 := by have e : r.data.toList.length = r.size := Array.length_toList; rw [ih2] at e; exact e.symm
      exact absurd this hr
    | cons u rest =>
      have hu : u ∈ Z := List.mem_of_mem_drop (by rw [hd]; exact List.mem_cons_self ..)
      obtain ⟨v, hv, hv2⟩ := hZ u hu
      have hcut : cutL r.data.toList = (u, rest.flatten) := by
        rw [ih2, hd, List.flatten_cons, hv, List.append_assoc]
        exact cutL_line _ hv2
      rw [hcut] at hx hr'
      have hk : Z[pre.length]? = some u := by
        have := List.getElem?_drop (xs := Z) (i := pre.length) (j := 0)
        rw [hd] at this
        simpa using this.symm
      have hd2 : Z.drop (pre.length + 1) = rest := by rw [← List.drop_drop, hd]; rfl
      rw [List.map_append, List.length_append, List.length_singleton, List.take_add_one, hk, hd2, ih1]
      exact ⟨by simp [hx], hr'⟩
end Go.Proofs.YtlmejpkngnilcaaGreatDoor

namespace Go.Proofs.YtlmejpkngnilcaaGreatDoor
open Go.RowKit Go.Shelf

/-- A line's words, and what it does, fit. -/
def PlOk (z : List (List UInt8) × (Smt → Smt)) : Prop := (∃ u r, z.1 = u :: r) ∧ (∀ v ∈ z.1, Gd v) ∧ ∀ s s', LineW (z.1.map mk) s s' ↔ s' = z.2 s
theorem mk_toList (s : ByteArray) : mk s.data.toList = s := rfl
theorem hd_size_ne {u v : ByteArray} (h : u.size ≠ v.size) : ¬ u = v := fun e => h (by rw [e])
theorem mk_size (u : List UInt8) : (mk u).size = u.length := List.size_toArray
theorem du_st : ¬ duB = stB := hd_size_ne (by decide)
theorem du_op : ¬ duB = opB := hd_size_ne (by decide)
theorem du_cl : ¬ duB = clB := hd_size_ne (by decide)
theorem op_st : ¬ opB = stB := hd_size_ne (by decide)
theorem cl_st : ¬ clB = stB := hd_size_ne (by decide)
theorem cl_op : ¬ clB = opB := fun h => absurd (congrArg (fun s : ByteArray => s.data.toList) h) (by decide)
theorem gd_of {l : List (List UInt8)} (h : l.all (fun u => u.all (fun b => b != 32 && b != 10)) = true) : ∀ v ∈ l, Gd v := fun v hv b hb => by
  have h1 := List.all_eq_true.1 (List.all_eq_true.1 h v hv) b hb
  simp only [Bool.and_eq_true, bne_iff_ne] at h1
  exact h1
section
variable {f : Int → List UInt8} (hf : Dates f)
include hf
theorem pl_head {id fr to_ : Int} (h0 : 1 ≤ id) (h1 : id ≤ 999999) (h2 : 0 ≤ fr) (h3 : fr ≤ 3652058) (h4 : 0 ≤ to_) (h5 : to_ ≤ 3652058) : PlOk (headW f id fr to_, fun s => { s with id := id, fr := fr, to_ := to_ }) := by
  refine ⟨⟨_, _, rfl⟩, fun v hv => ?_, fun s s' => (lineW_st rfl).trans ?_⟩
  · simp only [headW, List.mem_cons, List.not_mem_nil, or_false] at hv
    rcases hv with rfl | rfl | rfl | rfl
    · exact gd_of (l := [stW]) (by decide) _ (by simp)
    · exact gd_itoa (by omega)
    · obtain ⟨y, m, d, _, e⟩ := hf fr h2 h3; rw [e]; exact gd_text _ _ _
    · obtain ⟨y, m, d, _, e⟩ := hf to_ h4 h5; rw [e]; exact gd_text _ _ _
  · constructor
    · rintro ⟨a, b, c, ⟨k1, k2, k3, _⟩, rfl⟩
      rw [(num_iff (by omega) (by omega)).1 k1, (day_iff hf h2 h3).1 k2, (day_iff hf h4 h5).1 k3]
    · rintro rfl
      exact ⟨id, fr, to_, ⟨(num_iff (by omega) (by omega)).2 rfl, (day_iff hf h2 h3).2 rfl, (day_iff hf h4 h5).2 rfl, rfl⟩, rfl⟩
theorem pl_line {y : Ln} (h : LnOk y) : PlOk (lnW f y, fun s => { s with l := s.l ++ [y] }) := by
  obtain ⟨h0, h1, h2, h3, h4, h5, ⟨h6, h7⟩, h8, h9⟩ := h
  have hsz : (mk (f y.day)).size = 10 := by rw [mk_size, hf.len h0 h1]
  have n : ∀ v : ByteArray, v.size ≠ 10 → ¬ hd ((lnW f y).map mk) = v := fun v hv => hd_size_ne (by rw [show (hd ((lnW f y).map mk)).size = 10 from hsz]; exact fun e => hv e.symm)
  refine ⟨⟨_, _, rfl⟩, fun v hv => ?_, fun s s' => (lineW_ln (n _ (by decide)) (n _ (by decide)) (n _ (by decide)) (n _ (by decide))).trans ?_⟩
  · simp only [lnW, List.mem_cons, List.not_mem_nil, or_false] at hv
    rcases hv with rfl | rfl | rfl | rfl | rfl
    · obtain ⟨y1, m, d, _, e⟩ := hf y.day h0 h1; rw [e]; exact gd_text _ _ _
    · exact gd_line _
    · exact gd_itoa h4
    · exact gd_money _
    · exact gd_money _
  · constructor
    · rintro ⟨a, b, c, d, e, ⟨k1, k2, k3, k4, k5, _⟩, rfl⟩
      rw [(day_iff hf h0 h1).1 k1, (line_iff h2 h3).1 k2, (num_iff h4 h5).1 k3, (amt_iff h6 h7).1 k4, (amt_iff h8 h9).1 k5]
    · rintro rfl
      exact ⟨y.day, y.kind, y.ref, y.owed, y.credit, ⟨(day_iff hf h0 h1).2 rfl, (line_iff h2 h3).2 rfl, (num_iff h4 h5).2 rfl, (amt_iff h6 h7).2 rfl, (amt_iff h8 h9).2 rfl, rfl⟩, rfl⟩
theorem pl_item {x : It} (h : ItOk x) (hp : 0 ≤ x.period ∧ x.period ≤ 99999) : PlOk (itW f x, fun s => { s with m := s.m ++ [x] }) := by
  obtain ⟨h0, h1, h2, h3, _, h8, h9⟩ := h
  refine ⟨⟨_, _, rfl⟩, fun v hv => ?_, fun s s' => (lineW_du (ws := (itW f x).map mk) du_st du_op du_cl rfl).trans ?_⟩
  · simp only [itW, List.mem_cons, List.not_mem_nil, or_false] at hv
    rcases hv with rfl | rfl | rfl | rfl | rfl
    · exact gd_of (l := [duW]) (by decide) _ (by simp)
    · obtain ⟨y1, m, d, _, e⟩ := hf x.due h0 h1; rw [e]; exact gd_text _ _ _
    · exact gd_item _
    · exact gd_itoa hp.1
    · exact gd_money _
  · constructor
    · rintro ⟨a, b, c, d, ⟨k1, k2, k3, k4, _⟩, rfl⟩
      rw [(day_iff hf h0 h1).1 k1, (item_iff h2 h3).1 k2, (num_iff hp.1 (by omega)).1 k3, (amt_iff h8 h9).1 k4]
    · rintro rfl
      exact ⟨x.due, x.kind, x.period, x.open_, ⟨(day_iff hf h0 h1).2 rfl, (item_iff h2 h3).2 rfl, (num_iff hp.1 (by omega)).2 rfl, (amt_iff h8 h9).2 rfl, rfl⟩, rfl⟩
end
theorem pl_open {a b : Int} (h0 : -9223372036854775808 ≤ a) (h1 : a ≤ 9223372036854775807) (h2 : -9223372036854775808 ≤ b) (h3 : b ≤ 9223372036854775807) : PlOk (openW a b, fun s => { s with owed := a, credit := b }) := by
  refine ⟨⟨_, _, rfl⟩, fun v hv => ?_, fun s s' => (lineW_op (ws := (openW a b).map mk) op_st rfl).trans ?_⟩
  · simp only [openW, List.mem_cons, List.not_mem_nil, or_false] at hv
    rcases hv with rfl | rfl | rfl
    · exact gd_of (l := [opW]) (by decide) _ (by simp)
    · exact gd_money _
    · exact gd_money _
  · constructor
    · rintro ⟨x, y, ⟨k1, k2, _⟩, rfl⟩
      rw [(amt_iff h0 h1).1 k1, (amt_iff h2 h3).1 k2]
    · rintro rfl
      exact ⟨a, b, ⟨(amt_iff h0 h1).2 rfl, (amt_iff h2 h3).2 rfl, rfl⟩, rfl⟩
theorem pl_close (a b : Int) : PlOk (closeW a b, fun s => s) := by
  refine ⟨⟨_, _, rfl⟩, fun v hv => ?_, fun s s' => lineW_cl (ws := (closeW a b).map mk) cl_st cl_op rfl⟩
  simp only [closeW, List.mem_cons, List.not_mem_nil, or_false] at hv
  rcases hv with rfl | rfl | rfl
  · exact gd_of (l := [clW]) (by decide) _ (by simp)
  · exact gd_money _
  · exact gd_money _
/-- All lines of a statement. -/
def Zp (f : Int → List UInt8) (s : Smt) (a b : Int) : List (List (List UInt8) × (Smt → Smt)) :=
  [(headW f s.id s.fr s.to_, fun st => { st with id := s.id, fr := s.fr, to_ := s.to_ }), (openW s.owed s.credit, fun st => { st with owed := s.owed, credit := s.credit })] ++ s.l.map (fun y => (lnW f y, fun st => { st with l := st.l ++ [y] })) ++ s.m.map (fun x => (itW f x, fun st => { st with m := st.m ++ [x] })) ++ [(closeW a b, fun st => st)]
theorem printL_flat (f : Int → List UInt8) (s : Smt) (a b : Int) : printL f s.id s.fr s.to_ s.owed s.credit s.l s.m a b = ((Zp f s a b).map (fun z => lineL z.1)).flatten := by
  unfold Zp printL
  simp [List.flatMap, List.map_map, Function.comp_def]
theorem fold_lines (f : Int → List UInt8) : ∀ (l : List Ln) (st : Smt), (l.map (fun y => (lnW f y, fun st : Smt => { st with l := st.l ++ [y] }))).foldl (fun a z => z.2 a) st = { st with l := st.l ++ l }
  | [], st => by simp
  | y :: l, st => by
    rw [List.map_cons, List.foldl_cons, fold_lines f l]
    simp
theorem fold_items (f : Int → List UInt8) : ∀ (m : List It) (st : Smt), (m.map (fun x => (itW f x, fun st : Smt => { st with m := st.m ++ [x] }))).foldl (fun a z => z.2 a) st = { st with m := st.m ++ m }
  | [], st => by simp
  | y :: m, st => by
    rw [List.map_cons, List.foldl_cons, fold_items f m]
    simp
theorem fold_all (f : Int → List UInt8) (s : Smt) (a b : Int) : (Zp f s a b).foldl (fun a z => z.2 a) Smt.zero = s := by
  unfold Zp
  rw [List.foldl_append, List.foldl_append, List.foldl_append, fold_lines, fold_items]
  simp [Smt.zero]
/-- The last of lines that stand ahead. -/
theorem take_last {α : Type} {Z : List α} {p : List α} {x : α} (h : p ++ [x] = Z.take (p ++ [x]).length) : p = Z.take p.length ∧ Z[p.length]? = some x := by
  rw [List.length_append, List.length_singleton, List.take_add_one] at h
  cases hz : Z[p.length]? with
  | none =>
    rw [hz] at h
    have := congrArg List.length h
    rw [List.getElem?_eq_none_iff] at hz
    simp at this
    omega
  | some u =>
    rw [hz] at h
    have hl : p.length = (Z.take p.length).length := by
      have := (List.getElem?_eq_some_iff.1 hz).1
      rw [List.length_take]; omega
    obtain ⟨h1, h2⟩ := List.append_inj h hl
    refine ⟨h1, ?_⟩
    simp at h2
    rw [h2]
theorem line_at {Z : List (List (List UInt8) × (Smt → Smt))} (hz : ∀ z ∈ Z, PlOk z) {pre : List ByteArray} {x : ByteArray} (h : (pre ++ [x]).map (·.data.toList) = (Z.map (fun z => lineL z.1)).take (pre ++ [x]).length) :
    pre.map (·.data.toList) = (Z.map (fun z => lineL z.1)).take pre.length ∧ ∃ z, Z[pre.length]? = some z ∧ ∀ s s', LineW (wordsOf x) s s' ↔ s' = z.2 s := by
  rw [List.map_append, List.map_singleton] at h
  have e : (pre ++ [x]).length = (pre.map (fun y : ByteArray => y.data.toList) ++ [x.data.toList]).length := by simp
  rw [e] at h
  obtain ⟨h1, h2⟩ := take_last h
  rw [List.length_map] at h1 h2
  refine ⟨h1, ?_⟩
  rw [List.getElem?_map] at h2
  cases hk : Z[pre.length]? with
  | none => rw [hk] at h2; cases h2
  | some z =>
    rw [hk] at h2
    have hx : x.data.toList = lineL z.1 := by simpa using h2.symm
    obtain ⟨⟨u, r, hur⟩, hg, hl⟩ := hz z (List.mem_of_getElem? hk)
    refine ⟨z, rfl, fun s s' => ?_⟩
    rw [wordsOf_line (u := u) (r := r) (by rw [hx, hur]) (fun v hv => hg v (by rw [hur]; exact hv)), ← hur]
    exact hl s s'
theorem reads_det {Z : List (List (List UInt8) × (Smt → Smt))} (hz : ∀ z ∈ Z, PlOk z) {pre : List ByteArray} {st : Smt} (h : ReadsT pre st) : pre.map (·.data.toList) = (Z.map (fun z => lineL z.1)).take pre.length → st = (Z.take pre.length).foldl (fun a z => z.2 a) Smt.zero := by
  induction h with
  | nil => intro _; rfl
  | @step pre x s s' _ hl ih =>
    intro he
    obtain ⟨h1, z, h2, h3⟩ := line_at hz he
    rw [(h3 s s').1 hl, ih h1, List.length_append, List.length_singleton, List.take_add_one, h2]
    simp
theorem period_ok {id fr to_ owed credit : Int} {l : List Ln} {m : List It} (h : rightB id fr to_ owed credit l m = true) : ∀ x ∈ m, 0 ≤ x.period ∧ x.period ≤ 99999 := fun x hx => by
  unfold rightB at h
  simp only [Bool.and_eq_true] at h
  obtain ⟨_, _, _, h4, _, _⟩ := h
  unfold placesB at h4
  simp only [Bool.and_eq_true, decide_eq_true_eq] at h4
  have e1 := List.all_eq_true.1 h4.2.1 x hx
  unfold itOk at e1
  simp only [wi, Bool.and_eq_true, decide_eq_true_eq] at e1
  omega
/-- Read back: the statement. -/
theorem parsed {f : Int → List UInt8} (hf : Dates f) {s : Smt} (hr : rightB s.id s.fr s.to_ s.owed s.credit s.l s.m = true) {t : ByteArray} (hp : printS f s = .tuple #[.string t, .int .i64 0]) {w w' : World} {e : Ending} (h : ParseX f t w e w') :
    Below w.heap.size w w' ∧ ∃ A c A2 c2, e = .returned (.tuple #[.agg (smtC s A c A2 c2), .int .i64 0]) ∧ RdL w' w'.heap.size A s.l ∧ RdT w' w'.heap.size A2 s.m := by
  obtain ⟨hb, h⟩ := h
  refine ⟨hb, ?_⟩
  have hF := rightB_facts hr
  obtain ⟨a, ha⟩ : ∃ a, a = (two (sumV (s.owed :: s.l.map Ln.owed))).1 := ⟨_, rfl⟩
  obtain ⟨b, hbb⟩ : ∃ a, a = (two (sumV (s.credit :: s.l.map Ln.credit))).1 := ⟨_, rfl⟩
  rw [← ha, ← hbb] at hF
  have ht : t.data.toList = ((Zp f s a b).map (fun z => lineL z.1)).flatten := by
    rw [← printL_flat]
    unfold printS printV at hp
    rw [if_pos hr, ← ha, ← hbb] at hp
    injection hp with hp; injection hp with hp; injection hp with hp _; injection hp with hp
    rw [← hp]
  have hpo := period_ok hr
  have ho := hF.ow; have hc := hF.cr
  unfold Amt at ho hc
  have hz : ∀ z ∈ Zp f s a b, PlOk z := fun z hz => by
    unfold Zp at hz
    simp only [List.mem_append, List.mem_cons, List.mem_map, List.not_mem_nil, or_false] at hz
    rcases hz with (((rfl | rfl) | ⟨y, hy, rfl⟩) | ⟨x, hx, rfl⟩) | rfl
    · exact pl_head hf hF.id0 hF.id1 hF.fr0 hF.fr1 hF.to0 hF.to1
    · exact pl_open (by omega) (by omega) (by omega) (by omega)
    · exact pl_line hf (hF.lines y hy)
    · exact pl_item hf (hF.items x hx) (hpo x hx)
    · exact pl_close a b
  have hzl : ∀ u ∈ (Zp f s a b).map (fun z => lineL z.1), ∃ v, u = v ++ [10] ∧ ∀ b ∈ v, b ≠ 10 := fun u hu => by
    obtain ⟨z, hzz, rfl⟩ := List.mem_map.1 hu
    obtain ⟨⟨u, r, hur⟩, hg, _⟩ := hz z hzz
    refine ⟨Lib.join z.1 [32], rfl, fun x hx => ?_⟩
    have : ∀ (l : List (List UInt8)), (∀ v ∈ l, Gd v) → ∀ x ∈ Lib.join l [32], x ≠ 10 := fun l => by
      intro hl x hx
      cases l with
      | nil => cases hx
      | cons v l =>
        rw [Lib.join_cons] at hx
        rcases List.mem_append.1 hx with h1 | h1
        · exact (hl v (by simp) x h1).2
        · unfold Lib.joinTail at h1
          simp only [List.mem_flatten, List.mem_map] at h1
          obtain ⟨_, ⟨v2, hv2, rfl⟩, h2⟩ := h1
          rcases List.mem_append.1 h2 with h3 | h3
          · rw [List.mem_singleton] at h3; subst h3; decide
          · exact (hl v2 (by simp [hv2]) x h3).2
    exact this z.1 hg x hx
  have whole : ∀ {xs : List ByteArray} {s' : Smt}, LinesOf t xs ⟨#[]⟩ → ReadsT xs s' → s' = s := fun {xs s'} hlo hrs => by
    obtain ⟨h1, h2⟩ := lines_det hzl ht hlo
    have hd : ((Zp f s a b).map (fun z => lineL z.1)).drop xs.length = [] := by
      cases hdd : ((Zp f s a b).map (fun z => lineL z.1)).drop xs.length with
      | nil => rfl
      | cons u r =>
        obtain ⟨v, hv, _⟩ := hzl u (List.mem_of_mem_drop (by rw [hdd]; exact List.mem_cons_self ..))
        rw [hdd, List.flatten_cons, hv] at h2
        have := congrArg List.length h2
        simp at this
    rw [reads_det hz hrs h1]
    have hle : (Zp f s a b).length ≤ xs.length := by
      have := List.drop_eq_nil_iff.1 hd
      rwa [List.length_map] at this
    rw [List.take_of_length_le hle, fold_all]
  rcases h with ⟨xs, s', A, c, A2, c2, hlo, hrs, _, rfl, hL, hT⟩ | ⟨_, ⟨pre, x, s', r, hlo, hrs, hno⟩ | ⟨xs, s', hlo, hrs, hne⟩⟩
  · have e := whole hlo hrs
    subst e
    exact ⟨A, c, A2, c2, rfl, hL, hT⟩
  · obtain ⟨h1, _⟩ := lines_det hzl ht hlo
    obtain ⟨_, z, _, h3⟩ := line_at hz h1
    exact absurd ⟨_, (h3 s' _).2 rfl⟩ hno
  · have e := whole hlo hrs
    subst e
    exact absurd hp hne
end Go.Proofs.YtlmejpkngnilcaaGreatDoor

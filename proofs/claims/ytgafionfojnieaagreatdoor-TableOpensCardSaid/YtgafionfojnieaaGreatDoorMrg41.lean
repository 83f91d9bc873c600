/- Parts of the proof, one behind the other: The walk of the law TableOpens. -/
import Derived.Test.YtgafionfojnieaaGreatDoorMrg39
import Derived.Test.YtgafionfojnieaaGreatDoorMrg40
namespace Go.Proofs.YtgafionfojnieaaGreatDoor
open Go.RowKit
open Lib (hid)
theorem low_core {L R : List Rv} (h : L.map Rv.core = R.map Rv.core) : Tb.low L = Tb.low R ∧ Tb.high L = Tb.high R := by
 have e := Tb.bare_core L R h
 refine ⟨?_, ?_⟩
 · rw [← Tb.low_bare L, ← Tb.low_bare R, e]
 · rw [← Tb.high_bare L, ← Tb.high_bare R, e]
theorem head_core {L R : List Rv} (h : L.map Rv.core = R.map Rv.core) : L.head?.map Rv.k = R.head?.map Rv.k ∧ L.getLast?.map Rv.k = R.getLast?.map Rv.k := by
 have e : ∀ l : List Rv, l.map Rv.k = (l.map Rv.core).map (·.1) := fun l => by rw [List.map_map]; rfl
 have e2 : L.map Rv.k = R.map Rv.k := by rw [e, e, h]
 exact ⟨by rw [← List.head?_map, ← List.head?_map, e2], by rw [← List.getLast?_map, ← List.getLast?_map, e2]⟩
set_option maxHeartbeats 4000000 in
set_option maxRecDepth 100000 in
theorem tableOpens_walk (A : Option Addr) (c : Nat) (b : List UInt8) (B : Option Addr) (d : Nat) (asks : List Rv) (w : World) (h : RdB w w.heap.size A b) (hc : b.length ≤ c) (hcc : c ≤ 9223372036854775807) (hq : RdRv w w.heap.size B asks) :
   Calls Tryz.prog 3 #[.slice A b.length c, .slice B asks.length d] w fun e w' => e = .returned (.bool true) ∧ Below w.heap.size w w' := by
 have HB := hid h
 have HQ := hid hq
 clear h hq
 go_enter Tryz.func3, Tryz.ntmps3
 go_wp2_with fail
 refine (awake_any w).mono ?_
 rintro e w1 ⟨rfl, hb1⟩
 have HB1 := hid hb1
 have HR1 := hid ((HB.out.below hb1 (Nat.le_refl _)).more hb1.size)
 clear hb1
 by_cases hbig : (100000 : Int) < (b.length : Int)
 · go_wp2_with fail
   go_ret
   exact ⟨rfl, HB1.out⟩
 have hbl : b.length ≤ 100000 := by omega
 have KO := hid (topen_any A c b w1 HR1.out (by omega) hc hcc)
 go_wp2_with fail
 refine KO.out.mono ?_
 rintro e w2 ⟨hb2, hres⟩
 have HB2 := hid (HB1.out.trans (hb2.mono HB1.out.size))
 have HBW2 := hid hb2
 have KR := hid (rtopen_any A c b w2 ((HR1.out.below hb2 (Nat.le_refl _)).more hb2.size) (by omega) hc hcc)
 clear hb2
 rcases hres with ⟨rfl, hno⟩ | ⟨R, ti, base, s, t, rfl, hbase, hat, hR, his, hall⟩
 · have HNO := hid hno
   clear hno
   go_wp2_with fail
   refine KR.out.mono ?_
   rintro e w3 ⟨hb3, ⟨rfl, _⟩ | ⟨R2, A2, c2, s2, t2, rfl, _, his, _⟩⟩
   · have HB3 := hid (HB2.out.trans (hb3.mono HB2.out.size))
     clear hb3
     go_wp2_with fail
     go_ret
     exact ⟨rfl, HB3.out⟩
   · exact absurd his (HNO.out _ _ _)
 · have HAT := hid hat
   have HR := hid hR
   have HIS := hid his
   have HALL := hid hall
   have HBS : Hid (w.heap.size ≤ base) := hid (Nat.le_trans HB1.out.size hbase)
   clear hat hR his hall hbase
   go_wp2_with fail
   refine KR.out.mono ?_
   rintro e w3 ⟨hb3, ⟨_, hno⟩ | ⟨L, LA, lc, s2, t2, rfl, hrd, his2, _⟩⟩
   · exact absurd HIS.out (hno _ _ _)
   have hco : L.map Rv.core = R.map Rv.core := HALL.out _ _ _ his2
   have HCO := hid hco
   have HAT3 := hid (HAT.out.call hb3)
   have HB3 := hid (HB2.out.trans (hb3.mono HB2.out.size))
   have HRD := hid hrd
   have hlr : L.length = R.length := by
     have := congrArg List.length hco
     simpa using this
   have HLR := hid hlr
   have hl1 : 1 ≤ L.length := by
     have := his2.unf.l1
     have h2 := congrArg List.length (HALL.out _ _ _ his2)
     simp at h2
     omega
   have hl2 : L.length ≤ 20000 := by have := HR.out.len; omega
   obtain ⟨lb, lo, hLA, hlb, hlc⟩ := hrd.row4 (by omega)
   subst hLA
   have s0 := (hlc 0 (by omega)).2.1
   rw [Nat.zero_mul, Nat.add_zero] at s0
   have HROW : Hid (∀ k (hk : k < L.length), w3.cell? ⟨lb, lo + k * 4 + 1, none⟩ = some (.int .i64 L[k].seq)) := hid (fun k hk => (hlc k hk).2.1)
   have HL0 : Hid (Tb.lowK L 0 = (L[0]'(by omega)).seq ∧ Tb.highK L 0 = (L[0]'(by omega)).seq) := hid ⟨Tb.lowK_zero L (by omega), Tb.highK_zero L (by omega)⟩
   obtain ⟨x0, hx0⟩ : ∃ x0, x0 = (L[0]'(by omega)).seq := ⟨_, rfl⟩
   rw [← hx0] at s0 HL0
   clear hb3 hrd his2 hco hlr hlc hx0
   obtain ⟨N, hN⟩ : ∃ N, N = L.length := ⟨_, rfl⟩
   have HN := hid hN
   rw [← hN] at hl1 hl2 ⊢
   have hlb3 : lb < w3.heap.size := by omega
   clear hN
   go_wp2_with fail
   obtain ⟨X, hX⟩ : ∃ X, w3.alloc (.cells #[.slice (some ⟨lb, lo, none⟩) N lc, .int .i64 0] 33) = X := ⟨_, rfl⟩
   have hbX : Below w3.heap.size w3 X := by rw [← hX]; exact (Below.refl _ _).alloc (Nat.le_refl _) _
   have HBX := hid hbX
   have HLST : Hid (X.heap[w3.heap.size]? = some (.cells #[.slice (some ⟨lb, lo, none⟩) L.length lc, .int .i64 0] 33)) := hid (by rw [← HN.out, ← hX]; exact heap_alloc_new w3 _)
   have HROWX : Hid (∀ k (hk : k < L.length), X.cell? ⟨lb, lo + k * 4 + 1, none⟩ = some (.int .i64 L[k].seq)) := hid (fun k hk => (HBX.out.cell (p := ⟨lb, _, none⟩) hlb3).trans (HROW.out k hk))
   rw [hX]
   clear hX hbX s0
   go_loop [11, 12, 13] (fun lo1 hi1 i => ∃ (k : Nat) (x y : Int), k ≤ N ∧ i = .int .i64 (k : Int) ∧ lo1 = .int .i64 x ∧ hi1 = .int .i64 y ∧ Hid (x = Tb.lowK L k ∧ y = Tb.highK L k)) (fun _ _ i => N - (intOf i).toNat)
   case atStart => exact ⟨0, x0, x0, by omega, rfl, rfl, rfl, hid ⟨HL0.out.1.symm, HL0.out.2.symm⟩⟩
   case round =>
     obtain ⟨k, x, y, hk, rfl, rfl, rfl, HXY⟩ := hrel
     by_cases hlt : k < N
     · have hkl : k < L.length := by have := HN.out; omega
       have q0 := HROWX.out k hkl
       have HS : Hid (min x (L[k]).seq = Tb.lowK L (k + 1) ∧ max y (L[k]).seq = Tb.highK L (k + 1)) := hid ⟨by rw [Tb.lowK_succ L k hkl, HXY.out.1], by rw [Tb.highK_succ L k hkl, HXY.out.2]⟩
       obtain ⟨z, hz⟩ : ∃ z, z = (L[k]).seq := ⟨_, rfl⟩
       rw [← hz] at q0 HS
       clear hz
       go_wp2_with fail
       go_round
       case rel => exact ⟨k + 1, min x z, max y z, hlt, by simp, rfl, rfl, HS⟩
       case measure => simp [intOf]; omega
     · have hke : k = N := by omega
       have hlow := low_core HCO.out
       have HXL : Hid (x = ti.low ∧ y = ti.high) := hid (by
         have h1 := HXY.out
         rw [hke, HN.out, Tb.lowK_all, Tb.highK_all] at h1
         rw [HR.out.low, HR.out.high, h1.1, h1.2]
         exact hlow)
       have HATX := hid (HAT3.out.call HBX.out)
       have KE := hid (tends_any base (fun _ => False) ti R t.toNat HR.out X HATX.out (by have := HR.out.fewp; omega))
       have HRDX := hid ((HRD.out.below HBX.out (Nat.le_refl _)).more HBX.out.size)
       clear hlow
       go_wp2_with fail
       refine KE.out.mono ?_
       rintro e w5 ⟨ht5, hq5, kA, zA, kc, zc, k0, kz, rfl, hok, hoz, hhead, hlast⟩
       have HT5 := hid ht5
       have HQ5 := hid hq5
       have HRD5 := hid (hq5.rdRv HATX.out HRDX.out)
       have HLST5 := hid ((hq5.tagd _ _ _ _ HLST.out (by decide) (by decide)).trans HLST.out)
       have KQ := hid (tseqs_any base (fun _ => False) ti w5 ht5)
       have HOK := hid hok
       have HOZ := hid hoz
       have HHD := hid hhead
       have HLS := hid hlast
       clear ht5 hq5 hok hoz hhead hlast
       go_wp2_with fail
       refine KQ.out.mono ?_
       rintro e w6 ⟨rfl, hb6⟩
       have HT6 := hid (HT5.out.call hb6)
       have HQ6 := hid (HQ5.out.trans (Qry.of (t := ti) hb6 HT5.out.size))
       have HRD6 := hid ((HRD5.out.below hb6 (Nat.le_refl _)).more hb6.size)
       have HLST6 := hid ((hb6.block _ (Array.getElem?_eq_some_iff.1 HLST5.out).1).trans HLST5.out)
       have HOK6 := hid (HOK.out.below hb6)
       have HOZ6 := hid (HOZ.out.below hb6)
       clear hb6
       -- the first and the last record
       obtain ⟨n, hNn⟩ : ∃ n, N = n + 1 := ⟨N - 1, by omega⟩
       have h0L : 0 < L.length := by have := HN.out; omega
       have hnL : n < L.length := by have := HN.out; omega
       obtain ⟨lb', lo', hlA, hlb6, hlc6⟩ := HRD6.out.row4 h0L
       cases hlA
       have hc := head_core HCO.out
       have e0 : (L[0]).k = k0 := by
         have h1 := hc.1
         rw [HHD.out, List.head?_eq_getElem?, List.getElem?_eq_getElem h0L] at h1
         simpa using h1
       have ez : (L[n]).k = kz := by
         have h1 := hc.2
         have h2 : L.length - 1 = n := by have := HN.out; omega
         rw [HLS.out, List.getLast?_eq_getElem?, h2, List.getElem?_eq_getElem hnL] at h1
         simpa using h1
       have p0 := (hlc6 0 h0L).1
       have pz := (hlc6 n hnL).1
       have hk0 := (HRD6.out.ok _ (List.getElem_mem h0L)).key
       have hkz := (HRD6.out.ok _ (List.getElem_mem hnL)).key
       rw [e0] at p0 hk0
       rw [ez] at pz hkz
       rw [Nat.zero_mul, Nat.add_zero] at p0
       obtain ⟨fA, hfA⟩ : ∃ fA, fA = (L[0]).kA := ⟨_, rfl⟩
       obtain ⟨fc, hfc⟩ : ∃ fc, fc = (L[0]).kc := ⟨_, rfl⟩
       obtain ⟨gA, hgA⟩ : ∃ gA, gA = (L[n]).kA := ⟨_, rfl⟩
       obtain ⟨gc, hgc⟩ : ∃ gc, gc = (L[n]).kc := ⟨_, rfl⟩
       rw [← hfA, ← hfc] at p0
       rw [← hfA] at hk0
       rw [← hgA, ← hgc] at pz
       rw [← hgA] at hkz
       obtain ⟨SA, hSA⟩ : ∃ SA : ByteArray, SA = ⟨k0.toArray⟩ := ⟨_, rfl⟩
       obtain ⟨SZ, hSZ⟩ : ∃ SZ : ByteArray, SZ = ⟨kz.toArray⟩ := ⟨_, rfl⟩
       have HSTR : Hid (∀ Y, Below w6.heap.size w6 Y → (StrB Y kA k0.length kc k0 ∧ StrB Y fA k0.length fc k0) ∧ StrB Y zA kz.length zc kz ∧ StrB Y gA kz.length gc kz) := hid (fun Y hy => ⟨⟨strB_of ((HOK6.out.rd).below hy (Nat.le_refl _)), strB_of (hk0.below hy (Nat.le_refl _))⟩, strB_of ((HOZ6.out.rd).below hy (Nat.le_refl _)), strB_of (hkz.below hy (Nat.le_refl _))⟩)
       unfold StrB at HSTR
       rw [← hSA, ← hSZ] at HSTR
       have q1 := fun a => (HSTR.out (w6.drewN a) (below_drN (Below.refl _ _))).1.1
       have q2 := fun a => (HSTR.out (w6.drewN a) (below_drN (Below.refl _ _))).1.2
       have q3 := fun a => (HSTR.out (w6.drewN a) (below_drN (Below.refl _ _))).2.1
       have q4 := fun a => (HSTR.out (w6.drewN a) (below_drN (Below.refl _ _))).2.2
       have KL : Hid (∀ a, Calls Tryz.prog 10 #[.pointer (some ⟨ti.gt, 0, none⟩)] (w6.drewN a) fun e w' => e = .returned (.int .i64 (N : Int)) ∧ w' = w6.drewN a) := hid (fun a => by
         have h1 := tlen_any base (fun _ => False) ti (w6.drewN a) (HT6.out.call (below_drN (Below.refl _ _)))
         rw [HR.out.many, ← HLR.out, ← HN.out] at h1
         exact h1.mono fun e w' h => ⟨h.1, h.2.symm⟩)
       have ixn : IntKind.i64.wrap ((N : Int) - 1) = (n : Int) := by rw [IntKind.wrap_i64]; omega
       have hn0 : (0 : Int) ≤ (n : Int) := by omega
       have hnN : (n : Int) < (N : Int) := by omega
       have h0N : 0 < N := by omega
       have hlb66 : lb < w6.heap.size := hlb6
       have HXL2 := HXL.out
       obtain ⟨rfl, rfl⟩ := HXL2
       have HNn := hid hNn
       have HKE := hid hke
       clear hlc6 hc e0 ez hk0 hkz hfA hfc hgA hgc hSA hSZ hNn hke
       go_wp2_with fail
       go_quiet ((go_at_call 10; exact Calls.quiet_of_same (KL.out _)))
       refine drewN_any ?_
       intro Y hbY hY
       have HT7 := hid (HT6.out.call hbY)
       have b1 : Below w.heap.size w X := HB3.out.trans (HBX.out.mono HB3.out.size)
       have b2 : Below w.heap.size w w6 := b1.trans (HQ6.out.below.mono HBS.out)
       have HBY := hid (b2.trans (hbY.mono b2.size))
       have HRD7 := hid ((HRD6.out.below hbY (Nat.le_refl _)).more hbY.size)
       have HLST7 := hid ((hbY.block _ (Array.getElem?_eq_some_iff.1 HLST6.out).1).trans HLST6.out)
       have KT := hid (told_any base ti R t.toNat HR.out w3.heap.size (some ⟨lb, lo, none⟩) lc L (.int .i64 0) HCO.out B d asks Y ⟨HT7.out, Qry.refl _ _ _, HLST7.out, HRD7.out⟩ ((HQ.out.below HBY.out (Nat.le_refl _)).more HBS.out))
       clear hbY hY q1 q2 q3 q4 p0 pz b1 b2
       go_wp2_with fail
       refine KT.out.mono ?_
       rintro e w8 ⟨rfl, hq8⟩
       have HB8 := hid (HBY.out.trans (hq8.below.mono HBS.out))
       clear hq8
       go_wp2_with fail
       go_ret
       exact ⟨rfl, HB8.out⟩
end Go.Proofs.YtgafionfojnieaaGreatDoor

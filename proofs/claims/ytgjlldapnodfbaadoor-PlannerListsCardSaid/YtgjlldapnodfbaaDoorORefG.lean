/-
  The reference's cheapest where the length is not known yet.
-/
import Derived.Test.YtgjlldapnodfbaaDoorORefF
namespace Go.Proofs.YtgjlldapnodfbaaDoor
open Go Go.RowKit Go.Fl Go.Ord Go.Pr

/-- The reference's cost of a leaf. -/
theorem rcost_leaf {p : Pol} (hp : p.Good) {a k : Int} (ha : 1 ≤ a) (ha2 : a ≤ 16384) (hk : k ∈ p.heads a) (w : World) :
    Calls Tryd.prog 36 #[.agg #[.int .i64 k, .int .i64 a, .slice none 0 0]] w fun e w' => ∃ z : Int, e = .returned (.tuple #[.int .i64 (sat (leaf k a).C), .int .i64 z]) ∧ Kp w w' := by
  refine (rcost_any (leaf k a) _ w (leaf_ox (fun _ => True) w k a (by omega) (by omega)).oin (by rw [leaf_len hp ha hk]; omega)).mono ?_
  rintro e w' ⟨rfl, h⟩
  exact ⟨_, rfl, h⟩
theorem info_int2 : (Tryd.prog.info? 3).map (fun i => (i.zero, i.size, i.bytes)) = some (some (.int .i64 0), 1, 8) := by kernel_rfl
set_option maxRecDepth 100000 in
set_option maxHeartbeats 8000000 in
theorem rcheap_miss (p : Pol) (hp : p.Good) (vf : Value) (n : Nat) (hn1 : 1 ≤ n) (hn2 : n ≤ 16384) (hrec : ∀ m, 1 ≤ m → m ≤ 16384 → rank m < rank n → RSpec p vf m)
    (Q S : Nat → Prop) (bk : Nat) (w : World) (l : List Nat) (hQ : ∀ g, w.heap.size ≤ g → Q g) (hfl : FlS S w vf p.fl) (hK : KI p Q S bk w l) (hn : n ∉ l) :
    Calls Tryd.prog 32 #[.pointer (some ⟨bk, 0, none⟩), .int .i64 n, .agg #[.int .i64 p.D, vf, .int .i64 p.P]] w fun e w' => ∃ k n0 o m c cost S' ext, e = .returned (.tuple #[.agg #[.int .i64 k, .int .i64 n0, .slice o m c], .int .i64 cost]) ∧
      BVal (fun g => Q g ∧ ¬ S' g) w' (best p n) k n0 (.slice o m c) cost ∧ KI p Q S' bk w' (l ++ ext) ∧ KX S w S' w' ∧ ∀ i ∈ ext, rank i ≤ rank n := by
  have HK := Lib.hid hK
  have HFl := Lib.hid hfl
  have HQ := Lib.hid hQ
  have HRec := Lib.hid hrec
  obtain ⟨vN, vO, vC, es, cs, hM, hE⟩ := hK
  obtain ⟨oN, cN, oO, cO, oC, cC, rfl, rfl, rfl⟩ := hM.open
  have HM := Lib.hid hM
  have HN := Lib.hid hn
  have hlen := hE.len
  have hrow := hM.row
  have hlt := hM.lt bk hM.sk
  have hSlt := Lib.hid hM.lt
  clear hM hE hn hQ hrec
  obtain ⟨L, hL⟩ : ∃ L, l.length = L := ⟨_, rfl⟩
  have HL := Lib.hid hL
  rw [hL] at HM hlen hrow
  obtain ⟨of, cf, rfl, _⟩ := hfl
  obtain ⟨mf, hmf⟩ : ∃ mf, p.fl.length = mf := ⟨_, rfl⟩
  rw [hmf] at HFl HRec ⊢
  have hmf4 : mf ≤ 4 := by rw [← hmf]; exact hp.fn
  clear hL
  have hk := ((Kp.refl w).alloc (.cells #[.int .i64 p.D, .slice of mf cf, .int .i64 p.P] 24)).alloc (.cells #[.int .i64 0, .int .i64 0, .slice none 0 0] 28)
  have h5 := heap_alloc2_old w (.cells #[.int .i64 p.D, .slice of mf cf, .int .i64 p.P] 24) (.cells #[.int .i64 0, .int .i64 0, .slice none 0 0] 28)
  have h6 := heap_alloc2_new w (.cells #[.int .i64 p.D, .slice of mf cf, .int .i64 p.P] 24) (.cells #[.int .i64 0, .int .i64 0, .slice none 0 0] 28)
  have hsz : ((w.alloc (.cells #[.int .i64 p.D, .slice of mf cf, .int .i64 p.P] 24)).alloc (.cells #[.int .i64 0, .int .i64 0, .slice none 0 0] 28)).heap.size = w.heap.size + 1 + 1 := by simp
  go_enter Tryd.func32, Tryd.ntmps32
  go_upto_region 1 with fail
  generalize (w.alloc (.cells #[.int .i64 p.D, .slice of mf cf, .int .i64 p.P] 24)).alloc (.cells #[.int .i64 0, .int .i64 0, .slice none 0 0] 28) = W at *
  obtain ⟨⟨r0, r1, r2⟩, _⟩ := row3_facts ((hk.block bk hlt).trans hrow)
  have HW := Lib.hid hk
  have H5 := Lib.hid h5
  have H6 := Lib.hid h6
  clear hk h5 h6 hrow
  go_upto_block 0 with fail
  go_cut [8] (fun _ wx => W = wx)
  case first =>
    go_wp2_with fail
    go_loopw [8] (fun y wr => ∃ i : Nat, i ≤ L ∧ y = .int .i64 i ∧ wr = W) (fun y _ => L - (intOf y).toNat)
    case atStart => exact ⟨0, by omega, rfl, rfl⟩
    case round =>
      obtain ⟨i, hi, rfl, rfl⟩ := hrel
      by_cases hlt' : i < L
      · have hil : i < l.length := by rw [HL.out]; exact hlt'
        obtain ⟨g1, c1, e1⟩ := owns_form HM.out.rN (show 0 < L by omega)
        cases e1
        have q := (HW.out).later ((HM.out.rN.cellAt i (by omega)).trans (show (keyCells l)[i]? = some (.int .i64 ((l[i] : Nat) : Int)) by unfold keyCells; rw [List.getElem?_map, List.getElem?_eq_getElem hil]; rfl))
        have hxn : l[i] ≠ n := fun e => HN.out (e ▸ List.getElem_mem hil)
        obtain ⟨x, hx⟩ : ∃ x, l[i] = x := ⟨_, rfl⟩
        rw [hx] at q hxn
        have d : ((x : Int) == (n : Int)) = false := by simp; omega
        clear hx hxn
        go_wp2_with fail
        go_roundw
        case rel => exact ⟨i + 1, by omega, by go_num, by first | rfl | trivial⟩
        case measure => simp [intOf]; omega
      · obtain rfl : L = i := by omega
        go_wp2_with fail
        go_meet
        exact rfl
  case rest =>
      subst hcut
      go_upto_region 7 with fail
      have h9 := heap_alloc_new W (.cells #[.int .i64 0, .int .i64 0, .slice none 0 0] 28)
      have k9 := (Kp.refl W).alloc (.cells #[.int .i64 0, .int .i64 0, .slice none 0 0] 28)
      rw [hsz] at h9
      have h5 := (k9.block _ (Array.getElem?_eq_some_iff.1 H5.out).1).trans H5.out
      have h6 := (k9.block _ (Array.getElem?_eq_some_iff.1 H6.out).1).trans H6.out
      have hkw := Kp.trans HW.out k9
      clear r0 r1 r2 H5 H6 k9 HM HL hlen hsz HW
      generalize W.alloc (.cells #[.int .i64 0, .int .i64 0, .slice none 0 0] 28) = W1 at *
      obtain ⟨b9, hb9⟩ : ∃ b9, w.heap.size + 1 + 1 = b9 := ⟨_, rfl⟩
      obtain ⟨b6, hb6⟩ : ∃ b6, w.heap.size + 1 = b6 := ⟨_, rfl⟩
      obtain ⟨b5, hb5⟩ : ∃ b5, w.heap.size = b5 := ⟨_, rfl⟩
      have HNm : Hid (w.heap.size = b5 ∧ b6 = b5 + 1 ∧ b9 = b5 + 2 ∧ b9 < W1.heap.size) := Lib.hid ⟨hb5, by omega, by omega, by rw [← hb9]; exact (Array.getElem?_eq_some_iff.1 h9).1⟩
      simp only [hb9] at h9 ⊢
      simp only [hb6] at h6 ⊢
      simp only [hb5] at h5 ⊢
      have HRF : Hid (RF p (.slice of mf cf) b5 b6 b9 S W1) := Lib.hid ⟨h5, h6, HFl.out.add hkw (by omega), fun e => by
        rcases e with e | e
        · have := hSlt.out _ e; omega
        · omega, fun e => by
        rcases e with e | e
        · have := hSlt.out _ e; omega
        · omega⟩
      obtain ⟨QB, hQB⟩ : ∃ QB : Nat → Prop, QB = fun g => Q g ∧ g ≠ b6 := ⟨_, rfl⟩
      have HQB : Hid ((∀ g, W1.heap.size ≤ g → QB g) ∧ (∀ g, QB g → Q g) ∧ ∀ g, QB g → g ≠ b6) := Lib.hid (by rw [hQB]; exact ⟨fun g hg => ⟨HQ.out g (by have := hkw.size; omega), by have := HNm.out; omega⟩, fun g h => h.1, fun g h => h.2⟩)
      have HRS : Hid (RS p QB bk b9 n W1 S l S none (-1) W1) := Lib.hid (RS.start (HK.out.mono (Q' := QB) fun g hg hq => by rw [hQB]; exact ⟨hq, by omega⟩) hkw (by omega) h9)
      have HKW := Lib.hid hkw
      have hbl : b9 < W1.heap.size := HNm.out.2.2.2
      clear h5 h6 h9 hkw hQB hb9 hb6 hb5
      obtain ⟨ks, hks⟩ : ∃ ks, p.heads n = ks := ⟨_, rfl⟩
      have HKS := Lib.hid hks
      obtain ⟨m, hm⟩ : ∃ m, ks.length = m := ⟨_, rfl⟩
      have HM := Lib.hid hm
      have hm4 : m ≤ 2 := by rw [← hm, ← hks]; unfold Pol.heads; split <;> split <;> simp
      have HH : Hid (∀ w', Kp W1 w' → Calls Tryd.prog 52 #[.int .i64 n, .agg #[.int .i64 p.D, .slice of mf cf, .int .i64 p.P]] w' fun e w'' => ∃ o c, e = .returned (.slice o m c) ∧ Hid (HL w'' w'.heap.size (.slice o m c) n ks) ∧ Kp w' w'') := Lib.hid fun w' k => by
        refine (rleaves_any p (.slice of mf cf) n w' (by have := hp.fn; omega) ((HRF.out.kx (.of k)).fl.fl)).mono ?_
        rintro e w'' ⟨v, rfl, h1, h2⟩
        obtain ⟨o, c, rfl⟩ := HL.form h1
        rw [hks] at h1 ⊢
        rw [hm] at h1 ⊢
        exact ⟨o, c, rfl, Lib.hid h1, h2⟩
      clear hks hm
      obtain ⟨c0, c1, c2⟩ := HRF.out.cells
      go_upto_region 8 with (go_at_call 52; (with_reducible refine (HH.out _ (Kp.refl _)).mono ?_); rintro e w1 ⟨o, c, rfl, HV, hk1⟩)
      clear c0 c1 c2 HH
      go_upto_block 2 with fail
      go_cut [10, 12, 13, 14] (fun x _ _ _ wx => ∃ least : Int, x = .int .i64 least ∧ Hid (RS p QB bk b9 n W1 S l S (belowA p n 2) least wx) ∧ Hid (w1.heap.size ≤ wx.heap.size))
      case first =>
        go_wp2_with fail
        go_loopw [10, 12, 13, 14] (fun x y _ _ wr => ∃ (i : Nat) (least : Int), i ≤ m ∧ y = .int .i64 i ∧ x = .int .i64 least ∧ Hid (RS p QB bk b9 n W1 S l S ((ks.take i).foldl (fun b k => offer b (leaf k n) (sat (leaf k n).C)) none) least wr) ∧ Hid (Kb b9 w1 wr)) (fun _ y _ _ _ => m - (intOf y).toNat)
        case atStart => exact ⟨0, -1, by omega, rfl, rfl, Lib.hid (HRS.out.kp hk1), Lib.hid (Kb.refl _ _)⟩
        case round =>
          obtain ⟨i, least, hi, rfl, rfl, HS, HKb⟩ := hrel
          by_cases hlt : i < m
          · have hm0 : 0 < ks.length := by rw [HM.out]; omega
            obtain ⟨g, rfl⟩ := hl_some HV.out hm0
            have hik : i < ks.length := by rw [HM.out]; exact hlt
            obtain ⟨x1, x2, x3⟩ := hl_away (bm := b9) HV.out HM.out (.of2 HKb.out) hbl hbl i hik
            obtain ⟨k, hkk⟩ : ∃ k, ks[i] = k := ⟨_, rfl⟩
            rw [hkk] at x1
            have HKk := Lib.hid (hkk ▸ List.getElem_mem hik)
            have HKi := Lib.hid hkk
            have hxr := sat_leaf hp (a := (n : Int)) (by omega) (by rw [HKS.out]; exact HKk.out)
            have HCost : Hid (∀ w', Calls Tryd.prog 36 #[.agg #[.int .i64 k, .int .i64 n, .slice none 0 0]] w' fun e w'' => ∃ z : Int, e = .returned (.tuple #[.int .i64 (sat (leaf k n).C), .int .i64 z]) ∧ Kp w' w'') := Lib.hid fun w' => rcost_leaf hp (by omega) (by omega) (by rw [HKS.out]; exact HKk.out) w'
            have HF : Hid ((ks.take (i + 1)).foldl (fun b k => offer b (leaf k n) (sat (leaf k n).C)) none = offer ((ks.take i).foldl (fun b k => offer b (leaf k n) (sat (leaf k n).C)) none) (leaf k n) (sat (leaf k n).C)) := Lib.hid (by rw [foldl_snoc _ _ _ _ hik, HKi.out])
            obtain ⟨b2, hb2⟩ : ∃ b2, (ks.take (i + 1)).foldl (fun b k => offer b (leaf k n) (sat (leaf k n).C)) none = b2 := ⟨_, rfl⟩
            have HB2 := Lib.hid hb2
            rw [hb2] at HF
            clear hb2
            generalize (ks.take i).foldl (fun b k => offer b (leaf k n) (sat (leaf k n).C)) none = b1 at *
            obtain ⟨xc, hxc⟩ : ∃ xc, sat (leaf k n).C = xc := ⟨_, rfl⟩
            rw [hxc] at hxr HCost HF
            clear hkk hm0 hxc
            have hls := HS.out.lst.2.2
            go_upto_region 12 with (go_at_call 36; (with_reducible refine (HCost.out _).mono ?_); rintro e w4 ⟨z, rfl, hk4⟩)
            have HS4 := Lib.hid (HS.out.kp hk4)
            have HKb4 := Lib.hid (HKb.out.trans (Kb.of hk4))
            have y1 := hk4.later x1
            have y2 := hk4.later x2
            have y3 := hk4.later x3
            obtain ⟨_, _, _, _, _, hb9c, _⟩ := HS4.out.bb
            obtain ⟨⟨s0, s1, s2⟩, f0, f1, f2⟩ := row3_facts hb9c
            clear HS HKb hk4 x1 x2 x3 hb9c
            have key : (decide (least < 0) = true ∧ (least < 0 ∨ xc < least)) ∨ (decide (least < 0) = false ∧ decide (xc < least) = true ∧ (least < 0 ∨ xc < least)) ∨ (decide (least < 0) = false ∧ decide (xc < least) = false ∧ ¬ least < 0 ∧ ¬ xc < least) := by simp; omega
            rcases key with ⟨d1, hc⟩ | ⟨d1, d2, hc⟩ | ⟨d1, d2, hc1, hc2⟩
            · have HT := Lib.hid (HS4.out.take (T := leaf k n) hxr.1 hxr.2 hc (leaf_ox _ _ _ _ (by omega) (by omega)))
              rw [← HF.out] at HT
              clear hc HS4
              go_wp2_with fail
              go_roundw
              case rel => exact ⟨i + 1, xc, by omega, by go_num, rfl, by rw [HB2.out]; exact HT, Lib.hid (HKb4.out.trans (kb_set3 _ _ _ _ _))⟩
              case measure => simp [intOf]; omega
            · have HT := Lib.hid (HS4.out.take (T := leaf k n) hxr.1 hxr.2 hc (leaf_ox _ _ _ _ (by omega) (by omega)))
              rw [← HF.out] at HT
              clear hc HS4
              go_wp2_with fail
              go_roundw
              case rel => exact ⟨i + 1, xc, by omega, by go_num, rfl, by rw [HB2.out]; exact HT, Lib.hid (HKb4.out.trans (kb_set3 _ _ _ _ _))⟩
              case measure => simp [intOf]; omega
            · have HT := Lib.hid (HS4.out.keep (T := leaf k n) hc1 hc2)
              rw [← HF.out] at HT
              clear hc1 hc2 HS4
              go_wp2_with fail
              go_roundw
              case rel => exact ⟨i + 1, least, by omega, by go_num, rfl, by rw [HB2.out]; exact HT, HKb4⟩
              case measure => simp [intOf]; omega
          · obtain rfl : m = i := by omega
            have HS1 : Hid (RS p QB bk b9 n W1 S l S (belowA p n 2) least wr) := Lib.hid (by
              rw [belowA_two]
              unfold headStep
              have h := HS.out
              rw [← HM.out, List.take_length, ← HKS.out] at h
              exact h)
            have HW1 := Lib.hid HKb.out.size
            clear HS HKb HV HM HKS hk1 HRS
            go_wp2_with fail
            go_meet
            exact ⟨least, rfl, HS1, HW1⟩
      case rest =>
          obtain ⟨least, rfl, HS1, HW1⟩ := hcut
          clear HV HM HKS hk1 HRS
          go_upto_block 4 with fail
          go_cut [10] (fun x wx => ∃ (lst : Int) (S1 : Nat → Prop), x = .int .i64 lst ∧ Hid (RS p QB bk b9 n W1 S l S1 (belowA p n (max n 2)) lst wx))
          case first =>
            go_wp2_with fail
            go_loopw [10, 15, 16, 17, 18, 19, 20, 21, 22] (fun x y _ _ _ _ _ _ _ wr => ∃ (a : Nat) (lst : Int) (S1 : Nat → Prop), 2 ≤ a ∧ (a ≤ n ∨ a = 2) ∧ y = .int .i64 a ∧ x = .int .i64 lst ∧ Hid (RS p QB bk b9 n W1 S l S1 (belowA p n a) lst wr)) (fun _ y _ _ _ _ _ _ _ _ => n - (intOf y).toNat)
            case atStart => exact ⟨2, least, S, by omega, by omega, rfl, rfl, HS1⟩
            case round =>
              obtain ⟨a, lst, S1, ha2, han, rfl, rfl, HS⟩ := hrel
              by_cases hlt : a < n
              · as_aux_lemma => -- ROUND3 BEGIN
                  by_cases hdv : n % a = 0
                  case neg =>
                    have d : ((n : Int) % (a : Int) != 0) = true := by simp; omega
                    have HS3 : Hid (RS p QB bk b9 n W1 S l S1 (belowA p n (a + 1)) lst wr) := Lib.hid (by rw [belowA_step p n a (by omega), if_neg hdv]; exact HS.out)
                    clear hdv HS
                    go_wp2_with fail
                    go_roundw
                    case rel => exact ⟨a + 1, lst, S1, by omega, by omega, by go_num, rfl, HS3⟩
                    case measure => simp [intOf]; omega
                  case pos =>
                    have d : ((n : Int) % (a : Int) != 0) = false := by simp; omega
                    have hdd : a ∣ n := Nat.dvd_of_mod_eq_zero hdv
                    obtain ⟨q, hq⟩ : ∃ q, n / a = q := ⟨_, rfl⟩
                    have hq1 : 1 ≤ q := by rw [← hq]; exact Nat.div_pos (Nat.le_of_dvd hn1 hdd) (by omega)
                    have hq2 : q ≤ n := by rw [← hq]; exact Nat.div_le_self _ _
                    have hrq : rank q < rank n := by rw [← hq]; exact rank_div hn1 ha2 hdd
                    have ediv : IntKind.i64.wrap ((n : Int) / (a : Int)) = (q : Int) := by rw [← Int.natCast_ediv, hq]; exact IntWalk.i64_in _ (by omega)
                    have ene : ¬ (a : Int) = 0 := by omega
                    have ene2 : ¬ a = 0 := by omega
                    have HB : Hid (belowA p n (a + 1) = match best p q with
                        | none => belowA p n a
                        | some (T, y) => (p.heads a).foldl (fun b k => offer b ((leaf k a).times T) (sat (tcost a (q : Nat) (sat (leaf k a).C) y (k == 2)))) (belowA p n a)) := Lib.hid (by
                      rw [belowA_step p n a (by omega), if_pos hdv]
                      unfold divStep
                      rw [if_neg (by omega), hq]
                      cases best p q <;> rfl)
                    have HB0 : Hid (p.heads a = [] → belowA p n (a + 1) = belowA p n a) := Lib.hid fun h => by rw [belowA_step p n a (by omega), if_pos hdv, divStep_nil h]
                    have HRq := Lib.hid hrq
                    obtain ⟨bn, hbn⟩ : ∃ bn, belowA p n (a + 1) = bn := ⟨_, rfl⟩
                    rw [hbn] at HB HB0
                    have HBN := Lib.hid hbn
                    generalize belowA p n a = b0 at *
                    clear hbn hq hdd hdv hrq
                    obtain ⟨ks, hks⟩ : ∃ ks, p.heads a = ks := ⟨_, rfl⟩
                    have HKS := Lib.hid hks
                    obtain ⟨m2, hm⟩ : ∃ m, ks.length = m := ⟨_, rfl⟩
                    have HM := Lib.hid hm
                    have hm4 : m2 ≤ 2 := by rw [← hm, ← hks]; unfold Pol.heads; split <;> split <;> simp
                    have HFw := Lib.hid (HRF.out.kx HS.out.kx)
                    have HH : Hid (Calls Tryd.prog 52 #[.int .i64 a, .agg #[.int .i64 p.D, .slice of mf cf, .int .i64 p.P]] wr fun e w'' => ∃ o c, e = .returned (.slice o m2 c) ∧ Hid (HL w'' wr.heap.size (.slice o m2 c) a ks) ∧ Kp wr w'') := Lib.hid (by
                      refine (rleaves_any p (.slice of mf cf) a wr (by have := hp.fn; omega) HFw.out.fl.fl).mono ?_
                      rintro e w'' ⟨v, rfl, h1, h2⟩
                      obtain ⟨o, c, rfl⟩ := HL.form h1
                      rw [hks] at h1 ⊢
                      rw [hm] at h1 ⊢
                      exact ⟨o, c, rfl, Lib.hid h1, h2⟩)
                    rw [hks] at HB HB0
                    clear hks hm
                    obtain ⟨c0, c1, c2⟩ := HFw.out.cells
                    go_upto_region 19 with (go_at_call 52; (with_reducible refine HH.out.mono ?_); rintro e w2 ⟨o2, cp2, rfl, HV, hk2⟩)
                    clear c0 c1 c2 HH
                    have HS2 := Lib.hid (HS.out.kp hk2)
                    have HF2 := Lib.hid (HFw.out.kx (.of hk2))
                    have HSr := Lib.hid HS.out.slt
                    have hW12 : W1.heap.size ≤ wr.heap.size := HS.out.kx.size
                    have hWr2 : wr.heap.size ≤ w2.heap.size := hk2.size
                    clear HS HFw hk2
                    by_cases hm0 : m2 = 0
                    · have e0 : ((m2 : Int) == 0) = true := by simp; omega
                      have HS3 : Hid (RS p QB bk b9 n W1 S l S1 bn lst w2) := Lib.hid (by rw [HB0.out (List.eq_nil_of_length_eq_zero (by rw [HM.out]; exact hm0))]; exact HS2.out)
                      clear hm0 HS2 HB0 HB
                      go_wp2_with fail
                      go_roundw
                      case rel => exact ⟨a + 1, lst, S1, by omega, by omega, by go_num, rfl, by rw [HBN.out]; exact HS3⟩
                      case measure => simp [intOf]; omega
                    · have e0 : ((m2 : Int) == 0) = false := by simp; omega
                      have hks0 : 0 < ks.length := by rw [HM.out]; omega
                      obtain ⟨g2, rfl⟩ := hl_some HV.out hks0
                      clear hks0 HB0
                      go_upto_region 20 with fail
                      obtain ⟨c0, c1, c2⟩ := HF2.out.cells
                      have hb5l : b5 < w2.heap.size := (Array.getElem?_eq_some_iff.1 HF2.out.h5).1
                      have HPc : Hid (∀ S' w', KX S1 w2 S' w' → w'.cell? ⟨b5, 0, none⟩ = some (.int .i64 p.D) ∧ w'.cell? ⟨b5, 1, none⟩ = some (.slice of mf cf) ∧ w'.cell? ⟨b5, 2, none⟩ = some (.int .i64 p.P)) := Lib.hid fun S' w' h => (HF2.out.kx (h.or b9)).cells
                      have kA : Kp w2 w2.drew := (Kp.refl w2).drew
                      have kB : Kp w2 (w2.alloc (.cells #[.int .i64 0, .int .i64 0, .slice none 0 0] 28)).drew := ((Kp.refl w2).alloc _).drew
                      have HRcA : Hid (Calls Tryd.prog 32 #[.pointer (some ⟨bk, 0, none⟩), .int .i64 q, .agg #[.int .i64 p.D, .slice of mf cf, .int .i64 p.P]] w2.drew fun e w'' => ∃ k0 n0 o mm c cost S2, e = .returned (.tuple #[.agg #[.int .i64 k0, .int .i64 n0, .slice o mm c], .int .i64 cost]) ∧
                          Hid (BVal (fun g => (QB g ∧ g ≠ b9) ∧ ¬ S2 g) w'' (best p q) k0 n0 (.slice o mm c) cost ∧ RS p QB bk b9 n W1 S l S2 b0 lst w'' ∧ 0 ≤ 0) ∧ KX S1 w2 S2 w'') := Lib.hid (by
                        refine ((HS2.out.kp kA).call (HRec.out q hq1 (by omega) HRq.out) HRq.out (fun g hg => HQB.out.1 g (by have := kA.size; omega)) (HF2.out.kx (.of kA))).mono ?_
                        rintro e w'' ⟨k0, n0, o, mm, c, cost, S2, rfl, h1, h2, h3⟩
                        exact ⟨k0, n0, o, mm, c, cost, S2, rfl, Lib.hid ⟨h1, h2, by decide⟩, (KX.of kA).trans h3⟩)
                      have HRcB : Hid (Calls Tryd.prog 32 #[.pointer (some ⟨bk, 0, none⟩), .int .i64 q, .agg #[.int .i64 p.D, .slice of mf cf, .int .i64 p.P]] (w2.alloc (.cells #[.int .i64 0, .int .i64 0, .slice none 0 0] 28)).drew fun e w'' => ∃ k0 n0 o mm c cost S2, e = .returned (.tuple #[.agg #[.int .i64 k0, .int .i64 n0, .slice o mm c], .int .i64 cost]) ∧
                          Hid (BVal (fun g => ((QB g ∧ g ≠ w2.heap.size) ∧ g ≠ b9) ∧ ¬ S2 g) w'' (best p q) k0 n0 (.slice o mm c) cost ∧ RS p (fun g => QB g ∧ g ≠ w2.heap.size) bk b9 n W1 S l S2 b0 lst w'' ∧ ¬ S2 w2.heap.size) ∧ KX S1 w2 S2 w'' ∧ w''.heap[w2.heap.size]? = some (.cells #[.int .i64 0, .int .i64 0, .slice none 0 0] 28 (0, 0))) := Lib.hid (by
                        have hlt2 : w2.heap.size < (w2.alloc (.cells #[.int .i64 0, .int .i64 0, .slice none 0 0] 28)).drew.heap.size := by simp
                        refine (((HS2.out.mono (Q' := fun g => QB g ∧ g ≠ w2.heap.size) fun g hg hq => ⟨hq, by omega⟩).kp kB).call (HRec.out q hq1 (by omega) HRq.out) HRq.out (fun g hg => ⟨HQB.out.1 g (by have := kB.size; omega), by omega⟩) (HF2.out.kx (.of kB))).mono ?_
                        rintro e w'' ⟨k0, n0, o, mm, c, cost, S2, rfl, h1, h2, h3⟩
                        have hn : ¬ S1 w2.heap.size := fun h => by
                          obtain ⟨ext, ⟨_, _, _, _, _, hM, _⟩, _⟩ := HS2.out.ki
                          have := hM.lt _ h; omega
                        exact ⟨k0, n0, o, mm, c, cost, S2, rfl, Lib.hid ⟨h1, h2, h3.outS hlt2 hn⟩, (KX.of kB).trans h3, (h3.block _ hlt2 hn).trans (heap_alloc_new w2 _)⟩)
                      go_cut [17, 18] from 90 to 157 (fun x y wx => ∃ bY y0 k0 n0 o mm c S2, x = .pointer (some ⟨bY, 0, none⟩) ∧ y = .int .i64 y0 ∧ w2.heap.size ≤ bY ∧ Hid (wx.heap[bY]? = some (.cells #[.int .i64 k0, .int .i64 n0, .slice o mm c] 28 (0, 0)) ∧ BVal (fun g => (QB g ∧ g ≠ b9) ∧ ¬ S2 g) wx (best p q) k0 n0 (.slice o mm c) y0 ∧ RS p QB bk b9 n W1 S l S2 b0 lst wx ∧ KX S1 w2 S2 wx))
                      case first =>
                        go_region_held3 (fun w' => w'.cell? ⟨b5, 0, none⟩ = some (.int .i64 p.D) ∧ w'.cell? ⟨b5, 1, none⟩ = some (.slice of mf cf) ∧ w'.cell? ⟨b5, 2, none⟩ = some (.int .i64 p.P)) (first | go_keep | exact HPc.out _ _ hx5 | exact HPc.out _ _ (hx5.kp ((Kp.refl w5).alloc _)) | exact HPc.out _ _ (hx5.fresh (Nat.le_refl _) (kb_set3 _ _ _ _ _)))
                          (first
                          | (go_at_call 32; (with_reducible refine HRcA.out.mono ?_); rintro e w5 ⟨k5, n5, o5, m5, c5, y5, S5, rfl, HA5, hx5⟩)
                          | (go_at_call 32; (with_reducible refine HRcB.out.mono ?_); rintro e w5 ⟨k5, n5, o5, m5, c5, y5, S5, rfl, HB5, hx5, hz5⟩; obtain ⟨⟨z0, z1, z2⟩, f0, f1, f2⟩ := row3_facts hz5))
                        all_goals go_wp2_with fail
                        · have kw := (Kp.refl w5).alloc (.cells #[.int .i64 k5, .int .i64 n5, .slice o5 m5 c5] 28)
                          go_meet
                          exact ⟨w5.heap.size, y5, k5, n5, o5, m5, c5, S5, rfl, rfl, hx5.size, Lib.hid ⟨heap_alloc_new w5 _, HA5.out.1.kp kw, HA5.out.2.1.kp kw, hx5.kp kw⟩⟩
                        · have kb := kb_set3 w5 w2.heap.size (.int .i64 k5) (.int .i64 n5) (.slice o5 m5 c5)
                          go_meet
                          refine ⟨w2.heap.size, y5, k5, n5, o5, m5, c5, S5, rfl, rfl, Nat.le_refl _, Lib.hid ⟨heap_set3 w5 _ _ _ _ _ _ _ _ _ hz5, ?_, ?_, hx5.fresh (Nat.le_refl _) kb⟩⟩
                          · exact (HB5.out.1.kb (fun g hg => hg.1.1.2) kb).mono fun g _ hg => ⟨⟨hg.1.1.1, hg.1.2⟩, hg.2⟩
                          · exact (HB5.out.2.1.fresh (by omega) (by omega) HB5.out.2.2 (fun g hg => hg.2) kb).mono fun g _ hg => hg.1
                      case rest =>
                        obtain ⟨bY, y0, kY, nY, oY, mY, cY, S2, rfl, rfl, hbY, HC⟩ := hcut
                        have hg2 : wr.heap.size ≤ g2 := (HV.out.lt g2 rfl).1
                        have hg2b : g2 ≠ b9 := by omega
                        have hbYb : bY ≠ b9 := by omega
                        have HHL : Hid (∀ w', Kb b9 wc w' → ∀ j (hj : j < m2), ∃ k, Hid (k = ks[j]'(by rw [HM.out]; exact hj)) ∧ w'.cell? ⟨g2, j * 3, none⟩ = some (.int .i64 k) ∧ w'.cell? ⟨g2, j * 3 + 1, none⟩ = some (.int .i64 a) ∧ w'.cell? ⟨g2, j * 3 + 2, none⟩ = some (.slice none 0 0)) := Lib.hid fun w' kb j hj => by
                          have hk : K2 b9 b9 wc w' := .of2 kb
                          have hcell := hl_away (bm := b9) (bb := b9) HV.out HM.out (K2.refl _ _ _) (by omega) (by omega) j (by rw [HM.out]; exact hj)
                          have hn : ¬ S1 g2 := fun h => by have := HSr.out _ h; omega
                          have hX := HC.out.2.2.2
                          exact ⟨_, Lib.hid rfl, hk.later (hX.later hcell.1 hn) hg2b hg2b, hk.later (hX.later hcell.2.1 hn) hg2b hg2b, hk.later (hX.later hcell.2.2 hn) hg2b hg2b⟩
                        have HYc : Hid (∀ w', Kb b9 wc w' → w'.cell? ⟨bY, 0, none⟩ = some (.int .i64 kY) ∧ w'.cell? ⟨bY, 1, none⟩ = some (.int .i64 nY) ∧ w'.cell? ⟨bY, 2, none⟩ = some (.slice oY mY cY)) := Lib.hid fun w' kb => (row3_facts ((kb.block bY (Array.getElem?_eq_some_iff.1 HC.out.1).1 hbYb).trans HC.out.1)).1
                        have HSx := Lib.hid HC.out.2.2.1
                        have hBY := HC.out.2.1
                        have HW2 : Hid (W1.heap.size ≤ wc.heap.size) := Lib.hid HSx.out.kx.size
                        have HSl := Lib.hid HSx.out.slt
                        clear HRcA HRcB HPc HC kA kB c0 c1 c2 HS2 HF2 HV HSr hbY hW12 hWr2 hg2
                        cases hbq : best p q with
                        | none =>
                          rw [hbq] at hBY HB
                          obtain ⟨rfl, _⟩ := hBY
                          have HS3 : Hid (RS p QB bk b9 n W1 S l S2 (belowA p n (a + 1)) lst wc) := Lib.hid (by rw [HBN.out, HB.out]; exact HSx.out)
                          clear hbq HB HBN HSx
                          go_wp2_with fail
                          go_loopw [10, 19, 20, 21, 22] (fun x y _ _ _ wr' => x = .int .i64 lst ∧ y = .int .i64 0 ∧ wr' = wc) (fun _ _ _ _ _ _ => 0)
                          case atStart => exact ⟨rfl, rfl, rfl⟩
                          case round =>
                            obtain ⟨rfl, rfl, rfl⟩ := hrel
                            go_wp2_with fail
                            go_roundw
                            case rel => exact ⟨a + 1, lst, S2, by omega, by omega, by go_num, rfl, HS3⟩
                            case measure => simp [intOf]; omega
                        | some Ty =>
                          obtain ⟨T, y⟩ := Ty
                          rw [hbq] at hBY HB
                          obtain ⟨rfl, hy0, hy1, hox⟩ := hBY
                          have HOX : Hid (∀ w', Kb b9 wc w' → OX (fun g => (QB g ∧ g ≠ b9) ∧ ¬ S2 g) w' T (.agg #[.int .i64 kY, .int .i64 nY, .slice oY mY cY])) := Lib.hid fun w' kb => hox.stay kb.size (fun g hg hq => kb.block g hg hq.1.2) (fun _ _ hq => hq)
                          obtain ⟨F, hF⟩ : ∃ F : Option (Tr × Int) → Int → Option (Tr × Int), F = fun b k => offer b ((leaf k a).times T) (sat (tcost a (q : Nat) (sat (leaf k a).C) y0 (k == 2))) := ⟨_, rfl⟩
                          have HBs : Hid (belowA p n (a + 1) = ks.foldl F b0) := Lib.hid (by rw [HBN.out, HB.out, hF])
                          have HFF := Lib.hid hF
                          clear hbq HB HBN hox hF
                          go_wp2_with fail
                          go_loopw [10, 19, 20, 21, 22] (fun x y _ _ _ wr' => ∃ (i : Nat) (ls : Int), i ≤ m2 ∧ y = .int .i64 i ∧ x = .int .i64 ls ∧ Hid (RS p QB bk b9 n W1 S l S2 ((ks.take i).foldl F b0) ls wr') ∧ Hid (Kb b9 wc wr')) (fun _ y _ _ _ _ => m2 - (intOf y).toNat)
                          case atStart => exact ⟨0, lst, by omega, rfl, rfl, HSx, Lib.hid (Kb.refl _ _)⟩
                          case round =>
                            obtain ⟨i, ls, hi, rfl, rfl, HS, HKb⟩ := hrel
                            by_cases hlt2 : i < m2
                            · have hik : i < ks.length := by rw [HM.out]; exact hlt2
                              obtain ⟨k, HKi, x1, x2, x3⟩ := HHL.out _ HKb.out i hlt2
                              have HKk : Hid (k ∈ p.heads (a : Int)) := Lib.hid (by rw [HKS.out, HKi.out]; exact List.getElem_mem hik)
                              have hxr := sat_leaf hp (a := (a : Int)) (by omega) HKk.out
                              have HCost : Hid (∀ w', Calls Tryd.prog 36 #[.agg #[.int .i64 k, .int .i64 a, .slice none 0 0]] w' fun e w'' => ∃ z : Int, e = .returned (.tuple #[.int .i64 (sat (leaf k a).C), .int .i64 z]) ∧ Kp w' w'') := Lib.hid fun w' => rcost_leaf hp (by omega) (by omega) HKk.out w'
                              have hcr := sat_range _ (tcost_nonneg (a : Int) (q : Int) (sat (leaf k a).C) y0 (k == 2) (by omega) (by omega) hxr.1 hy0)
                              have HTm : Hid (∀ w', Calls Tryd.prog 53 #[.int .i64 k, .int .i64 (sat (leaf k a).C), .int .i64 a, .int .i64 y0, .int .i64 q] w' fun e w'' => e = .returned (.int .i64 (sat (tcost a q (sat (leaf k a).C) y0 (k == 2)))) ∧ w'' = w') := Lib.hid fun w' => rtcost_any k a q _ y0 w' (by omega) (by omega) (by omega) (by omega) hxr.1 hxr.2 hy0 hy1
                              obtain ⟨b2, hb2⟩ : ∃ b2, (ks.take (i + 1)).foldl F b0 = b2 := ⟨_, rfl⟩
                              have HB2 := Lib.hid hb2
                              have HF : Hid (b2 = offer ((ks.take i).foldl F b0) ((leaf k a).times T) (sat (tcost a (q : Nat) (sat (leaf k a).C) y0 (k == 2)))) := Lib.hid (by rw [← hb2, foldl_snoc _ _ _ _ hik, ← HKi.out, HFF.out])
                              generalize (ks.take i).foldl F b0 = b1 at *
                              obtain ⟨tc, htc⟩ : ∃ tc, sat (tcost a (q : Nat) (sat (leaf k a).C) y0 (k == 2)) = tc := ⟨_, rfl⟩
                              rw [htc] at HTm HF hcr
                              obtain ⟨xc, hxc⟩ : ∃ xc, sat (leaf k a).C = xc := ⟨_, rfl⟩
                              rw [hxc] at HTm HCost
                              clear hb2 htc hxc hxr
                              go_upto_region 25 with (go_at_call 36; (with_reducible refine (HCost.out _).mono ?_); rintro e w4 ⟨z, rfl, hk4⟩)
                              have y1 := hk4.later x1
                              have kd : Kp w4 w4.drew := (Kp.refl w4).drew
                              go_region_held3 (fun w' => w'.cell? ⟨g2, i * 3, none⟩ = some (.int .i64 k)) (go_keep) (first | (go_at_call 53; (with_reducible refine (HTm.out _).mono ?_); rintro e w5 ⟨rfl, rfl⟩))
                              have HS6 := Lib.hid (HS.out.kp (hk4.trans kd))
                              have HK6 := Lib.hid (HKb.out.trans (Kb.of (hk4.trans kd)))
                              have hls := HS.out.lst.2.2
                              clear HS HKb hk4 x1 x2 x3 y1 kd HCost HTm
                              generalize w4.drew = w6 at *
                              clear w4
                              have key : (decide (ls < 0) = true ∧ (ls < 0 ∨ tc < ls)) ∨ (decide (ls < 0) = false ∧ decide (tc < ls) = true ∧ (ls < 0 ∨ tc < ls)) ∨ (decide (ls < 0) = false ∧ decide (tc < ls) = false ∧ ¬ ls < 0 ∧ ¬ tc < ls) := by simp; omega
                              rcases key with ⟨d1, hc⟩ | ⟨d1, d2, hc⟩ | ⟨d1, d2, hc1, hc2⟩
                              · skip
                                have HBo : Hid (∀ w', Kp w6 w' → Calls Tryd.prog 54 #[.agg #[.int .i64 k, .int .i64 a, .slice none 0 0], .agg #[.int .i64 kY, .int .i64 nY, .slice oY mY cY]] w' fun e w'' => ∃ oB cB, e = .returned (.agg #[.int .i64 3, .int .i64 0, .slice oB 2 cB]) ∧ Hid (OX (fun g => (QB g ∧ g ≠ b9) ∧ ¬ S2 g) w'' ((leaf k a).times T) (.agg #[.int .i64 3, .int .i64 0, .slice oB 2 cB])) ∧ Kp w' w'') := Lib.hid fun w' kp => by
                                  have hsl := HSl.out
                                  have hw6 := HK6.out.size
                                  have hwp := kp.size
                                  refine (rboth_any (fun g => (QB g ∧ g ≠ b9) ∧ ¬ S2 g) (leaf k a) T _ _ w' (fun g hg => ⟨⟨HQB.out.1 g (by have := HW2.out; omega), by have := HW2.out; omega⟩, fun h => by have := hsl g h; omega⟩) (leaf_ox _ _ _ _ (by omega) (by omega)) ((HOX.out _ HK6.out).kp kp)).mono ?_
                                  rintro e w'' ⟨oB, cB, rfl, h1, h2⟩
                                  exact ⟨oB, cB, rfl, Lib.hid h1, h2⟩
                                have HZ : Hid (∀ w', Kp w6 w' → ∃ k0 n0 o m c, w'.heap[b9]? = some (.cells #[.int .i64 k0, .int .i64 n0, .slice o m c] 28 (0, 0))) := Lib.hid fun w' kp => by
                                  obtain ⟨k0, n0, o, m, c, h, _⟩ := (HS6.out.kp kp).bb
                                  exact ⟨k0, n0, o, m, c, h⟩
                                have HCl : Hid (∀ w', Kb b9 w6 w' → w'.cell? ⟨g2, i * 3, none⟩ = some (.int .i64 k) ∧ w'.cell? ⟨g2, i * 3 + 1, none⟩ = some (.int .i64 a) ∧ w'.cell? ⟨g2, i * 3 + 2, none⟩ = some (.slice none 0 0) ∧ w'.cell? ⟨bY, 0, none⟩ = some (.int .i64 kY) ∧ w'.cell? ⟨bY, 1, none⟩ = some (.int .i64 nY) ∧ w'.cell? ⟨bY, 2, none⟩ = some (.slice oY mY cY)) := Lib.hid fun w' kb => by
                                  obtain ⟨k', hk', q1, q2, q3⟩ := HHL.out _ (HK6.out.trans kb) i hlt2
                                  have e := hk'.out.trans HKi.out.symm
                                  subst e
                                  exact ⟨q1, q2, q3, HYc.out _ (HK6.out.trans kb)⟩
                                have kd6 : Kp w6 w6.drew := (Kp.refl w6).drew
                                obtain ⟨v1, v2, v3, v4, v5, v6⟩ := HCl.out _ (Kb.refl _ _)
                                go_upto_region 27 with fail
                                go_region_held3 (fun w' => w'.cell? ⟨g2, i * 3, none⟩ = some (.int .i64 k) ∧ w'.cell? ⟨g2, i * 3 + 1, none⟩ = some (.int .i64 a) ∧ w'.cell? ⟨g2, i * 3 + 2, none⟩ = some (.slice none 0 0) ∧ w'.cell? ⟨bY, 0, none⟩ = some (.int .i64 kY) ∧ w'.cell? ⟨bY, 1, none⟩ = some (.int .i64 nY) ∧ w'.cell? ⟨bY, 2, none⟩ = some (.slice oY mY cY)) (first | go_keep | exact HCl.out _ (.of (kd6.trans hk7)) | exact HCl.out _ (Kb.trans (.of (kd6.trans hk7)) (kb_set3 _ _ _ _ _)))
                                  (first | (go_at_call 54; (with_reducible refine (HBo.out _ kd6).mono ?_); rintro e w7 ⟨oB, cB, rfl, hx7, hk7⟩; obtain ⟨kz, nz, oz, mz, cz, hz7⟩ := HZ.out _ (kd6.trans hk7); obtain ⟨⟨z0, z1, z2⟩, f0, f1, f2⟩ := row3_facts hz7))
                                have HT := Lib.hid ((HS6.out.kp (kd6.trans hk7)).take (T := (leaf k a).times T) hcr.1 hcr.2 hc hx7.out)
                                rw [← HF.out] at HT
                                have HKT := Lib.hid ((HK6.out.trans (Kb.of (kd6.trans hk7))).trans (kb_set3 w7 b9 (.int .i64 3) (.int .i64 0) (.slice oB 2 cB)))
                                clear hc HS6
                                go_wp2_with fail
                                go_roundw
                                case rel => exact ⟨i + 1, tc, by omega, by go_num, rfl, by rw [HB2.out]; exact HT, HKT⟩
                                case measure => simp [intOf]; omega
                              · skip
                                have HBo : Hid (∀ w', Kp w6 w' → Calls Tryd.prog 54 #[.agg #[.int .i64 k, .int .i64 a, .slice none 0 0], .agg #[.int .i64 kY, .int .i64 nY, .slice oY mY cY]] w' fun e w'' => ∃ oB cB, e = .returned (.agg #[.int .i64 3, .int .i64 0, .slice oB 2 cB]) ∧ Hid (OX (fun g => (QB g ∧ g ≠ b9) ∧ ¬ S2 g) w'' ((leaf k a).times T) (.agg #[.int .i64 3, .int .i64 0, .slice oB 2 cB])) ∧ Kp w' w'') := Lib.hid fun w' kp => by
                                  have hsl := HSl.out
                                  have hw6 := HK6.out.size
                                  have hwp := kp.size
                                  refine (rboth_any (fun g => (QB g ∧ g ≠ b9) ∧ ¬ S2 g) (leaf k a) T _ _ w' (fun g hg => ⟨⟨HQB.out.1 g (by have := HW2.out; omega), by have := HW2.out; omega⟩, fun h => by have := hsl g h; omega⟩) (leaf_ox _ _ _ _ (by omega) (by omega)) ((HOX.out _ HK6.out).kp kp)).mono ?_
                                  rintro e w'' ⟨oB, cB, rfl, h1, h2⟩
                                  exact ⟨oB, cB, rfl, Lib.hid h1, h2⟩
                                have HZ : Hid (∀ w', Kp w6 w' → ∃ k0 n0 o m c, w'.heap[b9]? = some (.cells #[.int .i64 k0, .int .i64 n0, .slice o m c] 28 (0, 0))) := Lib.hid fun w' kp => by
                                  obtain ⟨k0, n0, o, m, c, h, _⟩ := (HS6.out.kp kp).bb
                                  exact ⟨k0, n0, o, m, c, h⟩
                                have HCl : Hid (∀ w', Kb b9 w6 w' → w'.cell? ⟨g2, i * 3, none⟩ = some (.int .i64 k) ∧ w'.cell? ⟨g2, i * 3 + 1, none⟩ = some (.int .i64 a) ∧ w'.cell? ⟨g2, i * 3 + 2, none⟩ = some (.slice none 0 0) ∧ w'.cell? ⟨bY, 0, none⟩ = some (.int .i64 kY) ∧ w'.cell? ⟨bY, 1, none⟩ = some (.int .i64 nY) ∧ w'.cell? ⟨bY, 2, none⟩ = some (.slice oY mY cY)) := Lib.hid fun w' kb => by
                                  obtain ⟨k', hk', q1, q2, q3⟩ := HHL.out _ (HK6.out.trans kb) i hlt2
                                  have e := hk'.out.trans HKi.out.symm
                                  subst e
                                  exact ⟨q1, q2, q3, HYc.out _ (HK6.out.trans kb)⟩
                                have kd6 : Kp w6 w6.drew := (Kp.refl w6).drew
                                obtain ⟨v1, v2, v3, v4, v5, v6⟩ := HCl.out _ (Kb.refl _ _)
                                go_upto_region 27 with fail
                                go_region_held3 (fun w' => w'.cell? ⟨g2, i * 3, none⟩ = some (.int .i64 k) ∧ w'.cell? ⟨g2, i * 3 + 1, none⟩ = some (.int .i64 a) ∧ w'.cell? ⟨g2, i * 3 + 2, none⟩ = some (.slice none 0 0) ∧ w'.cell? ⟨bY, 0, none⟩ = some (.int .i64 kY) ∧ w'.cell? ⟨bY, 1, none⟩ = some (.int .i64 nY) ∧ w'.cell? ⟨bY, 2, none⟩ = some (.slice oY mY cY)) (first | go_keep | exact HCl.out _ (.of (kd6.trans hk7)) | exact HCl.out _ (Kb.trans (.of (kd6.trans hk7)) (kb_set3 _ _ _ _ _)))
                                  (first | (go_at_call 54; (with_reducible refine (HBo.out _ kd6).mono ?_); rintro e w7 ⟨oB, cB, rfl, hx7, hk7⟩; obtain ⟨kz, nz, oz, mz, cz, hz7⟩ := HZ.out _ (kd6.trans hk7); obtain ⟨⟨z0, z1, z2⟩, f0, f1, f2⟩ := row3_facts hz7))
                                have HT := Lib.hid ((HS6.out.kp (kd6.trans hk7)).take (T := (leaf k a).times T) hcr.1 hcr.2 hc hx7.out)
                                rw [← HF.out] at HT
                                have HKT := Lib.hid ((HK6.out.trans (Kb.of (kd6.trans hk7))).trans (kb_set3 w7 b9 (.int .i64 3) (.int .i64 0) (.slice oB 2 cB)))
                                clear hc HS6
                                go_wp2_with fail
                                go_roundw
                                case rel => exact ⟨i + 1, tc, by omega, by go_num, rfl, by rw [HB2.out]; exact HT, HKT⟩
                                case measure => simp [intOf]; omega
                              · have HT := Lib.hid (HS6.out.keep (T := (leaf k a).times T) hc1 hc2)
                                rw [← HF.out] at HT
                                clear hc1 hc2 HS6
                                go_wp2_with fail
                                go_roundw
                                case rel => exact ⟨i + 1, ls, by omega, by go_num, rfl, by rw [HB2.out]; exact HT, HK6⟩
                                case measure => simp [intOf]; omega
                            · obtain rfl : m2 = i := by omega
                              have HS3 : Hid (RS p QB bk b9 n W1 S l S2 (belowA p n (a + 1)) ls wr) := Lib.hid (by
                                have h := HS.out
                                rw [← HM.out, List.take_length, ← HBs.out] at h
                                exact h)
                              clear HS HKb
                              go_wp2_with fail
                              go_roundw
                              case rel => exact ⟨a + 1, ls, S2, by omega, by omega, by go_num, rfl, HS3⟩
                              case measure => simp [intOf]; omega
              -- ROUND3 END
              · have HX : Hid (RS p QB bk b9 n W1 S l S1 (belowA p n (max n 2)) lst wr) := Lib.hid (by have h := HS.out; rw [show a = max n 2 by omega] at h; exact h)
                clear HS
                go_wp2_with fail
                go_meet
                exact ⟨lst, S1, rfl, HX⟩
          case rest =>
              obtain ⟨lst, S1, rfl, HS⟩ := hcut
              clear HS1
              obtain ⟨wr, rfl⟩ : ∃ wr : World, wr = wc := ⟨_, rfl⟩
              obtain ⟨hd, hhd⟩ : ∃ b, p.hard n = b := ⟨_, rfl⟩
              have HHd := Lib.hid hhd
              obtain ⟨b1, hb1⟩ : ∃ b1, (divs n).foldl (divStep p (best p) n) (headStep p n) = b1 := ⟨_, rfl⟩
              have HB1 := Lib.hid hb1
              have HS1' : Hid (RS p QB bk b9 n W1 S l S1 b1 lst wr) := Lib.hid (by
                have h := HS.out
                rw [← belowA_end p hn1, hb1] at h
                exact h)
              have HFw := Lib.hid (HRF.out.kx HS.out.kx)
              have HBl : Hid (Calls Tryd.prog 55 #[.int .i64 n, .agg #[.int .i64 p.D, .slice of mf cf, .int .i64 p.P]] wr fun e w' => e = .returned (.bool hd) ∧ Kp wr w') := Lib.hid (by
                rw [← hhd]
                exact rblue_any p (.slice of mf cf) n wr hn1 (by omega) HFw.out.fl.fl)
              clear hhd hb1 HS
              obtain ⟨c0, c1, c2⟩ := HFw.out.cells
              go_upto_if 160 with (go_at_call 55; (with_reducible refine HBl.out.mono ?_); rintro e w2 ⟨rfl, hk2⟩)
              have HS2 := Lib.hid (HS1'.out.kp hk2)
              have HF2 := Lib.hid (HFw.out.kx (.of hk2))
              clear c0 c1 c2 HBl hk2 HS1' HFw
              go_cut [10, 23, 24, 25, 26, 27] from 160 (fun x _ _ _ _ _ wx => ∃ ls S2, x = .int .i64 ls ∧ Hid (RS p QB bk b9 n W1 S l S2 (best p n) ls wx))
              case first =>
                as_aux_lemma => -- TAIL1 BEGIN
                  cases hd with
                  | false =>
                    have HT : Hid (RS p QB bk b9 n W1 S l S1 (best p n) lst w2) := Lib.hid (by
                      have e : best p n = b1 := by rw [best_eq hp.p1 hn1]; unfold bestStep blueStep; rw [HHd.out, if_neg (by decide), HB1.out]
                      rw [e]; exact HS2.out)
                    clear HS2 HB1 HHd
                    go_wp2_with fail
                    go_meet
                    exact ⟨lst, S1, rfl, HT⟩
                  | true =>
                    obtain ⟨hrn, hn8⟩ := hard_rank hn1 hp.p1 HHd.out
                    obtain ⟨t1, t2, kk, t3⟩ := twoOf_is (N := 2 * n - 1) (by omega) (by omega)
                    have hx2 : twoOf (2 * n - 1) ≤ 16384 := two_top ⟨t1, t2, kk, t3⟩ (by omega)
                    have hrx : rank (twoOf (2 * n - 1)) < rank n := by rw [hrn, t3, rank_two, ← t3]; omega
                    have hkk : kk ≤ 14 := by
                      rcases Nat.lt_or_ge 14 kk with c | c
                      · have := Nat.pow_le_pow_right (show 0 < 2 by decide) (show 15 ≤ kk from c)
                        omega
                      · exact c
                    have hsome := two_some hp kk
                    have hsmall : ∀ T C, best p (2 ^ kk) = some (T, C) → C ≤ 10000000 := fun T C h => two_small hp hkk h
                    rw [← t3] at hsome hsmall
                    have hSz : ∀ w', Calls Tryd.prog 56 #[.int .i64 n] w' fun e w'' => e = .returned (.tuple #[.int .i64 (twoOf (2 * n - 1) : Nat), .int .i64 0]) ∧ w' = w'' := fun w' => rSize_any n _ w' hn1 hn8 ⟨t1, t2, kk, t3⟩
                    obtain ⟨x, hx⟩ : ∃ x, twoOf (2 * n - 1) = x := ⟨_, rfl⟩
                    have HXX := Lib.hid hx
                    rw [hx] at hx2 hrx hsome hsmall
                    simp only [hx] at hSz
                    have hx1 : 1 ≤ x := by omega
                    have HSz := Lib.hid hSz
                    obtain ⟨Ty, hTy⟩ := Option.isSome_iff_exists.1 hsome
                    obtain ⟨T, y⟩ := Ty
                    have HTy := Lib.hid hTy
                    have HRX := Lib.hid hrx
                    have hys := hsmall T y hTy
                    have hy0 : 0 ≤ y := (best_ok hp (rank x) x (Nat.le_refl _) hx1 T y hTy).1
                    have HBn : Hid (best p n = offer b1 (T.blue n) (3 * y + 12 * (n : Int) + 10 * (x : Int))) := Lib.hid (by
                      rw [best_eq hp.p1 hn1]
                      unfold bestStep blueStep
                      rw [HHd.out, if_pos rfl, HB1.out, HXX.out, HTy.out]
                      show offer b1 (T.blue n) (sat (bcost n x y)) = _
                      rw [sat_small _ (by unfold bcost; omega)]
                      rfl)
                    clear hx t1 t2 t3 hrn hrx hsome hsmall hSz hTy kk hkk HHd HB1
                    have HRc : Hid (Calls Tryd.prog 32 #[.pointer (some ⟨bk, 0, none⟩), .int .i64 x, .agg #[.int .i64 p.D, .slice of mf cf, .int .i64 p.P]] w2 fun e w'' => ∃ k0 n0 o mm c S2, e = .returned (.tuple #[.agg #[.int .i64 k0, .int .i64 n0, .slice o mm c], .int .i64 y]) ∧
                        Hid (OX (fun g => (QB g ∧ g ≠ b9) ∧ ¬ S2 g) w'' T (.agg #[.int .i64 k0, .int .i64 n0, .slice o mm c]) ∧ RS p QB bk b9 n W1 S l S2 b1 lst w'')) := Lib.hid (by
                      refine (HS2.out.call (HRec.out x hx1 (by omega) HRX.out) HRX.out (fun g hg => HQB.out.1 g (by have := HS2.out.kx.size; omega)) HF2.out).mono ?_
                      rintro e w'' ⟨k0, n0, o, mm, c, cost, S2, rfl, h1, h2, h3⟩
                      rw [HTy.out] at h1
                      obtain ⟨rfl, _, _, hox⟩ := h1
                      exact ⟨k0, n0, o, mm, c, S2, rfl, Lib.hid ⟨hox, h2⟩⟩)
                    obtain ⟨c0, c1, c2⟩ := HF2.out.cells
                    go_upto_region 31 with (first
                      | (go_at_call 56; (with_reducible refine (HSz.out _).mono ?_); rintro e w3 ⟨rfl, rfl⟩)
                      | (go_at_call 32; (with_reducible refine HRc.out.mono ?_); rintro e w5 ⟨k5, n5, o5, m5, c5, S5, rfl, HA5⟩))
                    have kw := (Kp.refl w5).alloc (.cells #[.int .i64 k5, .int .i64 n5, .slice o5 m5 c5] 28)
                    have hE := heap_alloc_new w5 (.cells #[.int .i64 k5, .int .i64 n5, .slice o5 m5 c5] 28)
                    have HS6 := Lib.hid (HA5.out.2.kp kw)
                    have HO6 := Lib.hid (HA5.out.1.kp kw)
                    clear HA5 HRc HSz HS2 c0 c1 c2 kw
                    generalize w5.alloc (.cells #[.int .i64 k5, .int .i64 n5, .slice o5 m5 c5] 28) = w6 at *
                    generalize w5.heap.size = E at *
                    obtain ⟨⟨e0, e1, e2⟩, _⟩ := row3_facts hE
                    obtain ⟨_, _, _, _, _, hb9c, _⟩ := HS6.out.bb
                    obtain ⟨⟨s0, s1, s2⟩, f0, f1, f2⟩ := row3_facts hb9c
                    have hb96 : b9 < w6.heap.size := HS6.out.b9lt
                    have hls := HS6.out.lst.2.2
                    have HB9 := Lib.hid hb9c
                    clear hE hb9c
                    have d0 : decide (0 ≤ y) = true := by simpa using hy0
                    have key : (decide (lst < 0) = true ∧ (lst < 0 ∨ 3 * y + 12 * (n : Int) + 10 * (x : Int) < lst)) ∨ (decide (lst < 0) = false ∧ decide (3 * y + 12 * (n : Int) + 10 * (x : Int) < lst) = true ∧ (lst < 0 ∨ 3 * y + 12 * (n : Int) + 10 * (x : Int) < lst)) ∨ (decide (lst < 0) = false ∧ decide (3 * y + 12 * (n : Int) + 10 * (x : Int) < lst) = false ∧ ¬ lst < 0 ∧ ¬ 3 * y + 12 * (n : Int) + 10 * (x : Int) < lst) := by simp; omega
                    rcases key with ⟨d1, hc⟩ | ⟨d1, d2, hc⟩ | ⟨d1, d2, hc1, hc2⟩
                    · have hk8 := (kb_set3 w6 b9 (.int .i64 4) (.int .i64 n) (.slice (some ⟨w6.heap.size, 0, none⟩) 1 1)).trans (Kb.of ((Kp.refl _).alloc (.cells #[.int .i64 k5, .int .i64 n5, .slice o5 m5 c5] 28)))
                      have hE8 := heap_alloc_new (((w6.setCell ⟨b9, 0, none⟩ (.int .i64 4)).setCell ⟨b9, 1, none⟩ (.int .i64 n)).setCell ⟨b9, 2, none⟩ (.slice (some ⟨w6.heap.size, 0, none⟩) 1 1)) (.cells #[.int .i64 k5, .int .i64 n5, .slice o5 m5 c5] 28)
                      have hz8 : (((w6.setCell ⟨b9, 0, none⟩ (.int .i64 4)).setCell ⟨b9, 1, none⟩ (.int .i64 n)).setCell ⟨b9, 2, none⟩ (.slice (some ⟨w6.heap.size, 0, none⟩) 1 1)).heap.size = w6.heap.size := by simp
                      rw [hz8] at hE8
                      have hW6 := HS6.out.kx.size
                      have HT := Lib.hid (HS6.out.put (T := T.blue n) (by omega) (by omega) hc hk8 (set3_alloc HB9.out _)
                        (blue_ox (cp := 1) ⟨⟨HQB.out.1 _ hW6, by omega⟩, fun h => by have := HS6.out.slt _ h; omega⟩ (by omega) (by omega) hE8 (HO6.out.kb9 hk8)))
                      rw [← HBn.out] at HT
                      clear hc HS6 hk8 hE8 hz8 hW6
                      go_wp2_with fail
                      go_meet
                      exact ⟨_, S5, rfl, HT⟩
                    · have hk8 := (kb_set3 w6 b9 (.int .i64 4) (.int .i64 n) (.slice (some ⟨w6.heap.size, 0, none⟩) 1 1)).trans (Kb.of ((Kp.refl _).alloc (.cells #[.int .i64 k5, .int .i64 n5, .slice o5 m5 c5] 28)))
                      have hE8 := heap_alloc_new (((w6.setCell ⟨b9, 0, none⟩ (.int .i64 4)).setCell ⟨b9, 1, none⟩ (.int .i64 n)).setCell ⟨b9, 2, none⟩ (.slice (some ⟨w6.heap.size, 0, none⟩) 1 1)) (.cells #[.int .i64 k5, .int .i64 n5, .slice o5 m5 c5] 28)
                      have hz8 : (((w6.setCell ⟨b9, 0, none⟩ (.int .i64 4)).setCell ⟨b9, 1, none⟩ (.int .i64 n)).setCell ⟨b9, 2, none⟩ (.slice (some ⟨w6.heap.size, 0, none⟩) 1 1)).heap.size = w6.heap.size := by simp
                      rw [hz8] at hE8
                      have hW6 := HS6.out.kx.size
                      have HT := Lib.hid (HS6.out.put (T := T.blue n) (by omega) (by omega) hc hk8 (set3_alloc HB9.out _)
                        (blue_ox (cp := 1) ⟨⟨HQB.out.1 _ hW6, by omega⟩, fun h => by have := HS6.out.slt _ h; omega⟩ (by omega) (by omega) hE8 (HO6.out.kb9 hk8)))
                      rw [← HBn.out] at HT
                      clear hc HS6 hk8 hE8 hz8 hW6
                      go_wp2_with fail
                      go_meet
                      exact ⟨_, S5, rfl, HT⟩
                    · have HT := Lib.hid (HS6.out.keep (T := T.blue n) hc1 hc2)
                      rw [← HBn.out] at HT
                      clear hc1 hc2 HS6
                      go_wp2_with fail
                      go_meet
                      exact ⟨lst, S5, rfl, HT⟩
              -- TAIL1 END
              case rest =>
                obtain ⟨ls, S2, rfl, HS⟩ := hcut
                clear HS2 HF2 HHd HB1 hlt
                obtain ⟨ext, ⟨vN, vO, vC, es2, cs2, hM2, hE2⟩, hext⟩ := HS.out.ki
                obtain ⟨uN, dN, uO, dO, uC, dC, rfl, rfl, rfl⟩ := hM2.open
                obtain ⟨k9, n9, o9, m9, c9, hb9, hbv⟩ := HS.out.bb
                have HBV := Lib.hid hbv
                have HEx := Lib.hid hext
                have HE2 := Lib.hid hE2
                have hlen := hE2.len
                have HM2 := Lib.hid hM2
                have HFw := Lib.hid (HRF.out.kx HS.out.kx)
                clear hext hbv hE2
                obtain ⟨L2, hL2⟩ : ∃ L2, (l ++ ext).length = L2 := ⟨_, rfl⟩
                have HL2 := Lib.hid hL2
                rw [hL2] at HM2 hM2 hlen
                obtain ⟨i0, hi, hz⟩ := Option.map_eq_some_iff.1 info_int2
                have hz0 : i0.zero = some (.int .i64 0) := by injection hz
                have hz1 : i0.size = 1 := by injection hz with _ h; injection h
                have hz2 : i0.bytes = 8 := by injection hz with _ h; injection h
                clear hz hL2
                obtain ⟨⟨r0, r1, r2⟩, rf0, rf1, rf2⟩ := row3_facts hM2.row
                have h63 : L2 + 1 ≤ maxLen := by unfold maxLen; omega
                have kA := (Kp.refl wc).alloc (.cells #[.int .i64 (n : Int)] 3)
                have hownN := kA.owns hM2.rN
                have hob : (Value.slice uN L2 dN).ownBlock ≠ some bk := fun e => (hM2.oN bk e).2.1 rfl
                go_upto_region 35 with (at_builtin; refine wpList_append_lies _ rfl (.tmp 201) (.tmp 203) 22 rfl 0 3 i0 (.int .i64 0) 1 8 Tryd.underlying22 hi hz0 hz1 hz2 rfl (by decide) _ L2 _ rfl hownN ⟨wc.heap.size, 0, none⟩ 1 1 [.int .i64 (n : Int)] rfl rfl (World.news_of_block (heap_alloc_new wc _)) (by intro u hu; simp at hu; subst hu; rfl) (by decide) h63 (by omega) (Nat.zero_le _) _ rfl ?_; intro g1 cap1 w1 hown1 hg1 hat1 hlt1; obtain ⟨⟨q0, _, _⟩, qf0, _, _⟩ := row3_facts (hM2.rowOld kA hg1 hob hat1 (Kb.refl _ _)))
                obtain ⟨hMa, hXa⟩ := hM2.pushN kA hg1 hat1 hlt1 (Kb.refl _ _) hown1
                clear r0 r1 r2 rf0 rf1 rf2 kA hownN hob hown1 hg1 hat1 hlt1 q0 qf0 hM2
                generalize w1.setCell ⟨bk, 0, none⟩ (.slice (some ⟨g1, 0, none⟩) (L2 + 1) cap1) = wa at *
                obtain ⟨S3, hS3⟩ : ∃ S3 : Nat → Prop, (fun k => S2 k ∨ k = g1) = S3 := ⟨_, rfl⟩
                rw [hS3] at hMa hXa
                clear hS3
                have h9S := HS.out.nb
                have h9l := HS.out.b9lt
                have hb9a := (hXa.block b9 h9l h9S).trans hb9
                have h9Sa : ¬ S3 b9 := hXa.outS h9l h9S
                obtain ⟨⟨r0, r1, r2⟩, rf0, rf1, rf2⟩ := row3_facts hMa.row
                obtain ⟨⟨s0, s1, s2⟩, _⟩ := row3_facts hb9a
                obtain ⟨j0, hj, hz⟩ := Option.map_eq_some_iff.1 info_order
                have hj0 : j0.zero = some (.agg #[.int .i64 0, .int .i64 0, .slice none 0 0]) := by injection hz
                have hj1 : j0.size = 3 := by injection hz with _ h; injection h
                have hj2 : j0.bytes = 40 := by injection hz with _ h; injection h
                clear hz
                have kA := ((Kp.refl wa).alloc (.cells #[.int .i64 0, .int .i64 0, .slice none 0 0] 28)).drew
                have hownO := kA.owns hMa.rO
                have kB := (Kp.refl wa).alloc (.cells #[.int .i64 0, .int .i64 0, .slice none 0 0] 28)
                have s0' := kB.later s0
                have s1' := kB.later s1
                have s2' := kB.later s2
                have r1' := kB.later r1
                have hob : (Value.slice uO L2 dO).ownBlock ≠ some bk := fun e => (hMa.oO bk e).2.1 rfl
                have hel : es2.length = L2 * 3 := hMa.rO.1
                have z0 : (0 : Int) ≤ (L2 : Int) := by omega
                have z1 : (L2 : Int) < (L2 : Int) + 1 := by omega
                go_cut [10] from 207 (fun x wx => x = .int .i64 ls ∧ ∃ g2 cap2 S4, Hid (KM S4 bk wx (.slice (some ⟨g1, 0, none⟩) (L2 + 1) cap1) (L2 + 1) (keyCells (l ++ ext) ++ [.int .i64 (n : Int)]) (.slice (some ⟨g2, 0, none⟩) (L2 + 1) cap2) (L2 + 1) (es2 ++ [.int .i64 k9, .int .i64 n9, .slice o9 m9 c9]) (.slice uC L2 dC) L2 cs2 ∧ KX S3 wa S4 wx))
                case first =>
                  as_aux_lemma => -- TAIL2 BEGIN
                    go_region_law (refine step_append_lies _ (by rfl) _ _ 26 (by rfl) 0 28 j0 (.agg #[.int .i64 0, .int .i64 0, .slice none 0 0]) 3 40 Tryd.underlying26 hj hj0 hj1 hj2 rfl (by decide) (.slice uO L2 dO) L2 es2 (by rfl) hownO ⟨wa.heap.size, 0, none⟩ 1 1 [.int .i64 0, .int .i64 0, .slice none 0 0] (by rfl) (by rfl) (World.news_of_block (heap_alloc_new wa _)) (by intro u hu; simp at hu; rcases hu with rfl | rfl | rfl <;> rfl) (by decide) h63 (by omega) (Nat.zero_le _) _ rfl ?_; intro g2 cap2 w2 hown2 hg2 hat2 hlt2; obtain ⟨⟨_, q1, _⟩, _, qf1, _⟩ := row3_facts (hMa.rowOld kA hg2 hob hat2 (Kb.refl _ _)); have gb : g2 ≠ bk := hMa.new kA hat2 hMa.sk hob; have gb' : ¬ bk = g2 := Ne.symm gb; have y0 := (hown2.cellAt (L2 * 3) (by omega)).trans (last3 es2 _ _ _ hel).1; have y1 := (hown2.cellAt (L2 * 3 + 1) (by omega)).trans (last3 es2 _ _ _ hel).2.1; have y2 := (hown2.cellAt (L2 * 3 + 2) (by omega)).trans (last3 es2 _ _ _ hel).2.2; have yf0 := hown2.frozenAt (L2 * 3); have yf1 := hown2.frozenAt (L2 * 3 + 1); have yf2 := hown2.frozenAt (L2 * 3 + 2))
                    all_goals
                      go_wp2_with fail
                      go_meet
                      refine ⟨rfl, g2, cap2, (fun k => S3 k ∨ k = g2), Lib.hid ?_⟩
                      have hP := hMa.pushO kA hg2 hat2 hlt2 (kb_set3at w2 g2 (L2 * 3) (L2 * 3 + 1) (L2 * 3 + 2) (.int .i64 k9) (.int .i64 n9) (.slice o9 m9 c9)) (owns_last hown2 hel)
                      first
                        | (with_reducible exact hP)
                        | (rw [set_comm _ _ _ _ _ _ _ gb', set_comm _ _ _ _ _ _ _ gb', set_comm _ _ _ _ _ _ _ gb']; with_reducible exact hP)
                -- TAIL2 END
                case rest =>
                  obtain ⟨rfl, g2, cap2, S4, H4⟩ := hcut
                  clear kA hownO kB s0' s1' s2' r1' hob z0 z1 r0 r1 r2 rf0 rf1 rf2 s0 s1 s2 hj hj0 hj1 hj2 j0
                  obtain ⟨hMb, hXb⟩ := H4.out
                  have hXab := hXa.trans hXb
                  obtain ⟨⟨r0, r1, r2⟩, rf0, rf1, rf2⟩ := row3_facts hMb.row
                  have kA := (Kp.refl wc).alloc (.cells #[.int .i64 ls] 3)
                  have hownC := kA.owns hMb.rC
                  have hob : (Value.slice uC L2 dC).ownBlock ≠ some bk := fun e => (hMb.oC bk e).2 rfl
                  go_upto_region 37 with (at_builtin; refine wpList_append_lies _ rfl (.tmp 222) (.tmp 224) 22 rfl 0 3 i0 (.int .i64 0) 1 8 Tryd.underlying22 hi hz0 hz1 hz2 rfl (by decide) _ L2 _ rfl hownC ⟨wc.heap.size, 0, none⟩ 1 1 [.int .i64 ls] rfl rfl (World.news_of_block (heap_alloc_new wc _)) (by intro u hu; simp at hu; subst hu; rfl) (by decide) h63 (by omega) (Nat.zero_le _) _ rfl ?_; intro g3 cap3 w3 hown3 hg3 hat3 hlt3; obtain ⟨⟨_, _, q2⟩, _, _, qf2⟩ := row3_facts (hMb.rowOld kA hg3 hob hat3 (Kb.refl _ _)))
                  obtain ⟨hMc, hXc⟩ := hMb.pushC kA hg3 hat3 hlt3 (Kb.refl _ _) hown3
                  clear r0 r1 r2 rf0 rf1 rf2 kA hownC hob hown3 hg3 hat3 hlt3 q2 qf2 hMb
                  generalize w3.setCell ⟨bk, 2, none⟩ (.slice (some ⟨g3, 0, none⟩) (L2 + 1) cap3) = wd at *
                  have hX := hXab.trans hXc
                  have hb9d := (hX.block b9 h9l h9S).trans hb9
                  have h6c := HFw.out.h6
                  have hb6d := (hX.block b6 (Array.getElem?_eq_some_iff.1 h6c).1 (fun e => HFw.out.n6 (.inl e))).trans h6c
                  obtain ⟨⟨s0, s1, s2⟩, _⟩ := row3_facts hb9d
                  obtain ⟨⟨v0, v1, v2⟩, vf0, vf1, vf2⟩ := row3_facts hb6d
                  have H6d := Lib.hid hb6d
                  clear hb9d hb6d h6c
                  go_wp2_with fail
                  have hk4 := kb_set3 wd b6 (.int .i64 k9) (.int .i64 n9) (.slice o9 m9 c9)
                  have hR := heap_set3 wd b6 _ _ _ (.int .i64 k9) (.int .i64 n9) (.slice o9 m9 c9) _ _ H6d.out
                  obtain ⟨f1, f2, f3, f4⟩ := RS.finish (S3 := fun k => S4 k ∨ k = g3) (w := w) (w3 := wd) HQB.out.2.1 hn1 hn2 HN.out HEx.out HKW.out (by have := HNm.out; omega) (show w.heap.size ≤ b6 by have := HNm.out; omega) (by have := HNm.out; omega) (by have := HNm.out; omega) (fun e => HRF.out.n6 (.inl e)) HQB.out.2.2
                    (by rw [HL2.out]; exact hel) (by rw [HL2.out]; have := HM2.out.rC.1; omega) HS.out.kx HE2.out HBV.out (by rw [HL2.out]; exact hMc) hX hk4 h9S h9l
                  exact bodyPost_ret (ret_order2 (p := 6) (u := 7) rfl _ _ b6 _ _ _ _ _ rfl hR) rfl ⟨k9, n9, o9, m9, c9, ls, _, _, rfl, f1, f2, f3, f4⟩
end Go.Proofs.YtgjlldapnodfbaaDoor

/- The law: each of a list. -/
import Derived.Test.YtedgbmibgddnkaaP6
import Derived.Test.YtedgbmibgddnkaaT3
import Derived.Test.YtedgbmibgddnkaaV
namespace Go.Proofs.Ytedgbmibgddnkaa
open Go.RowKit Ad
set_option linter.unusedSimpArgs false
set_option linter.unusedVariables false
set_option maxRecDepth 100000
set_option maxHeartbeats 4000000
theorem covers_self {p : Pfx} (h : p.right = true) : covers p p = true := (covers_iff p p).2 ⟨h, h, rfl, Int.le_refl _, fun _ _ => rfl⟩
theorem each_facts (L : List Vrp) (v : Vrp) (hv : v ∈ L) :
    (Ad.one v = true ∧ decide (v ∈ coversL (trieL L) v.p) = true ∧ ((v.as = 0 ∧ (answerL (trieL L) v.p v.as = 1 ∨ answerL (trieL L) v.p v.as = 2)) ∨ (¬ v.as = 0 ∧ answerL (trieL L) v.p v.as = 2))) ∨
    (Ad.one v = false ∧ decide (v ∈ coversL (trieL L) v.p) = false) := by
  cases ho : Ad.one v
  · refine .inr ⟨rfl, ?_⟩
    rw [decide_eq_false_iff_not]
    intro h
    have h1 := (mem_wayL (trieL_one L)).1 (mem_sortL.1 h)
    have h2 := trieL_one L v h1.1
    rw [ho] at h2; cases h2
  · refine .inl ⟨rfl, ?_⟩
    have hx : v ∈ trieL L := mem_trieL.2 ⟨hv, ho⟩
    have h1 := ho
    unfold Ad.one at h1
    simp only [Bool.and_eq_true, decide_eq_true_eq] at h1
    have hw : v ∈ wayL (trieL L) v.p := (mem_wayL (trieL_one L)).2 ⟨hx, covers_self h1.1.1⟩
    refine ⟨decide_eq_true (mem_sortL.2 hw), ?_⟩
    by_cases h0 : v.as = 0
    · refine .inl ⟨h0, ?_⟩
      rcases answerL_cases (trieL L) v.p v.as with e | e | e
      · rw [answerL_0] at e; rw [e] at hw; cases hw
      · exact .inl e
      · exact .inr e
    · exact .inr ⟨h0, answerL_2.2 ⟨v, hw, by unfold good; simp [h0, h1.1.2]⟩⟩
theorem take_mem (C : List Vrp) (v y : Vrp) (j : Nat) (hy : C[j]? = some y) : decide (v ∈ C.take (j + 1)) = (decide (v ∈ C.take j) || decide (y = v)) := by
  obtain ⟨hl, rfl⟩ := List.getElem?_eq_some_iff.1 hy
  rw [List.take_succ_eq_append_getElem hl]
  simp only [List.mem_append, List.mem_singleton, Bool.decide_or]
  congr 1
  exact decide_eq_decide.2 ⟨fun h => h.symm, fun h => h.symm⟩
theorem trieEach_any (A : Option Addr) (c : Nat) (L : List Vrp) (w : World) (hL : RdV w A L) (hl : L.length ≤ maxLen) (has : ∀ v ∈ L, 0 ≤ v.as ∧ v.as < 4294967296) :
    Calls Try.prog 6 #[.slice A L.length c] w fun e w' => e = .returned (.bool true) ∧ G w w' := by
  obtain ⟨n, hn⟩ : ∃ n, L.length = n := ⟨_, rfl⟩
  have Hn := Lib.hid hn
  have HL := Lib.hid hL
  have hnew := fun W (h : G w W) => new_wide A L c W (hL.grow h) hl has
  have hXl : (trieL L).length ≤ n := by have := trieL_length L []; rw [← hn]; unfold trieL; simp only [List.length_nil] at this; omega
  have HFacts := Lib.hid (each_facts L)
  have HCov := Lib.hid (fun (p : Pfx) y (h : y ∈ coversL (trieL L) p) => ((mem_wayL (trieL_one L)).1 (mem_sortL.1 h)).2)
  rw [hn] at hl hnew ⊢
  simp only [maxLen] at hl
  clear hn hL has
  go_enter Try.func6, Try.ntmps6
  go_upto_region 1 with fail
  refine region_seq ?_
  go_big_quiet_want; go_big_quiet_op; refine ⟨_, fun g => cls (awake_any _), ?_⟩; go_big_quiet_on
  repeat (first | go_big_quiet_skip | (go_big_quiet_want; go_big_quiet_op; go_big_quiet_on))
  refine wpQuiet_nil ?_
  intro W1 hg1
  have hnew1 := hnew W1 hg1
  have G1 := Lib.hid hg1
  clear hg1 hnew
  by_cases hlen : 100 < n
  · go_wp2_with (go_at_call 12; refine hnew1.mono ?_; rintro e w' ⟨bt, rfl, hT, hg⟩; clear hnew1; have G2 := Lib.hid (G1.out.trans hg); clear hT hg G1)
    go_ret
    exact ⟨rfl, G2.out⟩
  · have hle100 : decide ((100 : Int) < n) = false := by simp; omega
    go_wp2_with (go_at_call 12; refine hnew1.mono ?_; rintro e w' ⟨bt, rfl, hT, hg⟩; clear hnew1; have G2 := Lib.hid (G1.out.trans hg); have HT := Lib.hid hT; clear hT hg G1)
    generalize W1.heap.size = base at *
    clear W1
    obtain ⟨X, hX⟩ : ∃ X, trieL L = X := ⟨_, rfl⟩
    rw [hX] at hXl HFacts HCov HT
    clear hX
    go_loopw [2, 5, 6, 7, 8, 9, 10, 26, 27, 28, 29, 30, 31, 32, 33, 34, 35, 36, 37, 38, 39, 40, 41, 42, 43, 44, 45, 46, 47, 48, 49, 50, 51, 52, 53, 54, 55, 56, 57, 58, 59, 60, 61, 62, 63, 64, 65, 66, 67, 68, 69, 70, 71, 72, 73, 74, 75, 76, 77, 78, 79, 80, 81, 82, 83, 84, 85, 86, 87, 88, 89, 90, 91, 92, 93, 94, 95, 96, 97, 98, 99, 100, 101, 102, 103, 104, 105, 106, 107, 108, 109, 110, 111, 112, 113] (fun t2 i _ _ _ _ _ _ _ _ _ _ _ _ _ _ _ _ _ _ _ _ _ _ _ _ _ _ _ _ _ _ _ _ _ _ _ _ _ _ _ _ _ _ _ _ _ _ _ _ _ _ _ _ _ _ _ _ _ _ _ _ _ _ _ _ _ _ _ _ _ _ _ _ _ _ _ _ _ _ _ _ _ _ _ _ _ _ _ _ _ _ _ _ _ wr => ∃ k : Nat, k ≤ n ∧ i = .int .i64 k ∧ Hid (G w wr ∧ TrieIs wr base bt X)) (fun t2 i _ _ _ _ _ _ _ _ _ _ _ _ _ _ _ _ _ _ _ _ _ _ _ _ _ _ _ _ _ _ _ _ _ _ _ _ _ _ _ _ _ _ _ _ _ _ _ _ _ _ _ _ _ _ _ _ _ _ _ _ _ _ _ _ _ _ _ _ _ _ _ _ _ _ _ _ _ _ _ _ _ _ _ _ _ _ _ _ _ _ _ _ _ _ => n - (intOf i).toNat)
    case atStart => exact ⟨0, by omega, rfl, Lib.hid ⟨G2.out, HT.out⟩⟩
    case round =>
      clear G2 HT
      obtain ⟨k, hk, rfl, Hrel⟩ := hrel
      obtain ⟨hgr, hT⟩ := Hrel.out
      have Hgr := Lib.hid hgr
      have HT := Lib.hid hT
      clear Hrel hT
      by_cases hlt : k < n
      · obtain ⟨v, hv⟩ : ∃ v, L[k]? = some v := ⟨_, List.getElem?_eq_getElem (by have := Hn.out; omega)⟩
        obtain ⟨ad, rfl, hav⟩ := HL.out k v hv
        have hfacts := HFacts.out v (List.mem_of_getElem? hv)
        have hav1 := hav.grow hgr
        have hans := fun W (h : G wr W) => tanswer_any base bt X v.p v.as W (HT.out.grow h)
        have hcov := fun W (h : G wr W) => tcovers_any base bt X v.p W (HT.out.grow h) (by omega)
        have k0 := gcell (by have := hav1.one 0 (arrV_0 v); rwa [Addr.add_zero'] at this)
        have av1 : At wr ⟨(ad.add (k * 20)).block, (ad.add (k * 20)).off + 1, none⟩ (arrP v.p) := by
          have := hav1.sub 1 19 (arrV_ext v)
          rwa [show (ad.add (k * 20)).add 1 = ⟨(ad.add (k * 20)).block, (ad.add (k * 20)).off + 1, none⟩ from Addr.add_succ' _ 0] at this
        have hin := HCov.out v.p
        have hcl : (coversL X v.p).length ≤ 1000000 := by rw [coversL_length]; have := wayL_length X v.p; omega
        obtain ⟨C, hC⟩ : ∃ C, coversL X v.p = C := ⟨_, rfl⟩
        obtain ⟨a, ha⟩ : ∃ a, answerL X v.p v.as = a := ⟨_, rfl⟩
        rw [hC] at hfacts hcov hin hcl
        rw [ha] at hfacts hans
        obtain ⟨lc, hlc⟩ : ∃ lc, C.length = lc := ⟨_, rfl⟩
        rw [hlc] at hcov hcl
        have Hlc := Lib.hid hlc
        have Hin := Lib.hid hin
        have HF2 := Lib.hid hfacts
        clear hfacts hC ha hlc hin hv
        go_upto_region 8 with fail
        refine region_all (by kernel_rfl) (by kernel_rfl) ?_
        repeat (first | go_big_quiet_skip | (go_big_quiet_want; go_big_quiet_op; go_big_quiet_on))
        go_big_quiet_want; refine q_load 25 _ ⟨(ad.add (k * 20)).block, (ad.add (k * 20)).off + 1, none⟩ (arrP (v.p)) av1 Try.underlying25 rfl (info25p (v.p)) rfl rfl ?_; go_big_quiet_on
        simp only [Act.put, List.setIfInBounds_toArray, List.set_cons_zero, List.set_cons_succ]
        repeat (first | go_big_quiet_skip | (go_big_quiet_want; go_big_quiet_op; go_big_quiet_on))
        go_big_quiet_want; go_big_quiet_op; refine ⟨_, fun g => cls (hans _ (G.of wr g)), ?_⟩; go_big_quiet_on
        repeat (first | go_big_quiet_skip | (go_big_quiet_want; go_big_quiet_op; go_big_quiet_on))
        refine wpQuiet_nil ?_
        intro W2 hg2
        have av2 := av1.grow hg2
        have hav2 := hav1.grow hg2
        have hcov2 := fun W (h : G W2 W) => hcov W (hg2.trans h)
        have Hg2 := Lib.hid hg2
        clear av1 hav1 hcov k0 hans hg2
        go_upto_region 9 with fail
        refine region_head 6 ?_
        simp only [List.take_succ_cons, List.take_zero, List.drop_succ_cons, List.drop_zero]
        repeat (first | go_big_quiet_skip | (go_big_quiet_want; go_big_quiet_op; go_big_quiet_on))
        go_big_quiet_want; refine q_load 25 _ ⟨(ad.add (k * 20)).block, (ad.add (k * 20)).off + 1, none⟩ (arrP (v.p)) av2 Try.underlying25 rfl (info25p (v.p)) rfl rfl ?_; go_big_quiet_on
        simp only [Act.put, List.setIfInBounds_toArray, List.set_cons_zero, List.set_cons_succ]
        refine wpQuiet_nil ?_
        intro W3 hg3
        have hcov3 := hcov2 W3 hg3
        have Hg3 := Lib.hid (Hg2.out.trans hg3)
        have Hav := Lib.hid hav
        clear av2 hav2 hcov2 hg3 Hg2 hav
        go_wp2_with (go_at_call 14; refine hcov3.mono ?_; rintro e w' ⟨A7, c7, rfl, hr7, hg7⟩; clear hcov3; have Hr7 := Lib.hid hr7; have Hg7 := Lib.hid (Hg3.out.trans hg7); clear hr7 hg7 Hg3)
        generalize wr = Wo at *
        go_loopw [2, 8, 9, 51, 52, 53, 54, 55, 56, 57, 58, 59, 60, 61, 62, 63, 64, 65, 66, 67, 68, 69, 70, 71, 72, 73, 74, 75, 76, 77, 78, 79, 80] (fun _ s j _ _ _ _ _ _ _ _ _ _ _ _ _ _ _ _ _ _ _ _ _ _ _ _ _ _ _ _ _ _ wr => ∃ (j' : Nat) (d : Bool), j' ≤ lc ∧ j = .int .i64 j' ∧ s = .bool d ∧ Hid (d = decide (v ∈ C.take j') ∧ G w' wr)) (fun _ s j _ _ _ _ _ _ _ _ _ _ _ _ _ _ _ _ _ _ _ _ _ _ _ _ _ _ _ _ _ _ _ => lc - (intOf j).toNat)
        case atStart => exact ⟨0, false, by omega, rfl, rfl, Lib.hid ⟨by simp, G.refl _⟩⟩
        case round =>
          obtain ⟨j, d, hj, rfl, rfl, Hrel2⟩ := hrel
          have hg9 := Hrel2.out.2
          by_cases hlj : j < lc
          · obtain ⟨y, hy⟩ : ∃ y, C[j]? = some y := ⟨_, List.getElem?_eq_getElem (by have := Hlc.out; omega)⟩
            obtain ⟨bd, rfl, hby⟩ := Hr7.out j y hy
            have hby1 := hby.grow hg9
            have hav9 := Hav.out.grow (Hgr.out.trans (Hg7.out.trans hg9))
            have hstep := take_mem C v y j hy
            rw [← Hrel2.out.1] at hstep
            have HStep := Lib.hid hstep
            have hcy := fun W => covers_any y.p v.p W
            rw [Hin.out y (List.mem_of_getElem? hy)] at hcy
            have ay : At wr ⟨(bd.add (j * 20)).block, (bd.add (j * 20)).off + 1, none⟩ (arrP y.p) := by
              have := hby1.sub 1 19 (arrV_ext y)
              rwa [show (bd.add (j * 20)).add 1 = ⟨(bd.add (j * 20)).block, (bd.add (j * 20)).off + 1, none⟩ from Addr.add_succ' _ 0] at this
            have av : At wr ⟨(ad.add (k * 20)).block, (ad.add (k * 20)).off + 1, none⟩ (arrP v.p) := by
              have := hav9.sub 1 19 (arrV_ext v)
              rwa [show (ad.add (k * 20)).add 1 = ⟨(ad.add (k * 20)).block, (ad.add (k * 20)).off + 1, none⟩ from Addr.add_succ' _ 0] at this
            clear hstep hy hby
            have Hj := Lib.hid hg9
            clear hg9 Hrel2
            cases d
            all_goals
              go_upto_region 14 with fail
              refine region_all (by kernel_rfl) (by kernel_rfl) ?_
              repeat (first | go_big_quiet_skip | (go_big_quiet_want; go_big_quiet_op; go_big_quiet_on))
              try
                go_big_quiet_want; refine q_load 39 _ (bd.add (j * 20)) (arrV (y)) hby1 Try.underlying39 rfl (info39v (y)) rfl rfl ?_; go_big_quiet_on
                simp only [Act.put, List.setIfInBounds_toArray, List.set_cons_zero, List.set_cons_succ]
                repeat (first | go_big_quiet_skip | (go_big_quiet_want; go_big_quiet_op; go_big_quiet_on))
                go_big_quiet_want; refine q_load 39 _ (ad.add (k * 20)) (arrV (v)) hav9 Try.underlying39 rfl (info39v (v)) rfl rfl ?_; go_big_quiet_on
                simp only [Act.put, List.setIfInBounds_toArray, List.set_cons_zero, List.set_cons_succ]
                repeat (first | go_big_quiet_skip | (go_big_quiet_want; go_big_quiet_op; go_big_quiet_on))
              refine wpQuiet_nil ?_
              intro W4 hg4
              replace ay := ay.grow hg4
              replace av := av.grow hg4
              have Hj4 := Lib.hid (Hj.out.trans hg4)
              clear hby1 hav9 hg4 Hj
              go_upto_region 15 with fail
              refine region_all (by kernel_rfl) (by kernel_rfl) ?_
              repeat (first | go_big_quiet_skip | (go_big_quiet_want; go_big_quiet_op; go_big_quiet_on))
              go_big_quiet_want; refine q_load 25 _ ⟨(bd.add (j * 20)).block, (bd.add (j * 20)).off + 1, none⟩ (arrP (y.p)) ay Try.underlying25 rfl (info25p (y.p)) rfl rfl ?_; go_big_quiet_on
              simp only [Act.put, List.setIfInBounds_toArray, List.set_cons_zero, List.set_cons_succ]
              repeat (first | go_big_quiet_skip | (go_big_quiet_want; go_big_quiet_op; go_big_quiet_on))
              go_big_quiet_want; refine q_load 25 _ ⟨(ad.add (k * 20)).block, (ad.add (k * 20)).off + 1, none⟩ (arrP (v.p)) av Try.underlying25 rfl (info25p (v.p)) rfl rfl ?_; go_big_quiet_on
              simp only [Act.put, List.setIfInBounds_toArray, List.set_cons_zero, List.set_cons_succ]
              go_big_quiet_want; go_big_quiet_op; refine ⟨_, fun g => cls (hcy _), ?_⟩; go_big_quiet_on
              repeat (first | go_big_quiet_skip | (go_big_quiet_want; go_big_quiet_op; go_big_quiet_on))
              refine wpQuiet_nil ?_
              intro W5 hg5
              have Hj5 := Lib.hid (Hj4.out.trans hg5)
              clear ay av hg5 Hj4 hcy
              go_wp2
              go_roundw
              case rel => exact ⟨j + 1, _, by omega, by go_num, rfl, Lib.hid ⟨by rw [HStep.out]; simp, Hj5.out⟩⟩
              case measure => simp [intOf]; omega
          · obtain rfl : j = lc := by omega
            have hd : d = decide (v ∈ C) := by
              have := Hrel2.out.1
              rwa [List.take_of_length_le (by have := Hlc.out; omega)] at this
            have hav9 := Hav.out.grow (Hgr.out.trans (Hg7.out.trans hg9))
            have Hgo := Lib.hid (Hg7.out.trans hg9)
            have hone := fun W => one2_any v W
            have hf := HF2.out
            rw [← hd] at hf
            clear hd Hrel2 hg9
            generalize Ad.one v = o at *
            go_upto_region 17 with fail
            refine region_seq ?_
            repeat (first | go_big_quiet_skip | (go_big_quiet_want; go_big_quiet_op; go_big_quiet_on))
            go_big_quiet_want; refine q_load 39 _ (ad.add (k * 20)) (arrV (v)) hav9 Try.underlying39 rfl (info39v (v)) rfl rfl ?_; go_big_quiet_on
            simp only [Act.put, List.setIfInBounds_toArray, List.set_cons_zero, List.set_cons_succ]
            go_big_quiet_want; go_big_quiet_op; refine ⟨_, fun g => cls (hone _), ?_⟩; go_big_quiet_on
            repeat (first | go_big_quiet_skip | (go_big_quiet_want; go_big_quiet_op; go_big_quiet_on))
            refine wpQuiet_nil ?_
            intro W4 hg4
            have k0 : W4.cell? (ad.add (k * 20)) = some (.int .u32 v.as) := by
              have := (hav9.grow hg4).one 0 (arrV_0 v)
              rwa [Addr.add_zero'] at this
            have Hgo4 := Lib.hid (Hgo.out.trans hg4)
            clear hav9 hg4 Hgo hone HF2
            rcases hf with ⟨rfl, rfl, ⟨h0, rfl | rfl⟩ | ⟨h0, rfl⟩⟩ | ⟨rfl, rfl⟩
            all_goals
              try rw [h0] at k0
              try have hne0 : (v.as != 0) = true := by simp [h0]
              go_wp2
              go_roundw
              case rel => exact ⟨k + 1, by omega, by go_num, Lib.hid ⟨Hgr.out.trans Hgo4.out, HT.out.grow Hgo4.out⟩⟩
              case measure => simp [intOf]; omega
      · obtain rfl : k = n := by omega
        have hlenn := fun W (h : G wr W) => len_any base bt X W (HT.out.grow h)
        have hx3 : (X.length : Int) ≤ k := by omega
        generalize X.length = xl at *
        go_upto_region 20 with fail
        refine region_seq ?_
        repeat (first | go_big_quiet_skip | (go_big_quiet_want; go_big_quiet_op; go_big_quiet_on))
        go_big_quiet_want; go_big_quiet_op; refine ⟨_, fun g => cls_same (hlenn _ (G.of wr g)), ?_⟩; go_big_quiet_on
        repeat (first | go_big_quiet_skip | (go_big_quiet_want; go_big_quiet_op; go_big_quiet_on))
        refine wpQuiet_nil ?_
        intro W4 hg4
        have Hf := Lib.hid (Hgr.out.trans hg4)
        clear hg4 hlenn HT Hgr
        go_wp2
        go_ret
        exact ⟨rfl, Hf.out⟩
end Go.Proofs.Ytedgbmibgddnkaa

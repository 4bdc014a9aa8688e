/- Texts of the proof, in their order: Ckp, Ckq, Ckr, Cks, Ckt, Is1, Nm1, Nm2, Bg1, Ob1. -/
import Derived.Test.YteddjcpaeoceeaaGreatDoorM5
import Derived.Test.YteddjcpaeoceeaaGreatDoorM4
import Derived.Test.YteddjcpaeoceeaaGreatDoorM3
set_option linter.unusedVariables false
set_option linter.unusedSimpArgs false
namespace Go.Proofs.YteddjcpaeoceeaaGreatDoor.Cm
open Go Go.Sx Go.Sx.Chunk
set_option linter.unusedVariables false
set_option maxRecDepth 100000
set_option linter.unusedSimpArgs false
variable {TA : Addr} {L : List (Sc.Tk × Nat)}
set_option maxHeartbeats 8000000 in
theorem variableC (c : Nat) (s : CS) (x : Ad) (hg : GD s) (hw : wt s + 4 ≤ 1000000000000) (hda : 0 ≤ s.data ∧ s.data ≤ 32000) (hx : OkX TA L s x) : FnC Tryz.prog 111 [cP c] (cmH c s x) [tkB TA L, spaceV] (fun _ => .tuple #[]) (fun y : Ad => cmH c (mVariable s) y) (fun y => OkX TA L (mVariable s) y) := by
  have h1 := nameC c s x hx
  have e1 := ex_name s
  rw [variable_eq]
  dsimp only
  generalize mHere s = pl at *
  generalize mName s = a at *
  obtain ⟨an, s1⟩ := a
  dsimp only at *
  have g1 := e1.dx.g hg
  have w1 := e1.w
  have da1 := e1.da
  have h2 := fun y hy => errDefC (TA := TA) (L := L) c s1 y an pl ⟨0, s1.data, 1, false⟩ (by have := wt_ents (Int.le_refl (wt s1)); omega) (by have := wt_begs (Int.le_refl (wt s1)); omega) (g1.bs (by omega)) hy
  have d2 := e1.dx.tr (k := 1) (dx_define an pl ⟨0, s1.data, 1, false⟩ s1)
  have da2 := define_data an pl ⟨0, s1.data, 1, false⟩ s1
  generalize mDefine an pl ⟨0, s1.data, 1, false⟩ s1 = s2 at *
  have w2 := d2.w
  have g2 := d2.g hg
  by_cases hb : mSees [91] s2 = true
  · simp only [if_pos hb]
    have h3 := fun y hy => yesC (TA := TA) (L := L) c s2 y [91] hy hb
    have e3 := ex_sees hb
    have da3 : (mTail s2).data = s2.data := rfl
    generalize mTail s2 = s3 at *
    have w3 := e3.w
    have h4 := fun y hy => numberC (TA := TA) (L := L) c s3 y hy
    have e4 := e3.tr (k := -100) (ex_number s3)
    have hnum := fun h => (ex_num (s := s3) h).2.2
    have hnm := (e3.dx.g g2).nm
    generalize hn3 : mHere s3 = p3 at *
    by_cases hen : (mNumber s3).2.e ≠ 0
    · simp only [if_pos hen]
      generalize mNumber s3 = b at *
      obtain ⟨n, s4⟩ := b
      dsimp only at *
      try unfold cmH csC at h1
      try unfold cmH at h1
      try unfold cP at h1
      try unfold bP at h1
      try unfold tP at h1
      try unfold inG at h1
      try unfold thG at h1
      try unfold clo at h1
      try unfold cmH csC at h2
      try unfold cmH at h2
      try unfold cP at h2
      try unfold bP at h2
      try unfold tP at h2
      try unfold inG at h2
      try unfold thG at h2
      try unfold clo at h2
      try unfold cmH csC at h3
      try unfold cmH at h3
      try unfold cP at h3
      try unfold bP at h3
      try unfold tP at h3
      try unfold inG at h3
      try unfold thG at h3
      try unfold clo at h3
      try unfold cmH csC at h4
      try unfold cmH at h4
      try unfold cP at h4
      try unfold bP at h4
      try unfold tP at h4
      try unfold inG at h4
      try unfold thG at h4
      try unfold clo at h4
      try unfold cmH csC at ⊢
      try unfold cmH at ⊢
      try unfold cP at ⊢
      try unfold bP at ⊢
      try unfold tP at ⊢
      try unfold inG at ⊢
      try unfold thG at ⊢
      try unfold clo at ⊢
      refine fn_intro Tryz.func111 Tryz.ntmps111 rfl rfl rfl (fun w0 => ?_)
      try simp only [List.cons_append, List.nil_append, List.append_nil]
      refine rr ?_
      refine cl (h1) ?_
      intro y hy
      try simp only [List.cons_append, List.nil_append, List.append_nil]
      refine rr ?_
      intro b4 _
      refine rr ?_
      refine cl (h2 y hy) ?_
      intro z hz
      try simp only [List.cons_append, List.nil_append, List.append_nil]
      refine rr ?_
      refine cl (h3 z hz) ?_
      intro y hy
      try simp only [List.cons_append, List.nil_append, List.append_nil]
      refine rr ?_
      refine cl (h4 y hy) ?_
      intro z hz
      try simp only [List.cons_append, List.nil_append, List.append_nil]
      refine rr ?_
      exact en z hz
    · simp only [if_neg hen]
      have hn32 : (mNumber s3).1 ≤ 32767 ∧ 0 ≤ (mNumber s3).1 := by
        have hx2 := ex_num hen
        rw [hx2.2.2]
        unfold mNum
        cases ht : s3.toks with
        | nil => exact absurd ht (num_ne hx2.2.1)
        | cons t r => exact ⟨(hnm t (by rw [ht]; simp)).2, (hnm t (by rw [ht]; simp)).1⟩
      generalize mNumber s3 = b at *
      obtain ⟨n, s4⟩ := b
      dsimp only at *
      have da4 := e4.da
      have w4 := e4.w
      have g4 := e4.dx.g g2
      have hen2 : s4.e = 0 := by simpa using hen
      by_cases hr : n < 1 ∨ n > 2000
      · simp only [if_pos hr]
        have h5 := fun y => stopC (TA := TA) (L := L) c s4 y 3 p3
        generalize mStop 3 p3 s4 = s5 at *
        try unfold cmH csC at h1
        try unfold cmH at h1
        try unfold cP at h1
        try unfold bP at h1
        try unfold tP at h1
        try unfold inG at h1
        try unfold thG at h1
        try unfold clo at h1
        try unfold cmH csC at h2
        try unfold cmH at h2
        try unfold cP at h2
        try unfold bP at h2
        try unfold tP at h2
        try unfold inG at h2
        try unfold thG at h2
        try unfold clo at h2
        try unfold cmH csC at h3
        try unfold cmH at h3
        try unfold cP at h3
        try unfold bP at h3
        try unfold tP at h3
        try unfold inG at h3
        try unfold thG at h3
        try unfold clo at h3
        try unfold cmH csC at h4
        try unfold cmH at h4
        try unfold cP at h4
        try unfold bP at h4
        try unfold tP at h4
        try unfold inG at h4
        try unfold thG at h4
        try unfold clo at h4
        try unfold cmH csC at h5
        try unfold cmH at h5
        try unfold cP at h5
        try unfold bP at h5
        try unfold tP at h5
        try unfold inG at h5
        try unfold thG at h5
        try unfold clo at h5
        try unfold cmH csC at ⊢
        try unfold cmH at ⊢
        try unfold cP at ⊢
        try unfold bP at ⊢
        try unfold tP at ⊢
        try unfold inG at ⊢
        try unfold thG at ⊢
        try unfold clo at ⊢
        by_cases hn1 : n < 1
        all_goals
          refine fn_intro Tryz.func111 Tryz.ntmps111 rfl rfl rfl (fun w0 => ?_)
          try simp only [List.cons_append, List.nil_append, List.append_nil]
          refine rr ?_
          refine cl (h1) ?_
          intro y hy
          try simp only [List.cons_append, List.nil_append, List.append_nil]
          refine rr ?_
          intro b4 _
          refine rr ?_
          refine cl (h2 y hy) ?_
          intro z hz
          try simp only [List.cons_append, List.nil_append, List.append_nil]
          refine rr ?_
          refine cl (h3 z hz) ?_
          intro y hy
          try simp only [List.cons_append, List.nil_append, List.append_nil]
          refine rr ?_
          refine cl (h4 y hy) ?_
          intro z hz
          try simp only [List.cons_append, List.nil_append, List.append_nil]
          refine rr ?_
          refine cl (h5 z) ?_
          intro y hy
          try simp only [List.cons_append, List.nil_append, List.append_nil]
          refine rr ?_
          exact en y hy
      · simp only [if_neg hr]
        by_cases hl : s4.data + n > 32000
        · simp only [if_pos hl]
          have h5 := fun y => stopC (TA := TA) (L := L) c s4 y 4 p3
          generalize mStop 4 p3 s4 = s5 at *
          try unfold cmH csC at h1
          try unfold cmH at h1
          try unfold cP at h1
          try unfold bP at h1
          try unfold tP at h1
          try unfold inG at h1
          try unfold thG at h1
          try unfold clo at h1
          try unfold cmH csC at h2
          try unfold cmH at h2
          try unfold cP at h2
          try unfold bP at h2
          try unfold tP at h2
          try unfold inG at h2
          try unfold thG at h2
          try unfold clo at h2
          try unfold cmH csC at h3
          try unfold cmH at h3
          try unfold cP at h3
          try unfold bP at h3
          try unfold tP at h3
          try unfold inG at h3
          try unfold thG at h3
          try unfold clo at h3
          try unfold cmH csC at h4
          try unfold cmH at h4
          try unfold cP at h4
          try unfold bP at h4
          try unfold tP at h4
          try unfold inG at h4
          try unfold thG at h4
          try unfold clo at h4
          try unfold cmH csC at h5
          try unfold cmH at h5
          try unfold cP at h5
          try unfold bP at h5
          try unfold tP at h5
          try unfold inG at h5
          try unfold thG at h5
          try unfold clo at h5
          try unfold cmH csC at ⊢
          try unfold cmH at ⊢
          try unfold cP at ⊢
          try unfold bP at ⊢
          try unfold tP at ⊢
          try unfold inG at ⊢
          try unfold thG at ⊢
          try unfold clo at ⊢
          refine fn_intro Tryz.func111 Tryz.ntmps111 rfl rfl rfl (fun w0 => ?_)
          try simp only [List.cons_append, List.nil_append, List.append_nil]
          refine rr ?_
          refine cl (h1) ?_
          intro y hy
          try simp only [List.cons_append, List.nil_append, List.append_nil]
          refine rr ?_
          intro b4 _
          refine rr ?_
          refine cl (h2 y hy) ?_
          intro z hz
          try simp only [List.cons_append, List.nil_append, List.append_nil]
          refine rr ?_
          refine cl (h3 z hz) ?_
          intro y hy
          try simp only [List.cons_append, List.nil_append, List.append_nil]
          refine rr ?_
          refine cl (h4 y hy) ?_
          intro z hz
          try simp only [List.cons_append, List.nil_append, List.append_nil]
          refine rr ?_
          refine cl (h5 z) ?_
          intro y hy
          try simp only [List.cons_append, List.nil_append, List.append_nil]
          refine rr ?_
          exact en y hy
        · simp only [if_neg hl]
          have h5 := fun y hy => redefineC (TA := TA) (L := L) c s4 y an ⟨1, s1.data, n, false⟩ g4 (by omega) hy
          have d5 := e4.dx.tr (k := -99) (dx_redefine an ⟨1, s1.data, n, false⟩ s4)
          have da5 := redefine_data an ⟨1, s1.data, n, false⟩ s4
          generalize mRedefine an ⟨1, s1.data, n, false⟩ s4 = s5 at *
          have h6 := fun y hy => mustC (TA := TA) (L := L) c s5 y [93] hy
          have da6 := (ex_must [93] s5).da
          generalize mMust [93] s5 = s6 at *
          have h7 := fun y hy => mustC (TA := TA) (L := L) c { s6 with data := s6.data + n } y [59] hy
          unfold mPay
          generalize mMust [59] { s6 with data := s6.data + n } = s7 at *
          try unfold cmH csC at h1
          try unfold cmH at h1
          try unfold cP at h1
          try unfold bP at h1
          try unfold tP at h1
          try unfold inG at h1
          try unfold thG at h1
          try unfold clo at h1
          try unfold cmH csC at h2
          try unfold cmH at h2
          try unfold cP at h2
          try unfold bP at h2
          try unfold tP at h2
          try unfold inG at h2
          try unfold thG at h2
          try unfold clo at h2
          try unfold cmH csC at h3
          try unfold cmH at h3
          try unfold cP at h3
          try unfold bP at h3
          try unfold tP at h3
          try unfold inG at h3
          try unfold thG at h3
          try unfold clo at h3
          try unfold cmH csC at h4
          try unfold cmH at h4
          try unfold cP at h4
          try unfold bP at h4
          try unfold tP at h4
          try unfold inG at h4
          try unfold thG at h4
          try unfold clo at h4
          try unfold cmH csC at h5
          try unfold cmH at h5
          try unfold cP at h5
          try unfold bP at h5
          try unfold tP at h5
          try unfold inG at h5
          try unfold thG at h5
          try unfold clo at h5
          try unfold cmH csC at h6
          try unfold cmH at h6
          try unfold cP at h6
          try unfold bP at h6
          try unfold tP at h6
          try unfold inG at h6
          try unfold thG at h6
          try unfold clo at h6
          try unfold cmH csC at h7
          try unfold cmH at h7
          try unfold cP at h7
          try unfold bP at h7
          try unfold tP at h7
          try unfold inG at h7
          try unfold thG at h7
          try unfold clo at h7
          try unfold cmH csC at ⊢
          try unfold cmH at ⊢
          try unfold cP at ⊢
          try unfold bP at ⊢
          try unfold tP at ⊢
          try unfold inG at ⊢
          try unfold thG at ⊢
          try unfold clo at ⊢
          refine fn_intro Tryz.func111 Tryz.ntmps111 rfl rfl rfl (fun w0 => ?_)
          try simp only [List.cons_append, List.nil_append, List.append_nil]
          refine rr ?_
          refine cl (h1) ?_
          intro y hy
          try simp only [List.cons_append, List.nil_append, List.append_nil]
          refine rr ?_
          intro b4 _
          refine rr ?_
          refine cl (h2 y hy) ?_
          intro z hz
          try simp only [List.cons_append, List.nil_append, List.append_nil]
          refine rr ?_
          refine cl (h3 z hz) ?_
          intro y hy
          try simp only [List.cons_append, List.nil_append, List.append_nil]
          refine rr ?_
          refine cl (h4 y hy) ?_
          intro z hz
          try simp only [List.cons_append, List.nil_append, List.append_nil]
          refine rr ?_
          refine cl (h5 z hz) ?_
          intro y hy
          try simp only [List.cons_append, List.nil_append, List.append_nil]
          refine rr ?_
          refine cl (h6 y hy) ?_
          intro z hz
          try simp only [List.cons_append, List.nil_append, List.append_nil]
          refine rr ?_
          refine dr [0, 1, 2, 3, 4, 5, 6, 7, 8, 9, 10, 11] [4, 6] [0, 7] ?_
          refine rr ?_
          refine rr ?_
          refine cl (h7 z (hz.same rfl rfl rfl)) ?_
          intro y hy
          try simp only [List.cons_append, List.nil_append, List.append_nil]
          refine rr ?_
          exact en y hy
  · simp only [if_neg hb]
    have h3 := fun y hy => noC (TA := TA) (L := L) c s2 y [91] hy hb
    by_cases hc : s2.e = 0 ∧ s2.data = 32000
    · simp only [if_pos hc]
      obtain ⟨he0, hd0⟩ := hc
      have h5 := fun y => stopC (TA := TA) (L := L) c s2 y 4 pl
      have da5 : (mStop 4 pl s2).data = s2.data := rfl
      generalize mStop 4 pl s2 = s5 at *
      have h7 := fun y hy => mustC (TA := TA) (L := L) c { s5 with data := s5.data + 1 } y [59] hy
      unfold mPay
      generalize mMust [59] { s5 with data := s5.data + 1 } = s7 at *
      try unfold cmH csC at h1
      try unfold cmH at h1
      try unfold cP at h1
      try unfold bP at h1
      try unfold tP at h1
      try unfold inG at h1
      try unfold thG at h1
      try unfold clo at h1
      try unfold cmH csC at h2
      try unfold cmH at h2
      try unfold cP at h2
      try unfold bP at h2
      try unfold tP at h2
      try unfold inG at h2
      try unfold thG at h2
      try unfold clo at h2
      try unfold cmH csC at h3
      try unfold cmH at h3
      try unfold cP at h3
      try unfold bP at h3
      try unfold tP at h3
      try unfold inG at h3
      try unfold thG at h3
      try unfold clo at h3
      try unfold cmH csC at h5
      try unfold cmH at h5
      try unfold cP at h5
      try unfold bP at h5
      try unfold tP at h5
      try unfold inG at h5
      try unfold thG at h5
      try unfold clo at h5
      try unfold cmH csC at h7
      try unfold cmH at h7
      try unfold cP at h7
      try unfold bP at h7
      try unfold tP at h7
      try unfold inG at h7
      try unfold thG at h7
      try unfold clo at h7
      try unfold cmH csC at ⊢
      try unfold cmH at ⊢
      try unfold cP at ⊢
      try unfold bP at ⊢
      try unfold tP at ⊢
      try unfold inG at ⊢
      try unfold thG at ⊢
      try unfold clo at ⊢
      refine fn_intro Tryz.func111 Tryz.ntmps111 rfl rfl rfl (fun w0 => ?_)
      try simp only [List.cons_append, List.nil_append, List.append_nil]
      refine rr ?_
      refine cl (h1) ?_
      intro y hy
      try simp only [List.cons_append, List.nil_append, List.append_nil]
      refine rr ?_
      intro b4 _
      refine rr ?_
      refine cl (h2 y hy) ?_
      intro z hz
      try simp only [List.cons_append, List.nil_append, List.append_nil]
      refine rr ?_
      refine cl (h3 z hz) ?_
      intro y hy
      try simp only [List.cons_append, List.nil_append, List.append_nil]
      refine rr ?_
      refine cl (h5 y) ?_
      intro z hz
      try simp only [List.cons_append, List.nil_append, List.append_nil]
      refine rr ?_
      refine dr [0, 1, 2, 3, 4, 5, 6, 7, 8, 9, 10, 11] [4, 6] [0, 7] ?_
      refine rr ?_
      refine rr ?_
      refine cl (h7 z (hz.same rfl rfl rfl)) ?_
      intro y hy
      try simp only [List.cons_append, List.nil_append, List.append_nil]
      refine rr ?_
      exact en y hy
    · simp only [if_neg hc]
      have h7 := fun y hy => mustC (TA := TA) (L := L) c { s2 with data := s2.data + 1 } y [59] hy
      unfold mPay
      generalize mMust [59] { s2 with data := s2.data + 1 } = s7 at *
      try unfold cmH csC at h1
      try unfold cmH at h1
      try unfold cP at h1
      try unfold bP at h1
      try unfold tP at h1
      try unfold inG at h1
      try unfold thG at h1
      try unfold clo at h1
      try unfold cmH csC at h2
      try unfold cmH at h2
      try unfold cP at h2
      try unfold bP at h2
      try unfold tP at h2
      try unfold inG at h2
      try unfold thG at h2
      try unfold clo at h2
      try unfold cmH csC at h3
      try unfold cmH at h3
      try unfold cP at h3
      try unfold bP at h3
      try unfold tP at h3
      try unfold inG at h3
      try unfold thG at h3
      try unfold clo at h3
      try unfold cmH csC at h7
      try unfold cmH at h7
      try unfold cP at h7
      try unfold bP at h7
      try unfold tP at h7
      try unfold inG at h7
      try unfold thG at h7
      try unfold clo at h7
      try unfold cmH csC at ⊢
      try unfold cmH at ⊢
      try unfold cP at ⊢
      try unfold bP at ⊢
      try unfold tP at ⊢
      try unfold inG at ⊢
      try unfold thG at ⊢
      try unfold clo at ⊢
      by_cases he0 : s2.e = 0
      · have hd0 : ¬ s2.data = 32000 := fun h => hc ⟨he0, h⟩
        refine fn_intro Tryz.func111 Tryz.ntmps111 rfl rfl rfl (fun w0 => ?_)
        try simp only [List.cons_append, List.nil_append, List.append_nil]
        refine rr ?_
        refine cl (h1) ?_
        intro y hy
        try simp only [List.cons_append, List.nil_append, List.append_nil]
        refine rr ?_
        intro b4 _
        refine rr ?_
        refine cl (h2 y hy) ?_
        intro z hz
        try simp only [List.cons_append, List.nil_append, List.append_nil]
        refine rr ?_
        refine cl (h3 z hz) ?_
        intro y hy
        try simp only [List.cons_append, List.nil_append, List.append_nil]
        refine rr ?_
        refine dr [0, 1, 2, 3, 4, 5, 6, 7, 8, 9, 10, 11] [4, 6] [0, 7] ?_
        refine rr ?_
        refine rr ?_
        refine cl (h7 y (hy.same rfl rfl rfl)) ?_
        intro z hz
        try simp only [List.cons_append, List.nil_append, List.append_nil]
        refine rr ?_
        exact en z hz
      · skip
        refine fn_intro Tryz.func111 Tryz.ntmps111 rfl rfl rfl (fun w0 => ?_)
        try simp only [List.cons_append, List.nil_append, List.append_nil]
        refine rr ?_
        refine cl (h1) ?_
        intro y hy
        try simp only [List.cons_append, List.nil_append, List.append_nil]
        refine rr ?_
        intro b4 _
        refine rr ?_
        refine cl (h2 y hy) ?_
        intro z hz
        try simp only [List.cons_append, List.nil_append, List.append_nil]
        refine rr ?_
        refine cl (h3 z hz) ?_
        intro y hy
        try simp only [List.cons_append, List.nil_append, List.append_nil]
        refine rr ?_
        refine dr [0, 1, 2, 3, 4, 5, 6, 7, 8, 9, 10, 11] [4, 6] [0, 7] ?_
        refine rr ?_
        refine rr ?_
        refine cl (h7 y (hy.same rfl rfl rfl)) ?_
        intro z hz
        try simp only [List.cons_append, List.nil_append, List.append_nil]
        refine rr ?_
        exact en z hz
end Go.Proofs.YteddjcpaeoceeaaGreatDoor.Cm
namespace Go.Proofs.YteddjcpaeoceeaaGreatDoor.Cm
open Go Go.Sx Go.Sx.Chunk
set_option linter.unusedVariables false
set_option maxRecDepth 100000
set_option linter.unusedSimpArgs false
variable {TA : Addr} {L : List (Sc.Tk × Nat)}
def DD (s : CS) : Prop := s.e = 0 → 0 ≤ s.data ∧ s.data ≤ 32000
theorem no_toks {w : List UInt8} {s : CS} (h : s.toks.length = 0) : mSees w s = false := by
  unfold mSees
  rw [List.length_eq_zero_iff.1 h]
set_option maxHeartbeats 8000000 in
theorem declsC (c N : Nat) (s : CS) (x : Ad) (hN : s.toks.length < N) (hg : GD s) (hw : wt s + 200 ≤ 1000000000000) (hd : DD s) (hx : OkX TA L s x) : FnC Tryz.prog 67 [cP c] (cmH c s x) [tkB TA L, spaceV] (fun _ => .tuple #[]) (fun y : Ad => cmH c (mDecls N s.toks.length s) y) (fun y => OkX TA L (mDecls N s.toks.length s) y) := by
  generalize hR : mDecls N s.toks.length s = R
  unfold cmH csC cP
  refine fn_intro Tryz.func67 Tryz.ntmps67 rfl rfl rfl (fun w0 => ?_)
  try simp only [List.cons_append, List.nil_append, List.append_nil]
  refine rr ?_
  refine lo [0] (fun z : Nat × CS × Ad => []) (fun z => [(0, blk c (csC z.2.1 z.2.2) 89), (1, row z.2.2.ca z.2.2.cc 140 5 z.2.1.code.length (insC z.2.1.code)), (2, row z.2.2.pa z.2.2.pc 103 3 z.2.1.pats.length (paC z.2.1.pats)), (3, row z.2.2.na z.2.2.nc 216 5 z.2.1.ents.length (enC z.2.1.ents)), (4, row z.2.2.ba z.2.2.bc 3 1 z.2.1.begs.length (natC z.2.1.begs)), (5, row z.2.2.ea z.2.2.ec 148 2 z.2.1.exps.length (syC z.2.1.exps)), (6, row z.2.2.ia z.2.2.ic 9 1 z.2.1.imps.length (strC z.2.1.imps))]) (fun z => OkX TA L z.2.1 z.2.2 ∧ z.2.1.toks.length ≤ z.1 ∧ z.2.1.toks.length < N ∧ GD z.2.1 ∧ wt z.2.1 + 200 ≤ 1000000000000 ∧ DD z.2.1 ∧ mDecls N z.1 z.2.1 = R) (fun z => z.2.1.toks.length) (s.toks.length, s, x) ⟨hx, Nat.le_refl _, hN, hg, hw, hd, hR⟩ ?_
  rintro ⟨m, q, xq⟩ ⟨hxq, hm, hqN, hqg, hqw, hqd, hqR⟩ K1 hK1
  dsimp only at hxq hm hqN hqg hqw hqd hqR ⊢
  unfold csC
  by_cases he : q.e = 0
  · cases m with
    | zero =>
      have hz : q.toks.length = 0 := by omega
      have n1 := noC (TA := TA) (L := L) c q xq [118, 97, 114] hxq (by rw [no_toks hz]; decide)
      have n2 := noC (TA := TA) (L := L) c q xq [101, 120, 116, 101, 114, 110, 97, 108] hxq (by rw [no_toks hz]; decide)
      have n3 := fun y hy => noC (TA := TA) (L := L) c q y [112, 114, 111, 99, 101, 100, 117, 114, 101] hy (by rw [no_toks hz]; decide)
      have n2 := fun y hy => noC (TA := TA) (L := L) c q y [101, 120, 116, 101, 114, 110, 97, 108] hy (by rw [no_toks hz]; decide)
      have hqR' : q = R := hqR
      subst hqR'
      try unfold cmH csC at n1
      try unfold cmH at n1
      try unfold cP at n1
      try unfold bP at n1
      try unfold tP at n1
      try unfold inG at n1
      try unfold thG at n1
      try unfold clo at n1
      try unfold cmH csC at n2
      try unfold cmH at n2
      try unfold cP at n2
      try unfold bP at n2
      try unfold tP at n2
      try unfold inG at n2
      try unfold thG at n2
      try unfold clo at n2
      try unfold cmH csC at n3
      try unfold cmH at n3
      try unfold cP at n3
      try unfold bP at n3
      try unfold tP at n3
      try unfold inG at n3
      try unfold thG at n3
      try unfold clo at n3
      refine rr ?_
      refine cl (n1) ?_
      intro y hy
      try simp only [List.cons_append, List.nil_append, List.append_nil]
      refine rr ?_
      refine cl (n2 y hy) ?_
      intro z hz
      try simp only [List.cons_append, List.nil_append, List.append_nil]
      refine rr ?_
      refine cl (n3 z hz) ?_
      intro y hy
      try simp only [List.cons_append, List.nil_append, List.append_nil]
      refine rr ?_
      exact en y hy
    | succ m =>
      unfold mDecls at hqR
      rw [if_pos he] at hqR
      have hdd := hqd he
      by_cases h1 : mSees [118, 97, 114] q = true
      · rw [if_pos h1] at hqR
        have n1 := yesC (TA := TA) (L := L) c q xq [118, 97, 114] hxq h1
        have e1 := ex_sees h1
        have l1 := tail_lt (sees_ne h1)
        have da1 : (mTail q).data = q.data := rfl
        generalize mTail q = q1 at *
        have w1 := e1.w
        have g1 := e1.dx.g hqg
        have n2 := fun y hy => variableC (TA := TA) (L := L) c q1 y g1 (by omega) (by omega) hy
        have d2 := e1.dx.tr (k := -97) (dx_variable q1)
        have l2 := (dx_variable q1).ln
        have hv : DD (mVariable q1) := fun h => variable_data (by omega) h
        generalize mVariable q1 = q2 at *
        have w2 := d2.w
        try unfold cmH csC at n1
        try unfold cmH at n1
        try unfold cP at n1
        try unfold bP at n1
        try unfold tP at n1
        try unfold inG at n1
        try unfold thG at n1
        try unfold clo at n1
        try unfold cmH csC at n2
        try unfold cmH at n2
        try unfold cP at n2
        try unfold bP at n2
        try unfold tP at n2
        try unfold inG at n2
        try unfold thG at n2
        try unfold clo at n2
        refine rr ?_
        refine cl (n1) ?_
        intro y hy
        try simp only [List.cons_append, List.nil_append, List.append_nil]
        refine rr ?_
        refine cl (n2 y hy) ?_
        intro z hz
        try simp only [List.cons_append, List.nil_append, List.append_nil]
        refine rr ?_
        exact ro hK1 (m, q2, z) ⟨hz, by dsimp only; omega, by dsimp only; omega, d2.g hqg, by dsimp only; omega, hv, hqR⟩
      · rw [if_neg h1] at hqR
        have n1 := noC (TA := TA) (L := L) c q xq [118, 97, 114] hxq h1
        by_cases h2 : mSees [101, 120, 116, 101, 114, 110, 97, 108] q = true
        · rw [if_pos h2] at hqR
          have n2 := fun y hy => yesC (TA := TA) (L := L) c q y [101, 120, 116, 101, 114, 110, 97, 108] hy h2
          have e1 := ex_sees h2
          have l1 := tail_lt (sees_ne h2)
          have da1 : (mTail q).data = q.data := rfl
          generalize mTail q = q1 at *
          have w1 := e1.w
          have g1 := e1.dx.g hqg
          have n3 := fun y hy => importedC (TA := TA) (L := L) c q1 y g1 (by omega) hy
          have d2 := e1.dx.tr (k := -98) (dx_imported q1)
          have l2 := (dx_imported q1).ln
          have hv : DD (mImported q1) := fun h => by rw [imported_data]; omega
          generalize mImported q1 = q2 at *
          have w2 := d2.w
          try unfold cmH csC at n1
          try unfold cmH at n1
          try unfold cP at n1
          try unfold bP at n1
          try unfold tP at n1
          try unfold inG at n1
          try unfold thG at n1
          try unfold clo at n1
          try unfold cmH csC at n2
          try unfold cmH at n2
          try unfold cP at n2
          try unfold bP at n2
          try unfold tP at n2
          try unfold inG at n2
          try unfold thG at n2
          try unfold clo at n2
          try unfold cmH csC at n3
          try unfold cmH at n3
          try unfold cP at n3
          try unfold bP at n3
          try unfold tP at n3
          try unfold inG at n3
          try unfold thG at n3
          try unfold clo at n3
          refine rr ?_
          refine cl (n1) ?_
          intro u hu
          try simp only [List.cons_append, List.nil_append, List.append_nil]
          refine rr ?_
          refine cl (n2 u hu) ?_
          intro y hy
          try simp only [List.cons_append, List.nil_append, List.append_nil]
          refine rr ?_
          refine cl (n3 y hy) ?_
          intro z hz
          try simp only [List.cons_append, List.nil_append, List.append_nil]
          refine rr ?_
          exact ro hK1 (m, q2, z) ⟨hz, by dsimp only; omega, by dsimp only; omega, d2.g hqg, by dsimp only; omega, hv, hqR⟩
        · rw [if_neg h2] at hqR
          have n2 := fun y hy => noC (TA := TA) (L := L) c q y [101, 120, 116, 101, 114, 110, 97, 108] hy h2
          by_cases h3 : mSees [112, 114, 111, 99, 101, 100, 117, 114, 101] q = true
          · rw [if_pos h3] at hqR
            have n3 := fun y hy => yesC (TA := TA) (L := L) c q y [112, 114, 111, 99, 101, 100, 117, 114, 101] hy h3
            have e1 := ex_sees h3
            have l1 := tail_lt (sees_ne h3)
            have da1 : (mTail q).data = q.data := rfl
            generalize mTail q = q1 at *
            have w1 := e1.w
            have g1 := e1.dx.g hqg
            have n4 := fun y hy => routineC (TA := TA) (L := L) c N q1 y (by omega) g1 (by omega) hy
            obtain ⟨d2, w2, l2⟩ := dx_routine N q1 g1
            have hv : DD (mRoutine N q1) := fun h => by rw [routine_data]; omega
            generalize mRoutine N q1 = q2 at *
            try unfold cmH csC at n1
            try unfold cmH at n1
            try unfold cP at n1
            try unfold bP at n1
            try unfold tP at n1
            try unfold inG at n1
            try unfold thG at n1
            try unfold clo at n1
            try unfold cmH csC at n2
            try unfold cmH at n2
            try unfold cP at n2
            try unfold bP at n2
            try unfold tP at n2
            try unfold inG at n2
            try unfold thG at n2
            try unfold clo at n2
            try unfold cmH csC at n3
            try unfold cmH at n3
            try unfold cP at n3
            try unfold bP at n3
            try unfold tP at n3
            try unfold inG at n3
            try unfold thG at n3
            try unfold clo at n3
            try unfold cmH csC at n4
            try unfold cmH at n4
            try unfold cP at n4
            try unfold bP at n4
            try unfold tP at n4
            try unfold inG at n4
            try unfold thG at n4
            try unfold clo at n4
            refine rr ?_
            refine cl (n1) ?_
            intro u hu
            try simp only [List.cons_append, List.nil_append, List.append_nil]
            refine rr ?_
            refine cl (n2 u hu) ?_
            intro y hy
            try simp only [List.cons_append, List.nil_append, List.append_nil]
            refine rr ?_
            refine cl (n3 y hy) ?_
            intro u hu
            try simp only [List.cons_append, List.nil_append, List.append_nil]
            refine rr ?_
            refine cl (n4 u hu) ?_
            intro z hz
            try simp only [List.cons_append, List.nil_append, List.append_nil]
            refine rr ?_
            exact ro hK1 (m, q2, z) ⟨hz, by dsimp only; omega, by dsimp only; omega, d2, by dsimp only; omega, hv, hqR⟩
          · rw [if_neg h3] at hqR
            have n3 := fun y hy => noC (TA := TA) (L := L) c q y [112, 114, 111, 99, 101, 100, 117, 114, 101] hy h3
            subst hqR
            try unfold cmH csC at n1
            try unfold cmH at n1
            try unfold cP at n1
            try unfold bP at n1
            try unfold tP at n1
            try unfold inG at n1
            try unfold thG at n1
            try unfold clo at n1
            try unfold cmH csC at n2
            try unfold cmH at n2
            try unfold cP at n2
            try unfold bP at n2
            try unfold tP at n2
            try unfold inG at n2
            try unfold thG at n2
            try unfold clo at n2
            try unfold cmH csC at n3
            try unfold cmH at n3
            try unfold cP at n3
            try unfold bP at n3
            try unfold tP at n3
            try unfold inG at n3
            try unfold thG at n3
            try unfold clo at n3
            refine rr ?_
            refine cl (n1) ?_
            intro u hu
            try simp only [List.cons_append, List.nil_append, List.append_nil]
            refine rr ?_
            refine cl (n2 u hu) ?_
            intro y hy
            try simp only [List.cons_append, List.nil_append, List.append_nil]
            refine rr ?_
            refine cl (n3 y hy) ?_
            intro u hu
            try simp only [List.cons_append, List.nil_append, List.append_nil]
            refine rr ?_
            exact en u hu
  · have hqR' : q = R := by
      cases m with
      | zero => exact hqR
      | succ m => unfold mDecls at hqR; rw [if_neg he] at hqR; exact hqR
    subst hqR'
    refine rr ?_
    exact en xq hxq
end Go.Proofs.YteddjcpaeoceeaaGreatDoor.Cm
namespace Go.Proofs.YteddjcpaeoceeaaGreatDoor.Cm
open Go Go.Sx Go.Sx.Chunk
set_option linter.unusedVariables false
set_option maxRecDepth 100000
set_option linter.unusedSimpArgs false
variable {TA : Addr} {L : List (Sc.Tk × Nat)}
theorem dx_named (n : ByteArray) (s : CS) : Dx 0 s { s with name := n } := ⟨fun h => ⟨h.tk, h.bg, h.nm, h.so⟩, by simp only [wt]; omega, Nat.le_refl _⟩
/-- The end of a text. -/
def mLast (s5 : CS) : CS :=
  let s6 := mMust [46] (mMust [101, 110, 100] s5)
  if s6.e = 0 ∧ s6.toks ≠ [] then mStop 2 (mHere s6) s6 else s6
/-- What begins, and ends, a program. -/
def mBody (N : Nat) (begin_ : Int) (s4 : CS) : CS := mPut ⟨20, 0, 0, 0, 0⟩ (mStmts N (mMark ⟨10, 29, 0, 0, 0⟩ 4 0 (mLand begin_ (mMust [98, 101, 103, 105, 110] s4))))
def mHead (s1 : CS) : CS := mOpen (mMust [59] { (mName s1).2 with name := Sc.bs (mName s1).1 })
theorem program_eq (N : Nat) (s : CS) : mProgram N s = if mSees [112, 114, 111, 103, 114, 97, 109] s = true
    then mLast (mBody N ((mHead (mTail s)).code.length : Int) (mDecls N (mJump ⟨17, 0, 0, 0, 0⟩ (mHead (mTail s))).toks.length (mJump ⟨17, 0, 0, 0, 0⟩ (mHead (mTail s)))))
    else mLast (mDecls N (mHead (mMust [109, 111, 100, 117, 108, 101] s)).toks.length (mHead (mMust [109, 111, 100, 117, 108, 101] s))) := by
  unfold mProgram
  dsimp only
  by_cases h : mSees [112, 114, 111, 103, 114, 97, 109] s = true
  · simp only [if_pos h]; rfl
  · simp only [if_neg h]; rfl
theorem dx_head (s1 : CS) : Dx 1 s1 (mHead s1) := (((ex_name s1).dx.tr (k := 0) (dx_named _ _)).tr (k := 0) (ex_must _ _).dx).tr (dx_open _)
theorem head_data (s1 : CS) : (mHead s1).data = s1.data := by
  unfold mHead
  show (mMust [59] _).data = _
  rw [must_data]
  exact (ex_name s1).da
set_option maxHeartbeats 16000000 in
theorem programC (c N : Nat) (s : CS) (x : Ad) (hN : s.toks.length < N) (hg : GD s) (hw : wt s + 400 ≤ 1000000000000) (hd : 0 ≤ s.data ∧ s.data ≤ 32000) (hx : OkX TA L s x) : FnC Tryz.prog 35 [cP c] (cmH c s x) [tkB TA L, spaceV] (fun _ => .tuple #[]) (fun y : Ad => cmH c (mProgram N s) y) (fun y => OkX TA L (mProgram N s) y) := by
  rw [program_eq]
  by_cases hm : mSees [112, 114, 111, 103, 114, 97, 109] s = true
  · rw [if_pos hm]
    have h1 := yesC (TA := TA) (L := L) c s x [112, 114, 111, 103, 114, 97, 109] hx hm
    have d1 := (ex_sees hm).dx
    have da1 : (mTail s).data = s.data := rfl
    generalize mTail s = s1 at *
    have w1 := d1.w
    have hp1 := d1.ln
    have h2 := fun y hy => nameC (TA := TA) (L := L) c s1 y hy
    have d2 := d1.tr (k := -100) (ex_name s1).dx
    have d3 := d1.tr (k := -99) (dx_head s1)
    have da3 := head_data s1
    unfold mHead at *
    generalize mName s1 = a at *
    obtain ⟨an, s2⟩ := a
    dsimp only at *
    have h3 := fun y hy => mustC (TA := TA) (L := L) c { s2 with name := Sc.bs an } y [59] hy
    have d4 := (d2.tr (k := -100) (dx_named (Sc.bs an) s2)).tr (k := -100) (ex_must [59] _).dx
    generalize mMust [59] { s2 with name := Sc.bs an } = s3 at *
    have w4 := d4.w
    have h4 := fun y hy => openC (TA := TA) (L := L) c s3 y (by have := wt_begs (Int.le_refl (wt s3)); omega) hy
    generalize mOpen s3 = s4 at *
    have w5 := d3.w
    have h5 := fun y hy => jumpC (TA := TA) (L := L) c s4 y ⟨17, 0, 0, 0, 0⟩ (by have := wt_code (Int.le_refl (wt s4)); omega) (by have := wt_pats (Int.le_refl (wt s4)); omega) hy
    have d5 := d3.tr (k := -97) (ex_jump ⟨17, 0, 0, 0, 0⟩ s4).dx
    have da5 := (ex_jump ⟨17, 0, 0, 0, 0⟩ s4).da
    generalize mJump ⟨17, 0, 0, 0, 0⟩ s4 = s5 at *
    have w6 := d5.w
    have l5 := d5.ln
    have g5 := d5.g hg
    have h6 := fun y hy => declsC (TA := TA) (L := L) c N s5 y (by omega) g5 (by omega) (fun _ => by omega) hy
    obtain ⟨g6, w7, l6⟩ := dx_decls N s5.toks.length s5 g5
    generalize mDecls N s5.toks.length s5 = s6 at *
    unfold mBody
    have h7 := fun y hy => mustC (TA := TA) (L := L) c s6 y [98, 101, 103, 105, 110] hy
    have d7 := (ex_must [98, 101, 103, 105, 110] s6).dx
    generalize mMust [98, 101, 103, 105, 110] s6 = s7 at *
    have w8 := d7.w
    have h8 := fun y hy => landC (TA := TA) (L := L) c s7 y (s4.code.length : Int) (by have := wt_code (Int.le_refl (wt s4)); omega) (by have := wt_code (Int.le_refl (wt s7)); omega) hy
    have d8 := d7.tr (k := 0) (ex_land (s4.code.length : Int) s7).dx
    generalize mLand (s4.code.length : Int) s7 = s8 at *
    have w9 := d8.w
    have h9 := fun y hy => markC (TA := TA) (L := L) c s8 y ⟨10, 29, 0, 0, 0⟩ 4 0 (by have := wt_code (Int.le_refl (wt s8)); omega) (by have := wt_pats (Int.le_refl (wt s8)); omega) hy
    have d9 := d8.tr (k := 2) (ex_mark ⟨10, 29, 0, 0, 0⟩ 4 0 s8).dx
    generalize mMark ⟨10, 29, 0, 0, 0⟩ 4 0 s8 = s9 at *
    have w10 := d9.w
    have l9 := d9.ln
    have g9 := d9.g g6
    have hA := fun y hy => stmtsN (TA := TA) (L := L) c N s9 (by omega) g9.gd (by omega) y hy
    have dA := d9.tr (k := 2) (ex_stmts N s9).dx
    generalize mStmts N s9 = sA at *
    have wA := dA.w
    have hB := fun y hy => putC (TA := TA) (L := L) c sA y ⟨20, 0, 0, 0, 0⟩ (by have := wt_code (Int.le_refl (wt sA)); omega) hy
    generalize mPut ⟨20, 0, 0, 0, 0⟩ sA = sB at *
    unfold mLast
    dsimp only
    have hC := fun y hy => mustC (TA := TA) (L := L) c sB y [101, 110, 100] hy
    generalize mMust [101, 110, 100] sB = sC at *
    have hD := fun y hy => mustC (TA := TA) (L := L) c sC y [46] hy
    generalize mMust [46] sC = sD at *
    by_cases hc : sD.e = 0 ∧ sD.toks ≠ []
    · rw [if_pos hc]
      obtain ⟨he, ht⟩ := hc
      have htl : ¬ (sD.toks.length : Int) ≤ 0 := by
        have := List.length_pos_iff.2 ht; omega
      have hE := fun y hy => hereC (TA := TA) (L := L) c sD y hy
      have hF := fun y => stopC (TA := TA) (L := L) c sD y 2 (mHere sD)
      generalize mStop 2 (mHere sD) sD = sE at *
      generalize mHere sD = pE at *
      try unfold cmH csC at h1
      try unfold cmH at h1
      try unfold cP at h1
      try unfold bP at h1
      try unfold tP at h1
      try unfold inG at h1
      try unfold thG at h1
      try unfold clo at h1
      try unfold cmH csC at h2
      try unfold cmH at h2
      try unfold cP at h2
      try unfold bP at h2
      try unfold tP at h2
      try unfold inG at h2
      try unfold thG at h2
      try unfold clo at h2
      try unfold cmH csC at h3
      try unfold cmH at h3
      try unfold cP at h3
      try unfold bP at h3
      try unfold tP at h3
      try unfold inG at h3
      try unfold thG at h3
      try unfold clo at h3
      try unfold cmH csC at h4
      try unfold cmH at h4
      try unfold cP at h4
      try unfold bP at h4
      try unfold tP at h4
      try unfold inG at h4
      try unfold thG at h4
      try unfold clo at h4
      try unfold cmH csC at h5
      try unfold cmH at h5
      try unfold cP at h5
      try unfold bP at h5
      try unfold tP at h5
      try unfold inG at h5
      try unfold thG at h5
      try unfold clo at h5
      try unfold cmH csC at h6
      try unfold cmH at h6
      try unfold cP at h6
      try unfold bP at h6
      try unfold tP at h6
      try unfold inG at h6
      try unfold thG at h6
      try unfold clo at h6
      try unfold cmH csC at h7
      try unfold cmH at h7
      try unfold cP at h7
      try unfold bP at h7
      try unfold tP at h7
      try unfold inG at h7
      try unfold thG at h7
      try unfold clo at h7
      try unfold cmH csC at h8
      try unfold cmH at h8
      try unfold cP at h8
      try unfold bP at h8
      try unfold tP at h8
      try unfold inG at h8
      try unfold thG at h8
      try unfold clo at h8
      try unfold cmH csC at h9
      try unfold cmH at h9
      try unfold cP at h9
      try unfold bP at h9
      try unfold tP at h9
      try unfold inG at h9
      try unfold thG at h9
      try unfold clo at h9
      try unfold cmH csC at hA
      try unfold cmH at hA
      try unfold cP at hA
      try unfold bP at hA
      try unfold tP at hA
      try unfold inG at hA
      try unfold thG at hA
      try unfold clo at hA
      try unfold cmH csC at hB
      try unfold cmH at hB
      try unfold cP at hB
      try unfold bP at hB
      try unfold tP at hB
      try unfold inG at hB
      try unfold thG at hB
      try unfold clo at hB
      try unfold cmH csC at hC
      try unfold cmH at hC
      try unfold cP at hC
      try unfold bP at hC
      try unfold tP at hC
      try unfold inG at hC
      try unfold thG at hC
      try unfold clo at hC
      try unfold cmH csC at hD
      try unfold cmH at hD
      try unfold cP at hD
      try unfold bP at hD
      try unfold tP at hD
      try unfold inG at hD
      try unfold thG at hD
      try unfold clo at hD
      try unfold cmH csC at hE
      try unfold cmH at hE
      try unfold cP at hE
      try unfold bP at hE
      try unfold tP at hE
      try unfold inG at hE
      try unfold thG at hE
      try unfold clo at hE
      try unfold cmH csC at hF
      try unfold cmH at hF
      try unfold cP at hF
      try unfold bP at hF
      try unfold tP at hF
      try unfold inG at hF
      try unfold thG at hF
      try unfold clo at hF
      try unfold cmH csC at ⊢
      try unfold cmH at ⊢
      try unfold cP at ⊢
      try unfold bP at ⊢
      try unfold tP at ⊢
      try unfold inG at ⊢
      try unfold thG at ⊢
      try unfold clo at ⊢
      refine fn_intro Tryz.func35 Tryz.ntmps35 rfl rfl rfl (fun w0 => ?_)
      try simp only [List.cons_append, List.nil_append, List.append_nil]
      refine rr ?_
      refine cl (h1) ?_
      intro y hy
      try simp only [List.cons_append, List.nil_append, List.append_nil]
      refine rr ?_
      refine cl (h2 y hy) ?_
      intro z hz
      try simp only [List.cons_append, List.nil_append, List.append_nil]
      refine rr ?_
      refine cl (h3 z (hz.same rfl rfl rfl)) ?_
      intro y hy
      try simp only [List.cons_append, List.nil_append, List.append_nil]
      refine rr ?_
      refine cl (h4 y hy) ?_
      intro z hz
      try simp only [List.cons_append, List.nil_append, List.append_nil]
      refine rr ?_
      refine cl (h5 z hz) ?_
      intro y hy
      try simp only [List.cons_append, List.nil_append, List.append_nil]
      refine rr ?_
      refine cl (h6 y hy) ?_
      intro z hz
      try simp only [List.cons_append, List.nil_append, List.append_nil]
      refine rr ?_
      refine cl (h7 z hz) ?_
      intro y hy
      try simp only [List.cons_append, List.nil_append, List.append_nil]
      refine rr ?_
      refine cl (h8 y hy) ?_
      intro z hz
      try simp only [List.cons_append, List.nil_append, List.append_nil]
      refine rr ?_
      refine cl (h9 z hz) ?_
      intro y hy
      try simp only [List.cons_append, List.nil_append, List.append_nil]
      refine rr ?_
      refine cl (hA y hy) ?_
      intro z hz
      try simp only [List.cons_append, List.nil_append, List.append_nil]
      refine rr ?_
      refine cl (hB z hz) ?_
      intro y hy
      try simp only [List.cons_append, List.nil_append, List.append_nil]
      refine rr ?_
      refine cl (hC y hy) ?_
      intro z hz
      try simp only [List.cons_append, List.nil_append, List.append_nil]
      refine rr ?_
      refine cl (hD z hz) ?_
      intro y hy
      try simp only [List.cons_append, List.nil_append, List.append_nil]
      refine rr ?_
      refine cl (hE y hy) ?_
      intro _ hz
      try simp only [List.cons_append, List.nil_append, List.append_nil]
      cases hz
      refine rr ?_
      refine cl (hF y) ?_
      intro z hz
      try simp only [List.cons_append, List.nil_append, List.append_nil]
      refine rr ?_
      exact en z hz
    · rw [if_neg hc]
      try unfold cmH csC at h1
      try unfold cmH at h1
      try unfold cP at h1
      try unfold bP at h1
      try unfold tP at h1
      try unfold inG at h1
      try unfold thG at h1
      try unfold clo at h1
      try unfold cmH csC at h2
      try unfold cmH at h2
      try unfold cP at h2
      try unfold bP at h2
      try unfold tP at h2
      try unfold inG at h2
      try unfold thG at h2
      try unfold clo at h2
      try unfold cmH csC at h3
      try unfold cmH at h3
      try unfold cP at h3
      try unfold bP at h3
      try unfold tP at h3
      try unfold inG at h3
      try unfold thG at h3
      try unfold clo at h3
      try unfold cmH csC at h4
      try unfold cmH at h4
      try unfold cP at h4
      try unfold bP at h4
      try unfold tP at h4
      try unfold inG at h4
      try unfold thG at h4
      try unfold clo at h4
      try unfold cmH csC at h5
      try unfold cmH at h5
      try unfold cP at h5
      try unfold bP at h5
      try unfold tP at h5
      try unfold inG at h5
      try unfold thG at h5
      try unfold clo at h5
      try unfold cmH csC at h6
      try unfold cmH at h6
      try unfold cP at h6
      try unfold bP at h6
      try unfold tP at h6
      try unfold inG at h6
      try unfold thG at h6
      try unfold clo at h6
      try unfold cmH csC at h7
      try unfold cmH at h7
      try unfold cP at h7
      try unfold bP at h7
      try unfold tP at h7
      try unfold inG at h7
      try unfold thG at h7
      try unfold clo at h7
      try unfold cmH csC at h8
      try unfold cmH at h8
      try unfold cP at h8
      try unfold bP at h8
      try unfold tP at h8
      try unfold inG at h8
      try unfold thG at h8
      try unfold clo at h8
      try unfold cmH csC at h9
      try unfold cmH at h9
      try unfold cP at h9
      try unfold bP at h9
      try unfold tP at h9
      try unfold inG at h9
      try unfold thG at h9
      try unfold clo at h9
      try unfold cmH csC at hA
      try unfold cmH at hA
      try unfold cP at hA
      try unfold bP at hA
      try unfold tP at hA
      try unfold inG at hA
      try unfold thG at hA
      try unfold clo at hA
      try unfold cmH csC at hB
      try unfold cmH at hB
      try unfold cP at hB
      try unfold bP at hB
      try unfold tP at hB
      try unfold inG at hB
      try unfold thG at hB
      try unfold clo at hB
      try unfold cmH csC at hC
      try unfold cmH at hC
      try unfold cP at hC
      try unfold bP at hC
      try unfold tP at hC
      try unfold inG at hC
      try unfold thG at hC
      try unfold clo at hC
      try unfold cmH csC at hD
      try unfold cmH at hD
      try unfold cP at hD
      try unfold bP at hD
      try unfold tP at hD
      try unfold inG at hD
      try unfold thG at hD
      try unfold clo at hD
      try unfold cmH csC at ⊢
      try unfold cmH at ⊢
      try unfold cP at ⊢
      try unfold bP at ⊢
      try unfold tP at ⊢
      try unfold inG at ⊢
      try unfold thG at ⊢
      try unfold clo at ⊢
      by_cases he : sD.e = 0
      · have ht : sD.toks = [] := by
          by_cases h : sD.toks = []
          · exact h
          · exact absurd ⟨he, h⟩ hc
        have htl : (sD.toks.length : Int) ≤ 0 := by rw [ht]; decide
        refine fn_intro Tryz.func35 Tryz.ntmps35 rfl rfl rfl (fun w0 => ?_)
        try simp only [List.cons_append, List.nil_append, List.append_nil]
        refine rr ?_
        refine cl (h1) ?_
        intro y hy
        try simp only [List.cons_append, List.nil_append, List.append_nil]
        refine rr ?_
        refine cl (h2 y hy) ?_
        intro z hz
        try simp only [List.cons_append, List.nil_append, List.append_nil]
        refine rr ?_
        refine cl (h3 z (hz.same rfl rfl rfl)) ?_
        intro y hy
        try simp only [List.cons_append, List.nil_append, List.append_nil]
        refine rr ?_
        refine cl (h4 y hy) ?_
        intro z hz
        try simp only [List.cons_append, List.nil_append, List.append_nil]
        refine rr ?_
        refine cl (h5 z hz) ?_
        intro y hy
        try simp only [List.cons_append, List.nil_append, List.append_nil]
        refine rr ?_
        refine cl (h6 y hy) ?_
        intro z hz
        try simp only [List.cons_append, List.nil_append, List.append_nil]
        refine rr ?_
        refine cl (h7 z hz) ?_
        intro y hy
        try simp only [List.cons_append, List.nil_append, List.append_nil]
        refine rr ?_
        refine cl (h8 y hy) ?_
        intro z hz
        try simp only [List.cons_append, List.nil_append, List.append_nil]
        refine rr ?_
        refine cl (h9 z hz) ?_
        intro y hy
        try simp only [List.cons_append, List.nil_append, List.append_nil]
        refine rr ?_
        refine cl (hA y hy) ?_
        intro z hz
        try simp only [List.cons_append, List.nil_append, List.append_nil]
        refine rr ?_
        refine cl (hB z hz) ?_
        intro y hy
        try simp only [List.cons_append, List.nil_append, List.append_nil]
        refine rr ?_
        refine cl (hC y hy) ?_
        intro z hz
        try simp only [List.cons_append, List.nil_append, List.append_nil]
        refine rr ?_
        refine cl (hD z hz) ?_
        intro y hy
        try simp only [List.cons_append, List.nil_append, List.append_nil]
        refine rr ?_
        exact en y hy
      · skip
        refine fn_intro Tryz.func35 Tryz.ntmps35 rfl rfl rfl (fun w0 => ?_)
        try simp only [List.cons_append, List.nil_append, List.append_nil]
        refine rr ?_
        refine cl (h1) ?_
        intro y hy
        try simp only [List.cons_append, List.nil_append, List.append_nil]
        refine rr ?_
        refine cl (h2 y hy) ?_
        intro z hz
        try simp only [List.cons_append, List.nil_append, List.append_nil]
        refine rr ?_
        refine cl (h3 z (hz.same rfl rfl rfl)) ?_
        intro y hy
        try simp only [List.cons_append, List.nil_append, List.append_nil]
        refine rr ?_
        refine cl (h4 y hy) ?_
        intro z hz
        try simp only [List.cons_append, List.nil_append, List.append_nil]
        refine rr ?_
        refine cl (h5 z hz) ?_
        intro y hy
        try simp only [List.cons_append, List.nil_append, List.append_nil]
        refine rr ?_
        refine cl (h6 y hy) ?_
        intro z hz
        try simp only [List.cons_append, List.nil_append, List.append_nil]
        refine rr ?_
        refine cl (h7 z hz) ?_
        intro y hy
        try simp only [List.cons_append, List.nil_append, List.append_nil]
        refine rr ?_
        refine cl (h8 y hy) ?_
        intro z hz
        try simp only [List.cons_append, List.nil_append, List.append_nil]
        refine rr ?_
        refine cl (h9 z hz) ?_
        intro y hy
        try simp only [List.cons_append, List.nil_append, List.append_nil]
        refine rr ?_
        refine cl (hA y hy) ?_
        intro z hz
        try simp only [List.cons_append, List.nil_append, List.append_nil]
        refine rr ?_
        refine cl (hB z hz) ?_
        intro y hy
        try simp only [List.cons_append, List.nil_append, List.append_nil]
        refine rr ?_
        refine cl (hC y hy) ?_
        intro z hz
        try simp only [List.cons_append, List.nil_append, List.append_nil]
        refine rr ?_
        refine cl (hD z hz) ?_
        intro y hy
        try simp only [List.cons_append, List.nil_append, List.append_nil]
        refine rr ?_
        exact en y hy
  · rw [if_neg hm]
    have h0 := noC (TA := TA) (L := L) c s x [112, 114, 111, 103, 114, 97, 109] hx hm
    have h1 := fun y hy => mustC (TA := TA) (L := L) c s y [109, 111, 100, 117, 108, 101] hy
    have d1 := (ex_must [109, 111, 100, 117, 108, 101] s).dx
    have da1 := (ex_must [109, 111, 100, 117, 108, 101] s).da
    generalize mMust [109, 111, 100, 117, 108, 101] s = s1 at *
    have w1 := d1.w
    have hp1 := d1.ln
    have h2 := fun y hy => nameC (TA := TA) (L := L) c s1 y hy
    have d2 := d1.tr (k := 0) (ex_name s1).dx
    have d3 := d1.tr (k := 1) (dx_head s1)
    have da3 := head_data s1
    unfold mHead at *
    generalize mName s1 = a at *
    obtain ⟨an, s2⟩ := a
    dsimp only at *
    have h3 := fun y hy => mustC (TA := TA) (L := L) c { s2 with name := Sc.bs an } y [59] hy
    have d4 := (d2.tr (k := 0) (dx_named (Sc.bs an) s2)).tr (k := 0) (ex_must [59] _).dx
    generalize mMust [59] { s2 with name := Sc.bs an } = s3 at *
    have w4 := d4.w
    have h4 := fun y hy => openC (TA := TA) (L := L) c s3 y (by have := wt_begs (Int.le_refl (wt s3)); omega) hy
    generalize mOpen s3 = s5 at *
    have w6 := d3.w
    have l5 := d3.ln
    have g5 := d3.g hg
    have h6 := fun y hy => declsC (TA := TA) (L := L) c N s5 y (by omega) g5 (by omega) (fun _ => by omega) hy
    generalize mDecls N s5.toks.length s5 = sB at *
    unfold mLast
    dsimp only
    have hC := fun y hy => mustC (TA := TA) (L := L) c sB y [101, 110, 100] hy
    generalize mMust [101, 110, 100] sB = sC at *
    have hD := fun y hy => mustC (TA := TA) (L := L) c sC y [46] hy
    generalize mMust [46] sC = sD at *
    by_cases hc : sD.e = 0 ∧ sD.toks ≠ []
    · rw [if_pos hc]
      obtain ⟨he, ht⟩ := hc
      have htl : ¬ (sD.toks.length : Int) ≤ 0 := by
        have := List.length_pos_iff.2 ht; omega
      have hE := fun y hy => hereC (TA := TA) (L := L) c sD y hy
      have hF := fun y => stopC (TA := TA) (L := L) c sD y 2 (mHere sD)
      generalize mStop 2 (mHere sD) sD = sE at *
      generalize mHere sD = pE at *
      try unfold cmH csC at h0
      try unfold cmH at h0
      try unfold cP at h0
      try unfold bP at h0
      try unfold tP at h0
      try unfold inG at h0
      try unfold thG at h0
      try unfold clo at h0
      try unfold cmH csC at h1
      try unfold cmH at h1
      try unfold cP at h1
      try unfold bP at h1
      try unfold tP at h1
      try unfold inG at h1
      try unfold thG at h1
      try unfold clo at h1
      try unfold cmH csC at h2
      try unfold cmH at h2
      try unfold cP at h2
      try unfold bP at h2
      try unfold tP at h2
      try unfold inG at h2
      try unfold thG at h2
      try unfold clo at h2
      try unfold cmH csC at h3
      try unfold cmH at h3
      try unfold cP at h3
      try unfold bP at h3
      try unfold tP at h3
      try unfold inG at h3
      try unfold thG at h3
      try unfold clo at h3
      try unfold cmH csC at h4
      try unfold cmH at h4
      try unfold cP at h4
      try unfold bP at h4
      try unfold tP at h4
      try unfold inG at h4
      try unfold thG at h4
      try unfold clo at h4
      try unfold cmH csC at h6
      try unfold cmH at h6
      try unfold cP at h6
      try unfold bP at h6
      try unfold tP at h6
      try unfold inG at h6
      try unfold thG at h6
      try unfold clo at h6
      try unfold cmH csC at hC
      try unfold cmH at hC
      try unfold cP at hC
      try unfold bP at hC
      try unfold tP at hC
      try unfold inG at hC
      try unfold thG at hC
      try unfold clo at hC
      try unfold cmH csC at hD
      try unfold cmH at hD
      try unfold cP at hD
      try unfold bP at hD
      try unfold tP at hD
      try unfold inG at hD
      try unfold thG at hD
      try unfold clo at hD
      try unfold cmH csC at hE
      try unfold cmH at hE
      try unfold cP at hE
      try unfold bP at hE
      try unfold tP at hE
      try unfold inG at hE
      try unfold thG at hE
      try unfold clo at hE
      try unfold cmH csC at hF
      try unfold cmH at hF
      try unfold cP at hF
      try unfold bP at hF
      try unfold tP at hF
      try unfold inG at hF
      try unfold thG at hF
      try unfold clo at hF
      try unfold cmH csC at ⊢
      try unfold cmH at ⊢
      try unfold cP at ⊢
      try unfold bP at ⊢
      try unfold tP at ⊢
      try unfold inG at ⊢
      try unfold thG at ⊢
      try unfold clo at ⊢
      refine fn_intro Tryz.func35 Tryz.ntmps35 rfl rfl rfl (fun w0 => ?_)
      try simp only [List.cons_append, List.nil_append, List.append_nil]
      refine rr ?_
      refine cl (h0) ?_
      intro z hz
      try simp only [List.cons_append, List.nil_append, List.append_nil]
      refine rr ?_
      refine cl (h1 z hz) ?_
      intro y hy
      try simp only [List.cons_append, List.nil_append, List.append_nil]
      refine rr ?_
      refine cl (h2 y hy) ?_
      intro z hz
      try simp only [List.cons_append, List.nil_append, List.append_nil]
      refine rr ?_
      refine cl (h3 z (hz.same rfl rfl rfl)) ?_
      intro y hy
      try simp only [List.cons_append, List.nil_append, List.append_nil]
      refine rr ?_
      refine cl (h4 y hy) ?_
      intro z hz
      try simp only [List.cons_append, List.nil_append, List.append_nil]
      refine rr ?_
      refine cl (h6 z hz) ?_
      intro y hy
      try simp only [List.cons_append, List.nil_append, List.append_nil]
      refine rr ?_
      refine cl (hC y hy) ?_
      intro z hz
      try simp only [List.cons_append, List.nil_append, List.append_nil]
      refine rr ?_
      refine cl (hD z hz) ?_
      intro y hy
      try simp only [List.cons_append, List.nil_append, List.append_nil]
      refine rr ?_
      refine cl (hE y hy) ?_
      intro _ hz
      try simp only [List.cons_append, List.nil_append, List.append_nil]
      cases hz
      refine rr ?_
      refine cl (hF y) ?_
      intro z hz
      try simp only [List.cons_append, List.nil_append, List.append_nil]
      refine rr ?_
      exact en z hz
    · rw [if_neg hc]
      try unfold cmH csC at h0
      try unfold cmH at h0
      try unfold cP at h0
      try unfold bP at h0
      try unfold tP at h0
      try unfold inG at h0
      try unfold thG at h0
      try unfold clo at h0
      try unfold cmH csC at h1
      try unfold cmH at h1
      try unfold cP at h1
      try unfold bP at h1
      try unfold tP at h1
      try unfold inG at h1
      try unfold thG at h1
      try unfold clo at h1
      try unfold cmH csC at h2
      try unfold cmH at h2
      try unfold cP at h2
      try unfold bP at h2
      try unfold tP at h2
      try unfold inG at h2
      try unfold thG at h2
      try unfold clo at h2
      try unfold cmH csC at h3
      try unfold cmH at h3
      try unfold cP at h3
      try unfold bP at h3
      try unfold tP at h3
      try unfold inG at h3
      try unfold thG at h3
      try unfold clo at h3
      try unfold cmH csC at h4
      try unfold cmH at h4
      try unfold cP at h4
      try unfold bP at h4
      try unfold tP at h4
      try unfold inG at h4
      try unfold thG at h4
      try unfold clo at h4
      try unfold cmH csC at h6
      try unfold cmH at h6
      try unfold cP at h6
      try unfold bP at h6
      try unfold tP at h6
      try unfold inG at h6
      try unfold thG at h6
      try unfold clo at h6
      try unfold cmH csC at hC
      try unfold cmH at hC
      try unfold cP at hC
      try unfold bP at hC
      try unfold tP at hC
      try unfold inG at hC
      try unfold thG at hC
      try unfold clo at hC
      try unfold cmH csC at hD
      try unfold cmH at hD
      try unfold cP at hD
      try unfold bP at hD
      try unfold tP at hD
      try unfold inG at hD
      try unfold thG at hD
      try unfold clo at hD
      try unfold cmH csC at ⊢
      try unfold cmH at ⊢
      try unfold cP at ⊢
      try unfold bP at ⊢
      try unfold tP at ⊢
      try unfold inG at ⊢
      try unfold thG at ⊢
      try unfold clo at ⊢
      by_cases he : sD.e = 0
      · have ht : sD.toks = [] := by
          by_cases h : sD.toks = []
          · exact h
          · exact absurd ⟨he, h⟩ hc
        have htl : (sD.toks.length : Int) ≤ 0 := by rw [ht]; decide
        refine fn_intro Tryz.func35 Tryz.ntmps35 rfl rfl rfl (fun w0 => ?_)
        try simp only [List.cons_append, List.nil_append, List.append_nil]
        refine rr ?_
        refine cl (h0) ?_
        intro z hz
        try simp only [List.cons_append, List.nil_append, List.append_nil]
        refine rr ?_
        refine cl (h1 z hz) ?_
        intro y hy
        try simp only [List.cons_append, List.nil_append, List.append_nil]
        refine rr ?_
        refine cl (h2 y hy) ?_
        intro z hz
        try simp only [List.cons_append, List.nil_append, List.append_nil]
        refine rr ?_
        refine cl (h3 z (hz.same rfl rfl rfl)) ?_
        intro y hy
        try simp only [List.cons_append, List.nil_append, List.append_nil]
        refine rr ?_
        refine cl (h4 y hy) ?_
        intro z hz
        try simp only [List.cons_append, List.nil_append, List.append_nil]
        refine rr ?_
        refine cl (h6 z hz) ?_
        intro y hy
        try simp only [List.cons_append, List.nil_append, List.append_nil]
        refine rr ?_
        refine cl (hC y hy) ?_
        intro z hz
        try simp only [List.cons_append, List.nil_append, List.append_nil]
        refine rr ?_
        refine cl (hD z hz) ?_
        intro y hy
        try simp only [List.cons_append, List.nil_append, List.append_nil]
        refine rr ?_
        exact en y hy
      · skip
        refine fn_intro Tryz.func35 Tryz.ntmps35 rfl rfl rfl (fun w0 => ?_)
        try simp only [List.cons_append, List.nil_append, List.append_nil]
        refine rr ?_
        refine cl (h0) ?_
        intro z hz
        try simp only [List.cons_append, List.nil_append, List.append_nil]
        refine rr ?_
        refine cl (h1 z hz) ?_
        intro y hy
        try simp only [List.cons_append, List.nil_append, List.append_nil]
        refine rr ?_
        refine cl (h2 y hy) ?_
        intro z hz
        try simp only [List.cons_append, List.nil_append, List.append_nil]
        refine rr ?_
        refine cl (h3 z (hz.same rfl rfl rfl)) ?_
        intro y hy
        try simp only [List.cons_append, List.nil_append, List.append_nil]
        refine rr ?_
        refine cl (h4 y hy) ?_
        intro z hz
        try simp only [List.cons_append, List.nil_append, List.append_nil]
        refine rr ?_
        refine cl (h6 z hz) ?_
        intro y hy
        try simp only [List.cons_append, List.nil_append, List.append_nil]
        refine rr ?_
        refine cl (hC y hy) ?_
        intro z hz
        try simp only [List.cons_append, List.nil_append, List.append_nil]
        refine rr ?_
        refine cl (hD z hz) ?_
        intro y hy
        try simp only [List.cons_append, List.nil_append, List.append_nil]
        refine rr ?_
        exact en y hy
end Go.Proofs.YteddjcpaeoceeaaGreatDoor.Cm
namespace Go.Proofs.YteddjcpaeoceeaaGreatDoor.Sc
open Go
set_option linter.unusedVariables false
set_option maxRecDepth 100000
set_option linter.unusedSimpArgs false
theorem numL_le : ∀ (l : List UInt8) (n : Int), n ≤ 32767 → numL l n ≤ 32767
  | [], n, h => h
  | b :: l, n, h => by
    simp only [numL]
    split
    · decide
    · exact numL_le l _ (by omega)
theorem scanD_len : ∀ (n p : Nat) (l : List UInt8), l.length ≤ n → (scanD p l).1.length ≤ l.length
  | n, p, [], _ => Nat.le_refl _
  | 0, p, c :: r, h => by simp at h
  | n + 1, p, c :: r, h => by
    rw [scanD_cons]
    simp only [List.length_cons, Nat.add_le_add_iff_right] at h
    split
    · have := scanD_len n (p + 1) r h; simp; omega
    · split
      · split
        · simp
        · refine Nat.le_trans (scanD_len n _ _ (by simp; omega)) (by simp; omega)
      · split
        · simp
        · rename_i he
          have := tokR_len (c := c) (r := r) (by simpa using he)
          unfold consT
          split
          · have := scanD_len n (p + (tokR (c :: r)).2.1) ((c :: r).drop (tokR (c :: r)).2.1) (by simp; omega)
            simp only [List.length_cons, List.length_drop] at this ⊢
            simp only [List.length_cons] at *
            omega
          · simp
/-- A token is a word, a number or a sign; its number is small; a word has at most 16 letters, and one at least. -/
structure OkT (t : Tk) : Prop where
  num : 0 ≤ t.num ∧ t.num ≤ 32767
  kind : t.kind = 1 ∨ t.kind = 2 ∨ t.kind = 3
  len : t.kind = 1 → 1 ≤ t.text.length ∧ t.text.length ≤ 16
  two : t.kind = 2 → t.text = []
theorem tokR_ok {c : UInt8} {r : List UInt8} (h : (tokR (c :: r)).2.2 = 0) : OkT (tokR (c :: r)).1 := by
  unfold tokR at h ⊢
  dsimp only at h ⊢
  split
  · rename_i hl
    rw [if_pos hl] at h
    split
    · rename_i h16; rw [if_pos h16] at h; exact absurd h (by decide)
    · rename_i h16
      refine ⟨⟨Int.le_refl 0, (by decide : (0 : Int) ≤ 32767)⟩, .inl rfl, fun _ => ?_, fun h => absurd (show (1 : Int) = 2 from h) (by decide)⟩
      have h1 : 1 ≤ runL isLD (c :: r) := runL_pos (by simp [isLD, hl])
      have h2 := runL_le isLD (c :: r)
      simp only [List.length_map, List.length_take]
      omega
  · rename_i hl
    rw [if_neg hl] at h
    split
    · rename_i hd
      rw [if_pos hd] at h
      split
      · rename_i hn; rw [if_pos hn] at h; exact absurd h (by decide)
      · rename_i hn
        exact ⟨⟨by dsimp only; omega, numL_le _ _ (by decide)⟩, .inr (.inl rfl), fun h => absurd (show (2 : Int) = 1 from h) (by decide), fun _ => rfl⟩
    · rename_i hd
      rw [if_neg hd] at h
      split
      · rename_i hs; rw [if_pos hs] at h; exact absurd h (by decide)
      · exact ⟨⟨Int.le_refl 0, (by decide : (0 : Int) ≤ 32767)⟩, .inr (.inr rfl), fun h => absurd (show (3 : Int) = 1 from h) (by decide), fun h => absurd (show (3 : Int) = 2 from h) (by decide)⟩
theorem scanD_ok : ∀ (n p : Nat) (l : List UInt8), l.length ≤ n → ∀ t ∈ (scanD p l).1, OkT t.1
  | n, p, [], _, t, ht => by simp [scanD_nil] at ht
  | 0, p, c :: r, h, t, ht => by simp at h
  | n + 1, p, c :: r, h, t, ht => by
    rw [scanD_cons] at ht
    simp only [List.length_cons, Nat.add_le_add_iff_right] at h
    split at ht
    · exact scanD_ok n _ _ h t ht
    · split at ht
      · split at ht
        · simp at ht
        · exact scanD_ok n _ _ (by simp; omega) t ht
      · split at ht
        · simp at ht
        · rename_i he
          have he' : (tokR (c :: r)).2.2 = 0 := by simpa using he
          have hl := tokR_len he'
          unfold consT at ht
          split at ht
          · rcases List.mem_cons.1 ht with rfl | ht
            · exact tokR_ok he'
            · exact scanD_ok n _ _ (by simp only [List.length_drop, List.length_cons] at *; omega) t ht
          · simp at ht
end Go.Proofs.YteddjcpaeoceeaaGreatDoor.Sc
namespace Go.Proofs.YteddjcpaeoceeaaGreatDoor.Cm
open Go Go.Sx Go.Sx.Chunk
set_option linter.unusedVariables false
set_option maxRecDepth 100000
set_option linter.unusedSimpArgs false
variable {TA : Addr} {L : List (Sc.Tk × Nat)}
theorem dx_program (N : Nat) (s : CS) (hg : GD s) : wt (mProgram N s) ≤ wt s + 10 := by
  rw [program_eq]
  have hl : ∀ q, wt (mLast q) ≤ wt q := fun q => by
    unfold mLast
    dsimp only
    have h := ((ex_must [101, 110, 100] q).tr (k := 0) (ex_must [46] _))
    split
    · have := (h.tr (k := 0) (ex_stop 2 (mHere (mMust [46] (mMust [101, 110, 100] q))) _)).w; omega
    · have := h.w; omega
  split
  · rename_i hm
    have d1 := ((ex_sees hm).dx.tr (k := -99) (dx_head _)).tr (k := -97) (ex_jump ⟨17, 0, 0, 0, 0⟩ _).dx
    obtain ⟨g, w, ln⟩ := dx_decls N (mJump ⟨17, 0, 0, 0, 0⟩ (mHead (mTail s))).toks.length _ (d1.g hg)
    have w1 := d1.w
    refine Int.le_trans (hl _) ?_
    unfold mBody
    have d2 := ((((ex_must [98, 101, 103, 105, 110] (mDecls N (mJump ⟨17, 0, 0, 0, 0⟩ (mHead (mTail s))).toks.length (mJump ⟨17, 0, 0, 0, 0⟩ (mHead (mTail s))))).tr (k := 0) (ex_land ((mHead (mTail s)).code.length : Int) _)).tr (k := 2) (ex_mark ⟨10, 29, 0, 0, 0⟩ 4 0 _)).tr (k := 2) (ex_stmts N _)).tr (k := 3) (ex_put ⟨20, 0, 0, 0, 0⟩ _)
    have := d2.w
    omega
  · have d1 := (ex_must [109, 111, 100, 117, 108, 101] s).dx.tr (k := 1) (dx_head _)
    obtain ⟨g, w, ln⟩ := dx_decls N (mHead (mMust [109, 111, 100, 117, 108, 101] s)).toks.length _ (d1.g hg)
    have w1 := d1.w
    have := hl (mDecls N (mHead (mMust [109, 111, 100, 117, 108, 101] s)).toks.length (mHead (mMust [109, 111, 100, 117, 108, 101] s)))
    omega
def ob0 : Ob6 := ⟨.empty, [], 0, [], [], []⟩
/-- The object of a text; of one that is refused: one that is empty. -/
def compO (s : List UInt8) : Ob6 := (compF s).1.getD ob0
theorem comp_len (s : List UInt8) : (compO s).code.length ≤ 4096 := by
  unfold compO compF
  generalize Sc.scanD 0 s = r
  obtain ⟨l, pl, e⟩ := r
  dsimp only
  by_cases he : e ≠ 0
  · simp only [if_pos he]; exact Nat.zero_le _
  · simp only [if_neg he]
    generalize mProgram (l.length + 1) (cs0 l (s.length : Int)) = q
    by_cases hA : q.e = 0 ∧ q.code.length > 4096
    · rw [if_pos hA, if_pos (stop_e _ _ _ (by decide))]; exact Nat.zero_le _
    · rw [if_neg hA]
      by_cases hB : q.e ≠ 0
      · rw [if_pos hB]; exact Nat.zero_le _
      · rw [if_neg hB]
        show q.code.length ≤ 4096
        have hB2 : q.e = 0 := by simpa using hB
        have : ¬ q.code.length > 4096 := fun h => hA ⟨hB2, h⟩
        omega
def csX (s : CS) (x : Ad) (oc : Option Addr) (on : Nat) (ok : Nat) (pc : Option Addr) (pn pk : Nat) : List Value := [.slice x.ta s.toks.length x.tc, .int .i64 s.en, .slice x.ca s.code.length x.cc, .slice x.pa s.pats.length x.pc, .int .i64 (s.taken : Int), .slice x.na s.ents.length x.nc, .slice x.ba s.begs.length x.bc, .string s.name, .slice oc on ok, .int .i64 s.data, .slice x.ea s.exps.length x.ec, .slice x.ia s.imps.length x.ic, .slice pc pn pk, .int .i64 s.e, .int .i64 s.bad, .int .i64 (s.fac : Int), .int .i64 (s.nest : Int)]
theorem stopX (c : Nat) (s : CS) (x : Ad) (e pl : Int) (oc : Option Addr) (on ok : Nat) (pc : Option Addr) (pn pk : Nat) : FnC (α := Unit) Tryz.prog 38 [cP c, .int .i64 e, .int .i64 pl] [blk c (csX s x oc on ok pc pn pk) 89] [] (fun _ => .tuple #[]) (fun _ => [blk c (csX (mStop e pl s) { x with ta := none, tc := 0 } oc on ok pc pn pk) 89]) (fun _ => True) := by
  unfold csX cP
  refine fn_intro Tryz.func38 Tryz.ntmps38 rfl rfl rfl (fun w0 => ?_)
  try simp only [List.cons_append, List.nil_append, List.append_nil]
  by_cases h : s.e = 0
  · skip
    refine rr ?_
    exact en () trivial (hp := by unfold mStop; simp only [if_pos h]; (repeat (first | exact Has.nil | (apply Has.cons; focus ((repeat (first | exact pick_here | apply pick_there)); done)) | apply Has.nrow | apply Has.gen0)))
  · skip
    refine rr ?_
    exact en () trivial (hp := by unfold mStop; simp only [if_neg h]; (repeat (first | exact Has.nil | (apply Has.cons; focus ((repeat (first | exact pick_here | apply pick_there)); done)) | apply Has.nrow | apply Has.gen0)))
/-- Where an object's parts lie. -/
structure Ax where
  mk ::
  (ca : Option Addr) (cc : Nat) (pa : Option Addr) (pc : Nat) (ea : Option Addr) (ec : Nat) (ia : Option Addr) (ic : Nat)
def o6V (o : Ob6) (x : Ax) : List Value := [.string o.name, .slice x.ca o.code.length x.cc, .int .i64 o.data, .slice x.ea o.exps.length x.ec, .slice x.ia o.imps.length x.ic, .slice x.pa o.pats.length x.pc]
def o6G (o : Ob6) (x : Ax) : Value := .agg #[.string o.name, .slice x.ca o.code.length x.cc, .int .i64 o.data, .slice x.ea o.exps.length x.ec, .slice x.ia o.imps.length x.ic, .slice x.pa o.pats.length x.pc]
def o6H (o : Ob6) (x : Ax) : List Chunk := [row x.ca x.cc 140 5 o.code.length (insC o.code), row x.pa x.pc 103 3 o.pats.length (paC o.pats), row x.ea x.ec 148 2 o.exps.length (syC o.exps), row x.ia x.ic 9 1 o.imps.length (strC o.imps)]
set_option maxHeartbeats 16000000 in
theorem compileC (s : ByteArray) (hs : s.size ≤ 1000000) : FnC Tryz.prog 14 [.string s] [] [spaceV] (fun x : Ax => .tuple #[o6G (compO (Sc.txt s)) x, .int .i64 (compF (Sc.txt s)).2.1, .int .i64 (compF (Sc.txt s)).2.2]) (fun x : Ax => o6H (compO (Sc.txt s)) x) (fun _ => True) := by
  have h1 := Sc.scanC s hs
  have hlen := Sc.scanD_len _ 0 (Sc.txt s) (Nat.le_refl _)
  have hok := Sc.scanD_ok _ 0 (Sc.txt s) (Nat.le_refl _)
  rw [Sc.txt_len] at hlen
  unfold compO compF
  rw [Sc.txt_len]
  generalize Sc.scanD 0 (Sc.txt s) = r at *
  obtain ⟨l, pl, e⟩ := r
  unfold Sc.scanV at h1
  dsimp only at *
  by_cases he : e ≠ 0
  · simp only [if_pos he]
    unfold o6G o6H ob0
    refine fn_intro Tryz.func14 Tryz.ntmps14 rfl rfl rfl (fun w0 => ?_)
    try simp only [List.cons_append, List.nil_append, List.append_nil]
    refine rr ?_
    intro b2 _
    refine rr ?_
    refine cl (h1) ?_
    intro x _
    try simp only [List.cons_append, List.nil_append, List.append_nil]
    refine rr ?_
    exact en ⟨none, 0, none, 0, none, 0, none, 0⟩ trivial
  · simp only [if_neg he]
    refine fn_intro Tryz.func14 Tryz.ntmps14 rfl rfl rfl (fun w0 => ?_)
    try simp only [List.cons_append, List.nil_append, List.append_nil]
    refine rr ?_
    intro b2 _
    refine rr ?_
    refine cl (h1) ?_
    intro x _
    try simp only [List.cons_append, List.nil_append, List.append_nil]
    obtain ⟨ta, tc⟩ := x
    dsimp only
    refine rr ?_
    intro c _
    refine rr ?_
    have hg0 : GD (cs0 l (s.size : Int)) := ⟨Nat.zero_le _, by simp [cs0], fun t ht => ⟨(hok t ht).num.1, (hok t ht).num.2⟩, by simp [cs0]⟩
    have hw0 : wt (cs0 l (s.size : Int)) ≤ 100000000 := by simp [wt, cs0]; omega
    have hwP := dx_program (l.length + 1) _ hg0
    refine w_use (fun w hw => (hw.pick 1 rfl).row_cap) fun hcap => ?_
    have h2 := fun TA hx => programC (TA := TA) (L := l) c (l.length + 1) (cs0 l (s.size : Int)) ⟨ta, tc, none, 0, none, 0, none, 0, none, 0, none, 0, none, 0⟩ (by simp [cs0]) hg0 (by omega) (by simp [cs0]) hx
    generalize mProgram (l.length + 1) (cs0 l (s.size : Int)) = sP at *
    have hcn := wt_code (Int.le_refl (wt sP))
    have hpn := wt_pats (Int.le_refl (wt sP))
    have h3 := fun y => codeC c sP y (by omega)
    have h4 := fun y => patchesC c sP y (by omega)
    have h5 := fun y e pl oc on ok pc pn pk => stopX c sP y e pl oc on ok pc pn pk
    unfold tkB at h2
    try unfold cmH csC at h2
    try unfold cmH at h2
    try unfold cP at h2
    try unfold bP at h2
    try unfold tP at h2
    try unfold inG at h2
    try unfold thG at h2
    try unfold clo at h2
    try unfold cmH csC at h3
    try unfold cmH at h3
    try unfold cP at h3
    try unfold bP at h3
    try unfold tP at h3
    try unfold inG at h3
    try unfold thG at h3
    try unfold clo at h3
    try unfold cmH csC at h4
    try unfold cmH at h4
    try unfold cP at h4
    try unfold bP at h4
    try unfold tP at h4
    try unfold inG at h4
    try unfold thG at h4
    try unfold clo at h4
    unfold csX at h5
    unfold o6G o6H
    by_cases hA : sP.e = 0 ∧ sP.code.length > 4096
    · rw [if_pos hA]
      obtain ⟨hA1, hA2⟩ := hA
      rw [if_pos (show (mStop 4 (s.size : Int) sP).e ≠ 0 from stop_e _ _ _ (by decide))]
      have hst : (mStop 4 (s.size : Int) sP).e = 4 ∧ (mStop 4 (s.size : Int) sP).bad = (s.size : Int) := by simp [mStop, hA1]
      rcases l with _ | ⟨t, l⟩
      · skip
        refine cl (h2 ⟨0, 0, none⟩ (OkX.none rfl)) ?_
        intro y hy
        try simp only [List.cons_append, List.nil_append, List.append_nil]
        refine rr ?_
        refine dx [0, 1, 2, 3, 4, 6, 7, 8, 5, 9, 10, 11, 12, 13, 14, 15, 16, 17] [] [] ?_
        refine rr ?_
        refine cle (h3 y) ?_
        intro z _
        try simp only [List.cons_append, List.nil_append, List.append_nil]
        refine rr ?_
        refine cle (h4 y) ?_
        intro u _
        try simp only [List.cons_append, List.nil_append, List.append_nil]
        refine rr ?_
        refine cl (h5 y 4 (s.size : Int) z.1 sP.code.length z.2 u.1 sP.pats.length u.2) ?_
        intro _ _
        try simp only [List.cons_append, List.nil_append, List.append_nil]
        refine rr ?_
        refine dr [0, 1, 2, 3, 4, 5, 6, 7, 8, 9, 10, 11] [4, 8] [0] ?_
        refine rr ?_
        exact en ⟨none, 0, none, 0, none, 0, none, 0⟩ trivial
      · skip
        refine w_use (fun w hw => (hw.pick 1 rfl).row_some (by first | omega | decide | (simp; done) | (simp <;> omega))) ?_
        rintro ⟨g1, rfl⟩
        refine cl (h2 ⟨g1, 0, none⟩ ⟨fun _ => ⟨0, rfl, rfl⟩, hcap⟩) ?_
        intro y hy
        try simp only [List.cons_append, List.nil_append, List.append_nil]
        refine rr ?_
        refine dx [0, 1, 2, 3, 4, 6, 7, 8, 5, 9, 10, 11, 12, 13, 14, 15, 16, 17] [] [] ?_
        refine rr ?_
        refine cle (h3 y) ?_
        intro z _
        try simp only [List.cons_append, List.nil_append, List.append_nil]
        refine rr ?_
        refine cle (h4 y) ?_
        intro u _
        try simp only [List.cons_append, List.nil_append, List.append_nil]
        refine rr ?_
        refine cl (h5 y 4 (s.size : Int) z.1 sP.code.length z.2 u.1 sP.pats.length u.2) ?_
        intro _ _
        try simp only [List.cons_append, List.nil_append, List.append_nil]
        refine rr ?_
        refine dr [0, 1, 2, 3, 4, 5, 6, 7, 8, 9, 10, 11] [4, 8] [0] ?_
        refine rr ?_
        exact en ⟨none, 0, none, 0, none, 0, none, 0⟩ trivial
    · rw [if_neg hA]
      by_cases hB : sP.e ≠ 0
      · rw [if_pos hB]
        rcases l with _ | ⟨t, l⟩
        · skip
          refine cl (h2 ⟨0, 0, none⟩ (OkX.none rfl)) ?_
          intro y hy
          try simp only [List.cons_append, List.nil_append, List.append_nil]
          refine rr ?_
          refine dx [0, 1, 2, 3, 4, 6, 7, 8, 5, 9, 10, 11, 12, 13, 14, 15, 16, 17] [] [] ?_
          refine rr ?_
          refine cle (h3 y) ?_
          intro z _
          try simp only [List.cons_append, List.nil_append, List.append_nil]
          refine rr ?_
          refine cle (h4 y) ?_
          intro u _
          try simp only [List.cons_append, List.nil_append, List.append_nil]
          refine rr ?_
          refine dr [0, 1, 2, 3, 4, 5, 6, 7, 8, 9, 10, 11] [4, 8] [0] ?_
          refine rr ?_
          exact en ⟨none, 0, none, 0, none, 0, none, 0⟩ trivial
        · skip
          refine w_use (fun w hw => (hw.pick 1 rfl).row_some (by first | omega | decide | (simp; done) | (simp <;> omega))) ?_
          rintro ⟨g1, rfl⟩
          refine cl (h2 ⟨g1, 0, none⟩ ⟨fun _ => ⟨0, rfl, rfl⟩, hcap⟩) ?_
          intro y hy
          try simp only [List.cons_append, List.nil_append, List.append_nil]
          refine rr ?_
          refine dx [0, 1, 2, 3, 4, 6, 7, 8, 5, 9, 10, 11, 12, 13, 14, 15, 16, 17] [] [] ?_
          refine rr ?_
          refine cle (h3 y) ?_
          intro z _
          try simp only [List.cons_append, List.nil_append, List.append_nil]
          refine rr ?_
          refine cle (h4 y) ?_
          intro u _
          try simp only [List.cons_append, List.nil_append, List.append_nil]
          refine rr ?_
          refine dr [0, 1, 2, 3, 4, 5, 6, 7, 8, 9, 10, 11] [4, 8] [0] ?_
          refine rr ?_
          exact en ⟨none, 0, none, 0, none, 0, none, 0⟩ trivial
      · rw [if_neg hB]
        have hB2 : sP.e = 0 := by simpa using hB
        have hC2 : ¬ (sP.code.length : Int) > 4096 := fun h => hA ⟨hB2, by omega⟩
        rcases l with _ | ⟨t, l⟩
        · skip
          refine cl (h2 ⟨0, 0, none⟩ (OkX.none rfl)) ?_
          intro y hy
          try simp only [List.cons_append, List.nil_append, List.append_nil]
          refine rr ?_
          refine dx [0, 1, 2, 3, 4, 6, 7, 8, 5, 9, 10, 11, 12, 13, 14, 15, 16, 17] [] [] ?_
          refine rr ?_
          refine cle (h3 y) ?_
          intro z _
          try simp only [List.cons_append, List.nil_append, List.append_nil]
          refine rr ?_
          refine cle (h4 y) ?_
          intro u _
          try simp only [List.cons_append, List.nil_append, List.append_nil]
          refine rr ?_
          exact en ⟨z.1, z.2, u.1, u.2, y.ea, y.ec, y.ia, y.ic⟩ trivial
        · skip
          refine w_use (fun w hw => (hw.pick 1 rfl).row_some (by first | omega | decide | (simp; done) | (simp <;> omega))) ?_
          rintro ⟨g1, rfl⟩
          refine cl (h2 ⟨g1, 0, none⟩ ⟨fun _ => ⟨0, rfl, rfl⟩, hcap⟩) ?_
          intro y hy
          try simp only [List.cons_append, List.nil_append, List.append_nil]
          refine rr ?_
          refine dx [0, 1, 2, 3, 4, 6, 7, 8, 5, 9, 10, 11, 12, 13, 14, 15, 16, 17] [] [] ?_
          refine rr ?_
          refine cle (h3 y) ?_
          intro z _
          try simp only [List.cons_append, List.nil_append, List.append_nil]
          refine rr ?_
          refine cle (h4 y) ?_
          intro u _
          try simp only [List.cons_append, List.nil_append, List.append_nil]
          refine rr ?_
          exact en ⟨z.1, z.2, u.1, u.2, y.ea, y.ec, y.ia, y.ic⟩ trivial
end Go.Proofs.YteddjcpaeoceeaaGreatDoor.Cm
namespace Go.Proofs.YteddjcpaeoceeaaGreatDoor
open Go Go.Sx Go.Sx.Chunk
set_option linter.unusedVariables false
set_option maxRecDepth 100000
set_option linter.unusedSimpArgs false

def hasA (op : Int) : Bool := decide (1 ≤ op ∧ op ≤ 16 ∨ op = 19)
def hasB (op : Int) : Bool := decide (1 ≤ op ∧ op ≤ 16 ∧ op ≠ 11)
def hasC (op : Int) : Bool := decide (1 ≤ op ∧ op ≤ 9)
def hasI (op : Int) : Bool := decide (10 ≤ op ∧ op ≤ 18 ∨ op = 20)
def okO (op : Int) : Bool := decide (0 ≤ op ∧ op ≤ 20)
def regI (n : Int) (had : Bool) : Bool := decide (n = 0) || (had && decide (0 < n ∧ n < 32))
def fits16 (n : Int) : Bool := decide (-32768 ≤ n ∧ n < 32768)
def numI (op n : Int) : Bool := if op = 17 ∨ op = 18 then decide (0 ≤ n ∧ n ≤ 4096) else if op = 20 then decide (0 ≤ n ∧ n ≤ 2) else if op = 14 then decide (0 ≤ n) && fits16 n else fits16 n
def goodI (i : In) : Bool := okO i.op && regI i.a (hasA i.op) && regI i.b (hasB i.op) && regI i.c (hasC i.op) && (decide (i.imm = 0) || (hasI i.op && numI i.op i.imm))
theorem ops (op : Int) (h : ¬ (op < 0 ∨ 20 < op)) : op = 0 ∨ op = 1 ∨ op = 2 ∨ op = 3 ∨ op = 4 ∨ op = 5 ∨ op = 6 ∨ op = 7 ∨ op = 8 ∨ op = 9 ∨ op = 10 ∨ op = 11 ∨ op = 12 ∨ op = 13 ∨ op = 14 ∨ op = 15 ∨ op = 16 ∨ op = 17 ∨ op = 18 ∨ op = 19 ∨ op = 20 := by omega
theorem and_b {p q : Prop} [Decidable p] [Decidable q] : (decide (p ∧ q)) = (decide p && decide q) := by by_cases hp : p <;> by_cases hq : q <;> simp [hp, hq]

set_option maxHeartbeats 4000000 in
theorem fitsC (n : Int) : FnC (α := Unit) Tryz.prog 157 [.int .i64 n, .int .i64 16] [] [] (fun _ => .bool (fits16 n)) (fun _ => []) (fun _ => True) := by
  refine fn_intro Tryz.func157 Tryz.ntmps157 rfl rfl rfl (fun w0 => ?_)
  try simp only [List.cons_append, List.nil_append, List.append_nil]
  refine rr ?_
  have h1 : IntKind.i64.wrap (1 * 2 ^ min ((16 : Int) - 1).toNat IntKind.i64.bits) = 32768 := by decide +kernel
  have h2 : IntKind.i64.wrap (-32768) = -32768 := by decide +kernel
  rw [h1, h2]
  by_cases h : -32768 ≤ n
  · skip
    refine rr ?_
    refine we () [] trivial (hv := ?_)
    show Value.bool _ = _
    unfold fits16
    rw [and_b, decide_eq_true h]
    rfl
  · skip
    refine rr ?_
    refine we () [] trivial (hv := ?_)
    show Value.bool _ = _
    unfold fits16
    rw [and_b, decide_eq_false h]
    rfl
set_option maxHeartbeats 16000000 in
set_option maxRecDepth 100000 in
theorem ofC (op : Int) : FnC (α := Unit) Tryz.prog 119 [.int .i64 op] [] [] (fun _ => .tuple #[.agg #[.bool (hasA op), .bool (hasB op), .bool (hasC op), .bool (hasI op)], .bool (okO op)]) (fun _ => []) (fun _ => True) := by
  refine fn_intro Tryz.func119 Tryz.ntmps119 rfl rfl rfl (fun w0 => ?_)
  try simp only [List.cons_append, List.nil_append, List.append_nil]
  by_cases h : op < 0 ∨ 20 < op
  · skip
    refine rr ?_
    intro b _
    refine rr ?_
    refine we () [] trivial (hv := ?_)
    have h1 : hasA op = false := by unfold hasA; simp; omega
    have h2 : hasB op = false := by unfold hasB; simp; omega
    have h3 : hasC op = false := by unfold hasC; simp; omega
    have h4 : hasI op = false := by unfold hasI; simp; omega
    have h5 : okO op = false := by unfold okO; simp; omega
    rw [h1, h2, h3, h4, h5]
    rfl
  · rcases ops op h with rfl | rfl | rfl | rfl | rfl | rfl | rfl | rfl | rfl | rfl | rfl | rfl | rfl | rfl | rfl | rfl | rfl | rfl | rfl | rfl | rfl
    all_goals
      refine rr ?_
      intro b _
      refine rr ?_
      refine we () [] trivial (hv := ?_)
      kernel_rfl
theorem regC (n : Int) (had : Bool) : FnC (α := Unit) Tryz.prog 120 [.int .i64 n, .bool had] [] [] (fun _ => .bool (regI n had)) (fun _ => []) (fun _ => True) := by
  refine fn_intro Tryz.func120 Tryz.ntmps120 rfl rfl rfl (fun w0 => ?_)
  try simp only [List.cons_append, List.nil_append, List.append_nil]
  cases had
  · by_cases h : n = 0
    · skip
      refine rr ?_
      refine we () [] trivial (hv := ?_)
      show Value.bool _ = Value.bool (decide (n = 0) || _)
      simp [h]
    · skip
      refine rr ?_
      refine we () [] trivial (hv := ?_)
      show Value.bool _ = Value.bool (decide (n = 0) || _)
      simp [h]
  · by_cases h : n = 0
    · skip
      refine rr ?_
      refine we () [] trivial (hv := ?_)
      show Value.bool _ = Value.bool (decide (n = 0) || _)
      simp [h]
    · by_cases h1 : 0 < n
      · skip
        refine rr ?_
        refine we () [] trivial (hv := ?_)
        show Value.bool _ = Value.bool (decide (n = 0) || _)
        simp [h, h1]
      · skip
        refine rr ?_
        refine we () [] trivial (hv := ?_)
        show Value.bool _ = Value.bool (decide (n = 0) || _)
        simp [h, h1]
set_option maxHeartbeats 4000000 in
theorem numC (op n : Int) : FnC (α := Unit) Tryz.prog 121 [.int .i64 op, .int .i64 n] [] [] (fun _ => .bool (numI op n)) (fun _ => []) (fun _ => True) := by
  refine fn_intro Tryz.func121 Tryz.ntmps121 rfl rfl rfl (fun w0 => ?_)
  try simp only [List.cons_append, List.nil_append, List.append_nil]
  by_cases h17 : op = 17 ∨ op = 18
  · have hv : numI op n = (decide (0 ≤ n) && decide (n ≤ 4096)) := by unfold numI; rw [if_pos h17, and_b]
    rcases h17 with rfl | rfl
    all_goals
      by_cases h0 : 0 ≤ n
      all_goals
        refine rr ?_
        refine we () [] trivial (hv := ?_)
        rw [hv]
        simp [packR, h0]
  · by_cases h20 : op = 20
    · have hv : numI op n = (decide (0 ≤ n) && decide (n ≤ 2)) := by unfold numI; rw [if_neg h17, if_pos h20, and_b]
      subst h20
      by_cases h0 : 0 ≤ n
      all_goals
        refine rr ?_
        refine we () [] trivial (hv := ?_)
        rw [hv]
        simp [packR, h0]
    · by_cases h14 : op = 14
      · have hv : numI op n = (decide (0 ≤ n) && fits16 n) := by unfold numI; rw [if_neg h17, if_neg h20, if_pos h14]
        subst h14
        by_cases h0 : 0 ≤ n
        · skip
          refine rr ?_
          refine ca [] (fitsC n) ?_
          intro x hx
          try simp only [List.cons_append, List.nil_append, List.append_nil]
          refine rr ?_
          refine we () [] trivial (hv := ?_)
          rw [hv]
          simp [packR, h0]
        · skip
          refine rr ?_
          refine we () [] trivial (hv := ?_)
          rw [hv]
          simp [packR, h0]
      · have hv : numI op n = fits16 n := by unfold numI; rw [if_neg h17, if_neg h20, if_neg h14]
        refine rr ?_
        refine ca [] (fitsC n) ?_
        intro x hx
        try simp only [List.cons_append, List.nil_append, List.append_nil]
        refine rr ?_
        refine we () [] trivial (hv := ?_)
        rw [hv]
        rfl
set_option maxHeartbeats 8000000 in
theorem rightIC (i : In) : FnC (α := Unit) Tryz.prog 79 [inG i] [] [] (fun _ => .bool (goodI i)) (fun _ => []) (fun _ => True) := by
  unfold inG
  refine fn_intro Tryz.func79 Tryz.ntmps79 rfl rfl rfl (fun w0 => ?_)
  try simp only [List.cons_append, List.nil_append, List.append_nil]
  refine rr ?_
  intro b _
  refine rr ?_
  refine ca [] (ofC i.op) ?_
  intro x hx
  try simp only [List.cons_append, List.nil_append, List.append_nil]
  refine rr ?_
  intro b1 _
  refine rr ?_
  unfold goodI
  generalize okO i.op = o
  generalize hasA i.op = ha
  generalize hasB i.op = hb
  generalize hasC i.op = hc
  generalize hI : hasI i.op = hi
  cases o
  · skip
    refine rr ?_
    exact we () [] trivial
  refine rr ?_
  refine ca [] (regC i.a ha) ?_
  intro x hx
  try simp only [List.cons_append, List.nil_append, List.append_nil]
  generalize regI i.a ha = ra
  cases ra
  · skip
    refine rr ?_
    exact we () [] trivial
  refine rr ?_
  refine ca [] (regC i.b hb) ?_
  intro x hx
  try simp only [List.cons_append, List.nil_append, List.append_nil]
  generalize regI i.b hb = rb
  cases rb
  · skip
    refine rr ?_
    exact we () [] trivial
  refine rr ?_
  refine ca [] (regC i.c hc) ?_
  intro x hx
  try simp only [List.cons_append, List.nil_append, List.append_nil]
  generalize regI i.c hc = rc
  cases rc
  · skip
    refine rr ?_
    exact we () [] trivial
  by_cases h0 : i.imm = 0
  · skip
    refine rr ?_
    refine we () [] trivial (hv := ?_)
    simp [packR, h0]
  · have h1 : decide (i.imm = 0) = false := decide_eq_false h0
    rw [h1]
    cases hi
    · skip
      refine rr ?_
      exact we () [] trivial
    · skip
      refine rr ?_
      refine ca [] (numC i.op i.imm) ?_
      intro x hx
      try simp only [List.cons_append, List.nil_append, List.append_nil]
      refine rr ?_
      exact we () [] trivial
end Go.Proofs.YteddjcpaeoceeaaGreatDoor
namespace Go.Proofs.YteddjcpaeoceeaaGreatDoor
open Go Go.Sx Go.Sx.Chunk
set_option linter.unusedVariables false
set_option linter.unusedSimpArgs false

def txt (s : ByteArray) : List UInt8 := s.data.toList
theorem txt_len (s : ByteArray) : (txt s).length = s.size := by simp [txt]
theorem txt_at (s : ByteArray) (i : Nat) (b : UInt8) (h : (txt s)[i]? = some b) : s[i]? = some b := by
  have hi := (List.getElem?_eq_some_iff.1 h).1
  rw [txt_len] at hi
  have : s[i]? = some (s[i]'hi) := by simp [hi]
  rw [this]
  have h2 : (txt s)[i]? = some (s[i]'hi) := by
    unfold txt
    rw [List.getElem?_eq_getElem (by simpa using hi)]
    simp [ByteArray.getElem_eq_getElem_data]
  rw [← h2, h]
theorem txt_some {s : ByteArray} {i : Nat} (h : i < s.size) : ∃ b, (txt s)[i]? = some b := ⟨(txt s)[i]'(by rw [txt_len]; exact h), by simp [txt_len, h]⟩
def lowB (c : UInt8) : Bool := decide (97 ≤ c.toNat) && decide (c.toNat ≤ 122)
def digB (c : UInt8) : Bool := decide (48 ≤ c.toNat) && decide (c.toNat ≤ 57)
def wordB (c : UInt8) : Bool := lowB c || digB c
def firstB : List UInt8 → Bool
  | [] => false
  | c :: _ => lowB c
def nameF (s : ByteArray) : Bool := decide (1 ≤ s.size) && (decide (s.size ≤ 16) && (firstB (txt s) && (txt s).all wordB))
def badR (r : Int) : Bool := (decide (r < 97) || decide (122 < r)) && (decide (r < 48) || decide (57 < r))
theorem badR_word (c : UInt8) : badR (c.toNat : Int) = !wordB c := by
  unfold badR wordB lowB digB
  rw [Bool.eq_iff_iff]
  simp
  omega
theorem badR_high {r : Nat} (h : 128 ≤ r) : badR (r : Int) = true := by unfold badR; simp; omega
theorem wordB_high {c : UInt8} (h : 128 ≤ c.toNat) : wordB c = false := by unfold wordB lowB digB; simp; omega
theorem all_bad {α : Type} {p : α → Bool} {l : List α} {i : Nat} {a : α} (h : l[i]? = some a) (hp : p a = false) : l.all p = false := by
  rw [List.all_eq_false]
  exact ⟨a, List.mem_of_getElem? h, by simp [hp]⟩
theorem all_take {α : Type} {p : α → Bool} {l : List α} {i : Nat} {a : α} (h : l[i]? = some a) (hp : p a = true) (ht : (l.take i).all p = true) : (l.take (i + 1)).all p = true := by
  rw [List.take_add_one, h, List.all_append, ht]
  simp [hp]

theorem badC (r : Int) : FnC (α := Unit) Tryz.prog 117 [.int .i32 r] [] [] (fun _ => .bool (badR r)) (fun _ => []) (fun _ => True) := by
  refine fn_intro Tryz.func117 Tryz.ntmps117 rfl rfl rfl (fun w0 => ?_)
  try simp only [List.cons_append, List.nil_append, List.append_nil]
  by_cases h1 : r < 97
  · by_cases h2 : r < 48
    all_goals
      refine rr ?_
      refine we () [] trivial (hv := ?_)
      simp [packR, badR, h1, h2]
  · by_cases h2 : 122 < r
    · by_cases h3 : r < 48
      all_goals
        refine rr ?_
        refine we () [] trivial (hv := ?_)
        simp [packR, badR, h1, h2, h3]
    · skip
      refine rr ?_
      refine we () [] trivial (hv := ?_)
      simp [packR, badR, h1, h2]
set_option maxHeartbeats 4000000 in
theorem indexFC (s : ByteArray) (hs : s.size ≤ maxLen) : FnC Tryz.prog 156 [.string s, .func (.func 117) #[] #[], .bool true] [] [] (fun v : Int => .int .i64 v) (fun _ => []) (fun v => decide (v < 0) = (txt s).all wordB) := by
  have hs' : s.size ≤ 9223372036854775807 := Nat.le_trans hs (by decide)
  refine fn_intro Tryz.func156 Tryz.ntmps156 rfl rfl rfl (fun w0 => ?_)
  try simp only [List.cons_append, List.nil_append, List.append_nil]
  refine rr ?_
  intro b _
  refine rr ?_
  refine w_loop (α := Nat) (fun k => [(1, .func (.func 117) #[] #[]), (2, .bool true), (10, .pointer (some ⟨b, 0, none⟩))]) (fun k => [itC b s k]) (fun k => ((txt s).take k).all wordB = true) (fun k => s.size - k) 0 ⟨rfl, rfl, rfl, trivial⟩ rfl (by simp) ?_
  intro k hk K1 hK1
  by_cases hlt : k < s.size
  · obtain ⟨c, hc⟩ := txt_some hlt
    have hc2 := txt_at s k c hc
    have hcg : s[k]'hlt = c := by
      have : s[k]? = some (s[k]'hlt) := by simp [hlt]
      rw [this] at hc2
      exact Option.some.inj hc2
    refine rr ?_
    refine cav [] (badC ((Utf8.decode s k).1 : Int)) ?_
    intro x hx
    try simp only [List.cons_append, List.nil_append, List.append_nil]
    by_cases h8 : 128 ≤ c.toNat
    · have hd := decode_high s k hlt (by rw [hcg]; exact h8)
      rw [badR_high hd.1]
      refine rr ?_
      refine we (k : Int) [] (hx := ?_)
      rw [all_bad hc (wordB_high h8)]
      simp
    · have hd := decode_ascii s k hlt (by rw [hcg]; omega)
      rw [hcg] at hd
      rw [hd]
      dsimp only
      rw [badR_word]
      cases hw : wordB c
      · skip
        refine rr ?_
        refine we (k : Int) [] (hx := ?_)
        rw [all_bad hc hw]
        simp
      · skip
        refine rr ?_
        exact w_round hK1 (k + 1) (all_take hc hw hk) (by show s.size - (k + 1) < s.size - k; omega) rfl ⟨rfl, rfl, rfl, trivial⟩
  · skip
    refine rr ?_
    refine we (-1) [] (hx := ?_)
    rw [List.take_of_length_le (by rw [txt_len]; omega)] at hk
    rw [hk]
    rfl
end Go.Proofs.YteddjcpaeoceeaaGreatDoor
namespace Go.Proofs.YteddjcpaeoceeaaGreatDoor
open Go Go.Sx Go.Sx.Chunk
set_option linter.unusedVariables false
set_option linter.unusedSimpArgs false

theorem indexFuncC (s : ByteArray) (hs : s.size ≤ maxLen) : FnC Tryz.prog 116 [.string s, .func (.func 117) #[] #[]] [] [] (fun v : Int => .int .i64 v) (fun _ => []) (fun v => decide (v < 0) = (txt s).all wordB) := by
  refine fn_intro Tryz.func116 Tryz.ntmps116 rfl rfl rfl (fun w0 => ?_)
  try simp only [List.cons_append, List.nil_append, List.append_nil]
  refine rr ?_
  refine ca [] (indexFC s hs) ?_
  intro x hx
  try simp only [List.cons_append, List.nil_append, List.append_nil]
  refine rr ?_
  exact we x [] hx
set_option maxHeartbeats 4000000 in
theorem rightNameC (s : ByteArray) (hs : s.size ≤ maxLen) : FnC (α := Unit) Tryz.prog 76 [.string s] [] [] (fun _ => .bool (nameF s)) (fun _ => []) (fun _ => True) := by
  refine fn_intro Tryz.func76 Tryz.ntmps76 rfl rfl rfl (fun w0 => ?_)
  try simp only [List.cons_append, List.nil_append, List.append_nil]
  unfold nameF
  by_cases h1 : 1 ≤ s.size
  · by_cases h2 : s.size ≤ 16
    · obtain ⟨c, hc⟩ := txt_some (s := s) (i := 0) (by omega)
      have hc2 := txt_at s 0 c hc
      have hc3 : s[(0 : Int).toNat]? = some c := hc2
      have hf : firstB (txt s) = lowB c := by
        cases ht : txt s with
        | nil => rw [ht] at hc; simp at hc
        | cons a l => rw [ht] at hc; simp at hc; subst hc; rfl
      rw [hf, decide_eq_true h1, decide_eq_true h2]
      unfold lowB
      by_cases h3 : 97 ≤ c.toNat
      · by_cases h4 : c.toNat ≤ 122
        · rw [decide_eq_true h3, decide_eq_true h4]
          refine rr ?_
          refine ca [] (indexFuncC s hs) ?_
          intro x hx
          try simp only [List.cons_append, List.nil_append, List.append_nil]
          rw [← hx]
          refine rr ?_
          refine we () [] trivial (hv := ?_)
          simp [packR]
        · rw [decide_eq_false h4]
          refine rr ?_
          refine we () [] trivial (hv := ?_)
          simp [packR, h3, h4]
          try omega
      · rw [decide_eq_false h3]
        refine rr ?_
        refine we () [] trivial (hv := ?_)
        simp [packR, h3]
        try omega
    · skip
      refine rr ?_
      refine we () [] trivial (hv := ?_)
      simp [packR, h1, h2]
      try omega
  · skip
    refine rr ?_
    refine we () [] trivial (hv := ?_)
    simp [packR, h1]
    try omega
end Go.Proofs.YteddjcpaeoceeaaGreatDoor
namespace Go.Proofs.YteddjcpaeoceeaaGreatDoor
open Go Go.Sx Go.Sx.Chunk
set_option linter.unusedVariables false
set_option linter.unusedSimpArgs false

def inL (v : ByteArray) (l : List ByteArray) : Bool := l.any fun s => decide (s = v)
/-- The map of a set. -/
def bMap (l : List ByteArray) : List (ByteArray × Value) := l.map fun s => (s, .bool true)
theorem atK_bMap (v : ByteArray) : ∀ l, atK (bMap l) v = if inL v l then some (.bool true) else none
  | [] => rfl
  | a :: l => by
    have ih := atK_bMap v l
    simp only [bMap, List.map_cons, atK] at ih ⊢
    by_cases h : a = v
    · subst h; simp [inL]
    · have h' : ¬ v = a := fun e => h e.symm
      simp only [inL, List.any_cons, h, decide_false, Bool.false_or] at ih ⊢
      first | (rw [if_neg h]; exact ih) | (rw [if_neg h']; exact ih)
theorem putK_bMap (v : ByteArray) : ∀ l, inL v l = false → putK (bMap l) v (.bool true) = bMap (l ++ [v])
  | [], _ => rfl
  | a :: l, h => by
    simp only [inL, List.any_cons, Bool.or_eq_false_iff, decide_eq_false_iff_not] at h
    have ih := putK_bMap v l h.2
    have h' : ¬ v = a := fun e => h.1 e.symm
    simp only [bMap, List.map_cons, List.cons_append, putK] at ih ⊢
    first | rw [if_neg h.1, ih] | rw [if_neg h', ih]
def mapO (m : Option Nat) (l : List ByteArray) : Chunk := match m with
  | none => genL []
  | some g => mapC Value.string g (bMap l)
def setH (b : Nat) (m : Option Nat) (oa : Option Addr) (oc : Nat) (l : List ByteArray) : List Chunk := [blk b [.map m, .slice oa l.length oc] 156, row oa oc 9 1 l.length (strC l), mapO m l]
def setOk (m : Option Nat) (l : List ByteArray) : Prop := m = none → l = []
theorem setW {b : Nat} {m : Option Nat} {oa : Option Addr} {oc : Nat} {l : List ByteArray} : allW (setH b m oa oc l) = true := by cases m <;> rfl
theorem setHasC (b : Nat) (m : Option Nat) (oa : Option Addr) (oc : Nat) (l : List ByteArray) (v : ByteArray) (hm : setOk m l) :
    FnC (α := Unit) Tryz.prog 123 [.pointer (some ⟨b, 0, none⟩), .string v] (setH b m oa oc l) [] (fun _ => .bool (inL v l)) (fun _ => setH b m oa oc l) (fun _ => True) := by
  refine fn_intro Tryz.func123 Tryz.ntmps123 rfl rfl rfl (fun w0 => ?_)
  try simp only [List.cons_append, List.nil_append, List.append_nil]
  unfold setH
  cases m with
  | none =>
    obtain rfl := hm rfl
    refine rr ?_
    exact we () [0, 0, 0] trivial
  | some g =>
    simp only [mapO]
    refine rr ?_
    rw [atK_bMap]
    refine we () [0, 0, 0] trivial (hv := ?_)
    cases h : inL v l <;> rfl
set_option maxHeartbeats 4000000 in
theorem setAddC (b : Nat) (m : Option Nat) (oa : Option Addr) (oc : Nat) (l : List ByteArray) (v : ByteArray) (hm : setOk m l) (hl : l.length ≤ 8796093021952) :
    FnC Tryz.prog 84 [.pointer (some ⟨b, 0, none⟩), .string v] (setH b m oa oc l) [] (fun _ : Option Nat × Option Addr × Nat => .bool (!inL v l)) (fun x => setH b x.1 x.2.1 x.2.2 (if inL v l then l else l ++ [v])) (fun x => setOk x.1 (if inL v l then l else l ++ [v])) := by
  refine fn_intro Tryz.func84 Tryz.ntmps84 rfl rfl rfl (fun w0 => ?_)
  try simp only [List.cons_append, List.nil_append, List.append_nil]
  refine rr ?_
  refine ca [0, 0, 0] (setHasC b m oa oc l v hm) (ho := fun _ => setW) ?_
  intro x hx
  try simp only [List.cons_append, List.nil_append, List.append_nil]
  cases h : inL v l with
  | true =>
    refine rr ?_
    exact we (m, oa, oc) [0, 0, 0] (by rw [if_pos rfl]; exact hm)
  | false =>
    unfold setH
    cases m with
    | none =>
      obtain rfl := hm rfl
      refine rr ?_
      intro g _
      show Wd _ _ (mapC Value.string g [] :: _) _
      refine rr ?_
      intro b1 _
      refine rr ?_
      rintro ⟨a1, c1⟩ ⟨hc1, _⟩
      refine rr ?_
      exact we (some g, a1, c1) [0, 0, 0] (fun h => by cases h)
    | some g =>
      simp only [mapO]
      refine rr ?_
      intro b1 _
      refine rr ?_
      rintro ⟨a1, c1⟩ ⟨hc1, _⟩
      refine rr ?_
      have hlen : l.length + 1 = (l ++ [v]).length := by simp
      have hstr : strC l ++ [Value.string v] = strC (l ++ [v]) := by simp [strC]
      rw [putK_bMap v l h, hlen, hstr]
      exact we (some g, a1, c1) [0, 0, 0] (fun h => by cases h)
/-- Each once. -/
def onceL : List ByteArray → Bool
  | [] => true
  | a :: l => !inL a l && onceL l
theorem inL_app (v : ByteArray) (a b : List ByteArray) : inL v (a ++ b) = (inL v a || inL v b) := by simp [inL]
end Go.Proofs.YteddjcpaeoceeaaGreatDoor
namespace Go.Proofs.YteddjcpaeoceeaaGreatDoor
open Go Go.Sx Go.Sx.Chunk
set_option linter.unusedVariables false
set_option linter.unusedSimpArgs false

/-- An object, and where its parts lie. -/
structure Ob where
  mk ::
  (name : ByteArray) (ca : Option Addr) (cc : Nat) (code : List In) (data : Int) (ea : Option Addr) (ec : Nat) (exps : List Sy) (ia : Option Addr) (ic : Nat) (imps : List ByteArray) (pa : Option Addr) (pc : Nat) (pats : List Pa)
def obV (o : Ob) : List Value := [.string o.name, .slice o.ca o.code.length o.cc, .int .i64 o.data, .slice o.ea o.exps.length o.ec, .slice o.ia o.imps.length o.ic, .slice o.pa o.pats.length o.pc]
def obG (o : Ob) : Value := .agg #[.string o.name, .slice o.ca o.code.length o.cc, .int .i64 o.data, .slice o.ea o.exps.length o.ec, .slice o.ia o.imps.length o.ic, .slice o.pa o.pats.length o.pc]
def obS (o : Ob) : List Chunk := [rng o.ca (insC o.code), rng o.ea (syC o.exps), rng o.ia (strC o.imps), rng o.pa (paC o.pats)]
def big : Nat := 8796093021952
/-- Everything has a size that a machine can tell. -/
structure OkOb (o : Ob) : Prop where
  name : o.name.size ≤ maxLen
  code : o.code.length ≤ 3518437208780
  exps : o.exps.length ≤ 5864062014634
  imps : o.imps.length ≤ 8796093021952
  pats : o.pats.length ≤ 5864062014634
  ens : ∀ x ∈ o.exps, x.name.size ≤ maxLen
  ins : ∀ x ∈ o.imps, x.size ≤ maxLen
theorem any_step {α : Type} {p : α → Bool} {l : List α} {k : Nat} {a : α} (h : l[k]? = some a) (hp : p a = false) (ht : (l.take k).any p = false) : (l.take (k + 1)).any p = false := by
  rw [List.take_add_one, h, List.any_append, ht]
  simp [hp]
theorem any_hit {α : Type} {p : α → Bool} {l : List α} {k : Nat} {a : α} (h : l[k]? = some a) (hp : p a = true) : l.any p = true := by
  rw [List.any_eq_true]
  exact ⟨a, List.mem_of_getElem? h, hp⟩
theorem wrongIC (i : In) : FnC (α := Unit) Tryz.prog 78 [inG i] [] [] (fun _ => .bool (!goodI i)) (fun _ => []) (fun _ => True) := by
  unfold inG
  refine fn_intro Tryz.func78 Tryz.ntmps78 rfl rfl rfl (fun w0 => ?_)
  try simp only [List.cons_append, List.nil_append, List.append_nil]
  refine rr ?_
  intro b _
  refine rr ?_
  refine ca [] (rightIC i) ?_
  intro x hx
  try simp only [List.cons_append, List.nil_append, List.append_nil]
  refine rr ?_
  exact we () [] trivial
set_option maxHeartbeats 4000000 in
theorem indexIC (a : Option Addr) (c : Nat) (l : List In) (hl : l.length ≤ 8796093021952) :
    FnC Tryz.prog 118 [.slice a l.length c, .func (.func 78) #[] #[]] [] [rng a (insC l)] (fun v : Int => .int .i64 v) (fun _ => []) (fun v => decide (0 ≤ v) = l.any (fun i => !goodI i)) := by
  refine fn_intro Tryz.func118 Tryz.ntmps118 rfl rfl rfl (fun w0 => ?_)
  try simp only [List.cons_append, List.nil_append, List.append_nil]
  refine rr ?_
  refine w_loop (α := Nat) (fun k => [(0, .slice a l.length c), (1, .func (.func 78) #[] #[]), (7, .int .i64 (l.length : Int)), (8, .int .i64 (k : Int))]) (fun k => [rng a (insC l)]) (fun k => k ≤ l.length ∧ (l.take k).any (fun i => !goodI i) = false) (fun k => l.length - k) 0 ⟨rfl, rfl, rfl, rfl, trivial⟩ rfl ⟨Nat.zero_le _, by simp⟩ ?_
  rintro k ⟨hk, hany⟩ K1 hK1
  by_cases hlt : k < l.length
  · obtain ⟨e, he⟩ := some_at hlt
    have hall : ((insC l).drop ((k : Int).toNat * 5)).take 5 = [.int .i64 e.op, .int .i64 e.a, .int .i64 e.b, .int .i64 e.c, .int .i64 e.imm] := insC_all he _ (by omega)
    have hlen := insC_len l
    refine w_use (fun w hw => (hw.pick 0 rfl).rng_some (by first | omega | decide | (simp; done) | (simp <;> omega))) ?_
    rintro ⟨g1, rfl⟩
    refine rr ?_
    refine cav [] (wrongIC e) ?_
    intro x hx
    try simp only [List.cons_append, List.nil_append, List.append_nil]
    cases hg : goodI e with
    | true =>
      refine rr ?_
      exact w_round hK1 (k + 1) ⟨by omega, any_step he (by rw [hg]; rfl) hany⟩ (by show l.length - (k + 1) < l.length - k; omega) rfl ⟨rfl, rfl, rfl, rfl, trivial⟩
    | false =>
      refine rr ?_
      refine we (k : Int) [] (hx := ?_)
      rw [any_hit he (by rw [hg]; rfl)]
      simp
  · obtain rfl : k = l.length := by omega
    rw [List.take_length] at hany
    refine rr ?_
    refine we (-1) [] (hx := ?_)
    rw [hany]
    rfl
theorem containsIC (a : Option Addr) (c : Nat) (l : List In) (hl : l.length ≤ 8796093021952) :
    FnC (α := Unit) Tryz.prog 77 [.slice a l.length c, .func (.func 78) #[] #[]] [] [rng a (insC l)] (fun _ => .bool (l.any (fun i => !goodI i))) (fun _ => []) (fun _ => True) := by
  refine fn_intro Tryz.func77 Tryz.ntmps77 rfl rfl rfl (fun w0 => ?_)
  try simp only [List.cons_append, List.nil_append, List.append_nil]
  refine rr ?_
  refine ca [] (indexIC a c l hl) ?_
  intro x hx
  try simp only [List.cons_append, List.nil_append, List.append_nil]
  refine rr ?_
  refine we () [] trivial (hv := ?_)
  rw [← hx]
  rfl
end Go.Proofs.YteddjcpaeoceeaaGreatDoor

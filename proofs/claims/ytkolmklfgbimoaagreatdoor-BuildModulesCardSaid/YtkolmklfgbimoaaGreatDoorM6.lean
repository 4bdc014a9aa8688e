/- Texts of the proof, in their order: Ckp, Ckq, Ckr, Cks, Ckt, Nm1, Nm2, Bg1, Ob1, Ob2, Ob3, Ob4, Lk1, Lk2, Lk3. -/
import Derived.Test.YtkolmklfgbimoaaGreatDoorM5
import Derived.Test.YtkolmklfgbimoaaGreatDoorM3
set_option linter.unusedVariables false
set_option linter.unusedSimpArgs false
set_option maxHeartbeats 16000000
set_option maxRecDepth 100000
namespace Go.Proofs.YtkolmklfgbimoaaGreatDoor.Cm
open Go Go.Sx Go.Sx.Chunk
section
variable {TA:Addr} {L:List (Sc.Tk×Nat)}
theorem variableC (c:Nat) (s:CS) (x:Ad) (hg:GD s) (hw:wt s+4≤1000000000000) (hda:0≤s.data∧s.data≤32000) (hx:OkX TA L s x):FnC Tryz.prog 125 [cP c] (cmH c s x) [tkB TA L,spaceV] (fun _=>.tuple #[]) (fun y:Ad=>cmH c (mVariable s) y) (fun y=>OkX TA L (mVariable s) y):=by
 have h1:=nameC c s x hx;have e1:=ex_name s;rw [variable_eq];dsimp only;generalize mHere s=pl at *;generalize mName s=a at *;obtain ⟨an,s1⟩:=a;dsimp only at *;have g1:=e1.dx.g hg;have w1:=e1.w;have da1:=e1.da;have h2:=fun y hy=>errDefC (TA:=TA) (L:=L) c s1 y an pl ⟨0,s1.data,1,false⟩ (by have:=wt_ents (Int.le_refl (wt s1));omega) (by have:=wt_begs (Int.le_refl (wt s1));omega) (g1.bs (by omega)) hy
 have d2:=e1.dx.tr (k:=1) (dx_define an pl ⟨0,s1.data,1,false⟩ s1);have da2:=define_data an pl ⟨0,s1.data,1,false⟩ s1;generalize mDefine an pl ⟨0,s1.data,1,false⟩ s1=s2 at *;have w2:=d2.w;have g2:=d2.g hg;by_cases hb:mSees [91] s2=true
 ·simp only [if_pos hb];have h3:=fun y hy=>yesC (TA:=TA) (L:=L) c s2 y [91] hy hb
  have e3:=ex_sees hb;have da3:(mTail s2).data=s2.data:=rfl;generalize mTail s2=s3 at *;have w3:=e3.w;have h4:=fun y hy=>numberC (TA:=TA) (L:=L) c s3 y hy
  have e4:=e3.tr (k := -100) (ex_number s3);have hnum:=fun h=>(ex_num (s:=s3) h).2.2
  have hnm:=(e3.dx.g g2).nm;generalize hn3:mHere s3=p3 at *;by_cases hen:(mNumber s3).2.e≠0
  ·simp only [if_pos hen];generalize mNumber s3=b at *;obtain ⟨n,s4⟩:=b;dsimp only at *;replace h1:=uh h1;replace h2:=uh h2;replace h3:=uh h3;replace h4:=uh h4;refine ug ?_;refine fn_intro Tryz.func125 Tryz.ntmps125 rfl rfl rfl (fun w0=>?_);refine rrs ?_;refine cl (h1) ?_;intro y hy;refine rrs ?_;intro b4 _;refine rr ?_;refine cl (h2 y hy) ?_;intro z hz;refine rrs ?_;refine cl (h3 z hz) ?_;intro y hy;refine rrs ?_;refine cl (h4 y hy) ?_;intro z hz;refine rrs ?_;exact en z hz
  ·simp only [if_neg hen]
   have hn32:(mNumber s3).1≤32767∧0≤(mNumber s3).1:=by
    have hx2:=ex_num hen;rw [hx2.2.2];unfold mNum;cases ht:s3.toks with
    | nil=>exact absurd ht (num_ne hx2.2.1)
    | cons t r=>exact ⟨(hnm t (by rw [ht];simp)).2,(hnm t (by rw [ht];simp)).1⟩
   generalize mNumber s3=b at *;obtain ⟨n,s4⟩:=b;dsimp only at *;have da4:=e4.da;have w4:=e4.w;have g4:=e4.dx.g g2;have hen2:s4.e=0:=by simpa using hen
   by_cases hr:n<1∨n>2000
   ·simp only [if_pos hr];have h5:=fun y=>stopC (TA:=TA) (L:=L) c s4 y 3 p3
    generalize mStop 3 p3 s4=s5 at *;replace h1:=uh h1;replace h2:=uh h2;replace h3:=uh h3;replace h4:=uh h4;replace h5:=uh h5;refine ug ?_;by_cases hn1:n<1
    all_goals
     refine fn_intro Tryz.func125 Tryz.ntmps125 rfl rfl rfl (fun w0=>?_);refine rrs ?_;refine cl (h1) ?_;intro y hy;refine rrs ?_;intro b4 _;refine rr ?_;refine cl (h2 y hy) ?_;intro z hz;refine rrs ?_;refine cl (h3 z hz) ?_;intro y hy;refine rrs ?_;refine cl (h4 y hy) ?_;intro z hz;refine rrs ?_;refine cl (h5 z) ?_;intro y hy;refine rrs ?_;exact en y hy
   ·simp only [if_neg hr];by_cases hl:s4.data+n>32000
    ·simp only [if_pos hl];have h5:=fun y=>stopC (TA:=TA) (L:=L) c s4 y 4 p3
     generalize mStop 4 p3 s4=s5 at *;replace h1:=uh h1;replace h2:=uh h2;replace h3:=uh h3;replace h4:=uh h4;replace h5:=uh h5;refine ug ?_;refine fn_intro Tryz.func125 Tryz.ntmps125 rfl rfl rfl (fun w0=>?_);refine rrs ?_;refine cl (h1) ?_;intro y hy;refine rrs ?_;intro b4 _;refine rr ?_;refine cl (h2 y hy) ?_;intro z hz;refine rrs ?_;refine cl (h3 z hz) ?_;intro y hy;refine rrs ?_;refine cl (h4 y hy) ?_;intro z hz;refine rrs ?_;refine cl (h5 z) ?_;intro y hy;refine rrs ?_;exact en y hy
    ·simp only [if_neg hl];have h5:=fun y hy=>redefineC (TA:=TA) (L:=L) c s4 y an ⟨1,s1.data,n,false⟩ g4 (by omega) hy
     have d5:=e4.dx.tr (k := -99) (dx_redefine an ⟨1,s1.data,n,false⟩ s4);have da5:=redefine_data an ⟨1,s1.data,n,false⟩ s4;generalize mRedefine an ⟨1,s1.data,n,false⟩ s4=s5 at *;have h6:=fun y hy=>mustC (TA:=TA) (L:=L) c s5 y [93] hy
     have da6:=(ex_must [93] s5).da;generalize mMust [93] s5=s6 at *;have h7:=fun y hy=>mustC (TA:=TA) (L:=L) c { s6 with data:=s6.data+n } y [59] hy
     unfold mPay;generalize mMust [59] { s6 with data:=s6.data+n }=s7 at *;replace h1:=uh h1;replace h2:=uh h2;replace h3:=uh h3;replace h4:=uh h4;replace h5:=uh h5;replace h6:=uh h6;replace h7:=uh h7;refine ug ?_;refine fn_intro Tryz.func125 Tryz.ntmps125 rfl rfl rfl (fun w0=>?_);refine rrs ?_;refine cl (h1) ?_;intro y hy;refine rrs ?_;intro b4 _;refine rr ?_;refine cl (h2 y hy) ?_;intro z hz;refine rrs ?_;refine cl (h3 z hz) ?_;intro y hy;refine rrs ?_;refine cl (h4 y hy) ?_;intro z hz;refine rrs ?_;refine cl (h5 z hz) ?_;intro y hy;refine rrs ?_;refine cl (h6 y hy) ?_;intro z hz;refine rrs ?_;refine dr [0,1,2,3,4,5,6,7,8,9,10,11] [4,6] [0,7] ?_;refine rr ?_;refine rr ?_;refine cl (h7 z (hz.same rfl rfl rfl)) ?_;intro y hy;refine rrs ?_;exact en y hy
 ·simp only [if_neg hb];have h3:=fun y hy=>noC (TA:=TA) (L:=L) c s2 y [91] hy hb
  by_cases hc:s2.e=0∧s2.data=32000
  ·simp only [if_pos hc];obtain ⟨he0,hd0⟩:=hc;have h5:=fun y=>stopC (TA:=TA) (L:=L) c s2 y 4 pl
   have da5:(mStop 4 pl s2).data=s2.data:=rfl;generalize mStop 4 pl s2=s5 at *;have h7:=fun y hy=>mustC (TA:=TA) (L:=L) c { s5 with data:=s5.data+1 } y [59] hy
   unfold mPay;generalize mMust [59] { s5 with data:=s5.data+1 }=s7 at *;replace h1:=uh h1;replace h2:=uh h2;replace h3:=uh h3;replace h5:=uh h5;replace h7:=uh h7;refine ug ?_;refine fn_intro Tryz.func125 Tryz.ntmps125 rfl rfl rfl (fun w0=>?_);refine rrs ?_;refine cl (h1) ?_;intro y hy;refine rrs ?_;intro b4 _;refine rr ?_;refine cl (h2 y hy) ?_;intro z hz;refine rrs ?_;refine cl (h3 z hz) ?_;intro y hy;refine rrs ?_;refine cl (h5 y) ?_;intro z hz;refine rrs ?_;refine dr [0,1,2,3,4,5,6,7,8,9,10,11] [4,6] [0,7] ?_;refine rr ?_;refine rr ?_;refine cl (h7 z (hz.same rfl rfl rfl)) ?_;intro y hy;refine rrs ?_;exact en y hy
  ·simp only [if_neg hc];have h7:=fun y hy=>mustC (TA:=TA) (L:=L) c { s2 with data:=s2.data+1 } y [59] hy
   unfold mPay;generalize mMust [59] { s2 with data:=s2.data+1 }=s7 at *;replace h1:=uh h1;replace h2:=uh h2;replace h3:=uh h3;replace h7:=uh h7;refine ug ?_;by_cases he0:s2.e=0
   ·have hd0:¬ s2.data=32000:=fun h=>hc ⟨he0,h⟩
    refine fn_intro Tryz.func125 Tryz.ntmps125 rfl rfl rfl (fun w0=>?_);refine rrs ?_;refine cl (h1) ?_;intro y hy;refine rrs ?_;intro b4 _;refine rr ?_;refine cl (h2 y hy) ?_;intro z hz;refine rrs ?_;refine cl (h3 z hz) ?_;intro y hy;refine rrs ?_;refine dr [0,1,2,3,4,5,6,7,8,9,10,11] [4,6] [0,7] ?_;refine rr ?_;refine rr ?_;refine cl (h7 y (hy.same rfl rfl rfl)) ?_;intro z hz;refine rrs ?_;exact en z hz
   ·skip
    refine fn_intro Tryz.func125 Tryz.ntmps125 rfl rfl rfl (fun w0=>?_);refine rrs ?_;refine cl (h1) ?_;intro y hy;refine rrs ?_;intro b4 _;refine rr ?_;refine cl (h2 y hy) ?_;intro z hz;refine rrs ?_;refine cl (h3 z hz) ?_;intro y hy;refine rrs ?_;refine dr [0,1,2,3,4,5,6,7,8,9,10,11] [4,6] [0,7] ?_;refine rr ?_;refine rr ?_;refine cl (h7 y (hy.same rfl rfl rfl)) ?_;intro z hz;refine rrs ?_;exact en z hz
end
section
variable {TA:Addr} {L:List (Sc.Tk×Nat)}
def DD (s:CS):Prop:=s.e=0→0≤s.data∧s.data≤32000
theorem no_toks {w:List UInt8} {s:CS} (h:s.toks.length=0):mSees w s=false:=by
 unfold mSees;rw [List.length_eq_zero_iff.1 h]
theorem declsC (c N:Nat) (s:CS) (x:Ad) (hN:s.toks.length<N) (hg:GD s) (hw:wt s+200≤1000000000000) (hd:DD s) (hx:OkX TA L s x):FnC Tryz.prog 65 [cP c] (cmH c s x) [tkB TA L,spaceV] (fun _=>.tuple #[]) (fun y:Ad=>cmH c (mDecls N s.toks.length s) y) (fun y=>OkX TA L (mDecls N s.toks.length s) y):=by
 generalize hR:mDecls N s.toks.length s=R;unfold cmH csC cP;refine fn_intro Tryz.func65 Tryz.ntmps65 rfl rfl rfl (fun w0=>?_);refine rrs ?_;refine lo [0] (fun z:Nat×CS×Ad=>[]) (fun z=>[(0,blk c (csC z.2.1 z.2.2) 80),(1,row z.2.2.ca z.2.2.cc 105 5 z.2.1.code.length (insC z.2.1.code)),(2,row z.2.2.pa z.2.2.pc 94 3 z.2.1.pats.length (paC z.2.1.pats)),(3,row z.2.2.na z.2.2.nc 274 5 z.2.1.ents.length (enC z.2.1.ents)),(4,row z.2.2.ba z.2.2.bc 3 1 z.2.1.begs.length (natC z.2.1.begs)),(5,row z.2.2.ea z.2.2.ec 154 2 z.2.1.exps.length (syC z.2.1.exps)),(6,row z.2.2.ia z.2.2.ic 9 1 z.2.1.imps.length (strC z.2.1.imps))]) (fun z=>OkX TA L z.2.1 z.2.2∧z.2.1.toks.length≤z.1∧z.2.1.toks.length<N∧GD z.2.1∧wt z.2.1+200≤1000000000000∧DD z.2.1∧mDecls N z.1 z.2.1=R) (fun z=>z.2.1.toks.length) (s.toks.length,s,x) ⟨hx,Nat.le_refl _,hN,hg,hw,hd,hR⟩ ?_;rintro ⟨m,q,xq⟩ ⟨hxq,hm,hqN,hqg,hqw,hqd,hqR⟩ K1 hK1;dsimp only at hxq hm hqN hqg hqw hqd hqR ⊢;unfold csC;by_cases he:q.e=0
 ·cases m with
  | zero=>
   have hz:q.toks.length=0:=by omega
   have n1:=noC (TA:=TA) (L:=L) c q xq [118,97,114] hxq (by rw [no_toks hz];decide);have n2:=noC (TA:=TA) (L:=L) c q xq [101,120,116,101,114,110,97,108] hxq (by rw [no_toks hz];decide);have n3:=fun y hy=>noC (TA:=TA) (L:=L) c q y [112,114,111,99,101,100,117,114,101] hy (by rw [no_toks hz];decide)
   have n2:=fun y hy=>noC (TA:=TA) (L:=L) c q y [101,120,116,101,114,110,97,108] hy (by rw [no_toks hz];decide)
   have hqR':q=R:=hqR;subst hqR';replace n1:=uh n1;replace n2:=uh n2;replace n3:=uh n3;refine rr ?_;refine cl (n1) ?_;intro y hy;refine rrs ?_;refine cl (n2 y hy) ?_;intro z hz;refine rrs ?_;refine cl (n3 z hz) ?_;intro y hy;refine rrs ?_;exact en y hy
  | succ m=>
   unfold mDecls at hqR;rw [if_pos he] at hqR;have hdd:=hqd he;by_cases h1:mSees [118,97,114] q=true
   ·rw [if_pos h1] at hqR;have n1:=yesC (TA:=TA) (L:=L) c q xq [118,97,114] hxq h1;have e1:=ex_sees h1;have l1:=tail_lt (sees_ne h1);have da1:(mTail q).data=q.data:=rfl;generalize mTail q=q1 at *;have w1:=e1.w;have g1:=e1.dx.g hqg;have n2:=fun y hy=>variableC (TA:=TA) (L:=L) c q1 y g1 (by omega) (by omega) hy
    have d2:=e1.dx.tr (k := -97) (dx_variable q1);have l2:=(dx_variable q1).ln;have hv:DD (mVariable q1):=fun h=>variable_data (by omega) h
    generalize mVariable q1=q2 at *;have w2:=d2.w;replace n1:=uh n1;replace n2:=uh n2;refine rr ?_;refine cl (n1) ?_;intro y hy;refine rrs ?_;refine cl (n2 y hy) ?_;intro z hz;refine rrs ?_;exact ro hK1 (m,q2,z) ⟨hz,by dsimp only;omega,by dsimp only;omega,d2.g hqg,by dsimp only;omega,hv,hqR⟩
   ·rw [if_neg h1] at hqR;have n1:=noC (TA:=TA) (L:=L) c q xq [118,97,114] hxq h1;by_cases h2:mSees [101,120,116,101,114,110,97,108] q=true
    ·rw [if_pos h2] at hqR;have n2:=fun y hy=>yesC (TA:=TA) (L:=L) c q y [101,120,116,101,114,110,97,108] hy h2
     have e1:=ex_sees h2;have l1:=tail_lt (sees_ne h2);have da1:(mTail q).data=q.data:=rfl;generalize mTail q=q1 at *;have w1:=e1.w;have g1:=e1.dx.g hqg;have n3:=fun y hy=>importedC (TA:=TA) (L:=L) c q1 y g1 (by omega) hy
     have d2:=e1.dx.tr (k := -98) (dx_imported q1);have l2:=(dx_imported q1).ln;have hv:DD (mImported q1):=fun h=>by rw [imported_data];omega
     generalize mImported q1=q2 at *;have w2:=d2.w;replace n1:=uh n1;replace n2:=uh n2;replace n3:=uh n3;refine rr ?_;refine cl (n1) ?_;intro u hu;refine rrs ?_;refine cl (n2 u hu) ?_;intro y hy;refine rrs ?_;refine cl (n3 y hy) ?_;intro z hz;refine rrs ?_;exact ro hK1 (m,q2,z) ⟨hz,by dsimp only;omega,by dsimp only;omega,d2.g hqg,by dsimp only;omega,hv,hqR⟩
    ·rw [if_neg h2] at hqR;have n2:=fun y hy=>noC (TA:=TA) (L:=L) c q y [101,120,116,101,114,110,97,108] hy h2
     by_cases h3:mSees [112,114,111,99,101,100,117,114,101] q=true
     ·rw [if_pos h3] at hqR;have n3:=fun y hy=>yesC (TA:=TA) (L:=L) c q y [112,114,111,99,101,100,117,114,101] hy h3
      have e1:=ex_sees h3;have l1:=tail_lt (sees_ne h3);have da1:(mTail q).data=q.data:=rfl;generalize mTail q=q1 at *;have w1:=e1.w;have g1:=e1.dx.g hqg;have n4:=fun y hy=>routineC (TA:=TA) (L:=L) c N q1 y (by omega) g1 (by omega) hy
      obtain ⟨d2,w2,l2⟩:=dx_routine N q1 g1;have hv:DD (mRoutine N q1):=fun h=>by rw [routine_data];omega
      generalize mRoutine N q1=q2 at *;replace n1:=uh n1;replace n2:=uh n2;replace n3:=uh n3;replace n4:=uh n4;refine rr ?_;refine cl (n1) ?_;intro u hu;refine rrs ?_;refine cl (n2 u hu) ?_;intro y hy;refine rrs ?_;refine cl (n3 y hy) ?_;intro u hu;refine rrs ?_;refine cl (n4 u hu) ?_;intro z hz;refine rrs ?_;exact ro hK1 (m,q2,z) ⟨hz,by dsimp only;omega,by dsimp only;omega,d2,by dsimp only;omega,hv,hqR⟩
     ·rw [if_neg h3] at hqR;have n3:=fun y hy=>noC (TA:=TA) (L:=L) c q y [112,114,111,99,101,100,117,114,101] hy h3
      subst hqR;replace n1:=uh n1;replace n2:=uh n2;replace n3:=uh n3;refine rr ?_;refine cl (n1) ?_;intro u hu;refine rrs ?_;refine cl (n2 u hu) ?_;intro y hy;refine rrs ?_;refine cl (n3 y hy) ?_;intro u hu;refine rrs ?_;exact en u hu
 ·have hqR':q=R:=by
   cases m with
   | zero=>exact hqR
   | succ m=>unfold mDecls at hqR;rw [if_neg he] at hqR;exact hqR
  subst hqR';refine rr ?_;exact en xq hxq
end
section
variable {TA:Addr} {L:List (Sc.Tk×Nat)}
theorem dx_named (n:ByteArray) (s:CS):Dx 0 s { s with name:=n }:=⟨fun h=>⟨h.tk,h.bg,h.nm,h.so⟩,by simp only [wt];omega,Nat.le_refl _⟩
def mLast (s5:CS):CS:=
 let s6:=mMust [46] (mMust [101,110,100] s5)
 if s6.e=0∧s6.toks≠[] then mStop 2 (mHere s6) s6 else s6
def mBody (N:Nat) (begin_:Int) (s4:CS):CS:=mPut ⟨20,0,0,0,0⟩ (mStmts N (mMark ⟨10,29,0,0,0⟩ 4 0 (mLand begin_ (mMust [98,101,103,105,110] s4))))
def mHead (s1:CS):CS:=mOpen (mMust [59] { (mName s1).2 with name:=Sc.bs (mName s1).1 })
theorem program_eq (N:Nat) (s:CS):mProgram N s=if mSees [112,114,111,103,114,97,109] s=true
  then mLast (mBody N ((mHead (mTail s)).code.length:Int) (mDecls N (mJump ⟨17,0,0,0,0⟩ (mHead (mTail s))).toks.length (mJump ⟨17,0,0,0,0⟩ (mHead (mTail s)))))
  else mLast (mDecls N (mHead (mMust [109,111,100,117,108,101] s)).toks.length (mHead (mMust [109,111,100,117,108,101] s))):=by
 unfold mProgram;dsimp only;by_cases h:mSees [112,114,111,103,114,97,109] s=true
 ·simp only [if_pos h];rfl
 ·simp only [if_neg h];rfl
theorem dx_head (s1:CS):Dx 1 s1 (mHead s1):=(((ex_name s1).dx.tr (k:=0) (dx_named _ _)).tr (k:=0) (ex_must _ _).dx).tr (dx_open _)
theorem head_data (s1:CS):(mHead s1).data=s1.data:=by
 unfold mHead;show (mMust [59] _).data=_
 rw [must_data];exact (ex_name s1).da
theorem programC (c N:Nat) (s:CS) (x:Ad) (hN:s.toks.length<N) (hg:GD s) (hw:wt s+400≤1000000000000) (hd:0≤s.data∧s.data≤32000) (hx:OkX TA L s x):FnC Tryz.prog 28 [cP c] (cmH c s x) [tkB TA L,spaceV] (fun _=>.tuple #[]) (fun y:Ad=>cmH c (mProgram N s) y) (fun y=>OkX TA L (mProgram N s) y):=by
 rw [program_eq];by_cases hm:mSees [112,114,111,103,114,97,109] s=true
 ·rw [if_pos hm];have h1:=yesC (TA:=TA) (L:=L) c s x [112,114,111,103,114,97,109] hx hm;have d1:=(ex_sees hm).dx;have da1:(mTail s).data=s.data:=rfl;generalize mTail s=s1 at *;have w1:=d1.w;have hp1:=d1.ln;have h2:=fun y hy=>nameC (TA:=TA) (L:=L) c s1 y hy
  have d2:=d1.tr (k := -100) (ex_name s1).dx;have d3:=d1.tr (k := -99) (dx_head s1);have da3:=head_data s1;unfold mHead at *;generalize mName s1=a at *;obtain ⟨an,s2⟩:=a;dsimp only at *;have h3:=fun y hy=>mustC (TA:=TA) (L:=L) c { s2 with name:=Sc.bs an } y [59] hy
  have d4:=(d2.tr (k := -100) (dx_named (Sc.bs an) s2)).tr (k := -100) (ex_must [59] _).dx;generalize mMust [59] { s2 with name:=Sc.bs an }=s3 at *;have w4:=d4.w;have h4:=fun y hy=>openC (TA:=TA) (L:=L) c s3 y (by have:=wt_begs (Int.le_refl (wt s3));omega) hy
  generalize mOpen s3=s4 at *;have w5:=d3.w;have h5:=fun y hy=>jumpC (TA:=TA) (L:=L) c s4 y ⟨17,0,0,0,0⟩ (by have:=wt_code (Int.le_refl (wt s4));omega) (by have:=wt_pats (Int.le_refl (wt s4));omega) hy
  have d5:=d3.tr (k := -97) (ex_jump ⟨17,0,0,0,0⟩ s4).dx;have da5:=(ex_jump ⟨17,0,0,0,0⟩ s4).da;generalize mJump ⟨17,0,0,0,0⟩ s4=s5 at *;have w6:=d5.w;have l5:=d5.ln;have g5:=d5.g hg;have h6:=fun y hy=>declsC (TA:=TA) (L:=L) c N s5 y (by omega) g5 (by omega) (fun _=>by omega) hy
  obtain ⟨g6,w7,l6⟩:=dx_decls N s5.toks.length s5 g5;generalize mDecls N s5.toks.length s5=s6 at *;unfold mBody;have h7:=fun y hy=>mustC (TA:=TA) (L:=L) c s6 y [98,101,103,105,110] hy
  have d7:=(ex_must [98,101,103,105,110] s6).dx;generalize mMust [98,101,103,105,110] s6=s7 at *;have w8:=d7.w;have h8:=fun y hy=>landC (TA:=TA) (L:=L) c s7 y (s4.code.length:Int) (by have:=wt_code (Int.le_refl (wt s4));omega) (by have:=wt_code (Int.le_refl (wt s7));omega) hy
  have d8:=d7.tr (k:=0) (ex_land (s4.code.length:Int) s7).dx;generalize mLand (s4.code.length:Int) s7=s8 at *;have w9:=d8.w;have h9:=fun y hy=>markC (TA:=TA) (L:=L) c s8 y ⟨10,29,0,0,0⟩ 4 0 (by have:=wt_code (Int.le_refl (wt s8));omega) (by have:=wt_pats (Int.le_refl (wt s8));omega) hy
  have d9:=d8.tr (k:=2) (ex_mark ⟨10,29,0,0,0⟩ 4 0 s8).dx;generalize mMark ⟨10,29,0,0,0⟩ 4 0 s8=s9 at *;have w10:=d9.w;have l9:=d9.ln;have g9:=d9.g g6;have hA:=fun y hy=>stmtsN (TA:=TA) (L:=L) c N s9 (by omega) g9.gd (by omega) y hy
  have dA:=d9.tr (k:=2) (ex_stmts N s9).dx;generalize mStmts N s9=sA at *;have wA:=dA.w;have hB:=fun y hy=>putC (TA:=TA) (L:=L) c sA y ⟨20,0,0,0,0⟩ (by have:=wt_code (Int.le_refl (wt sA));omega) hy
  generalize mPut ⟨20,0,0,0,0⟩ sA=sB at *;unfold mLast;dsimp only;have hC:=fun y hy=>mustC (TA:=TA) (L:=L) c sB y [101,110,100] hy
  generalize mMust [101,110,100] sB=sC at *;have hD:=fun y hy=>mustC (TA:=TA) (L:=L) c sC y [46] hy
  generalize mMust [46] sC=sD at *;by_cases hc:sD.e=0∧sD.toks≠[]
  ·rw [if_pos hc];obtain ⟨he,ht⟩:=hc
   have htl:¬ (sD.toks.length:Int)≤0:=by
    have:=List.length_pos_iff.2 ht;omega
   have hE:=fun y hy=>hereC (TA:=TA) (L:=L) c sD y hy
   have hF:=fun y=>stopC (TA:=TA) (L:=L) c sD y 2 (mHere sD)
   generalize mStop 2 (mHere sD) sD=sE at *;generalize mHere sD=pE at *;replace h1:=uh h1;replace h2:=uh h2;replace h3:=uh h3;replace h4:=uh h4;replace h5:=uh h5;replace h6:=uh h6;replace h7:=uh h7;replace h8:=uh h8;replace h9:=uh h9;replace hA:=uh hA;replace hB:=uh hB;replace hC:=uh hC;replace hD:=uh hD;replace hE:=uh hE;replace hF:=uh hF;refine ug ?_;refine fn_intro Tryz.func28 Tryz.ntmps28 rfl rfl rfl (fun w0=>?_);refine rrs ?_;refine cl (h1) ?_;intro y hy;refine rrs ?_;refine cl (h2 y hy) ?_;intro z hz;refine rrs ?_;refine cl (h3 z (hz.same rfl rfl rfl)) ?_;intro y hy;refine rrs ?_;refine cl (h4 y hy) ?_;intro z hz;refine rrs ?_;refine cl (h5 z hz) ?_;intro y hy;refine rrs ?_;refine cl (h6 y hy) ?_;intro z hz;refine rrs ?_;refine cl (h7 z hz) ?_;intro y hy;refine rrs ?_;refine cl (h8 y hy) ?_;intro z hz;refine rrs ?_;refine cl (h9 z hz) ?_;intro y hy;refine rrs ?_;refine cl (hA y hy) ?_;intro z hz;refine rrs ?_;refine cl (hB z hz) ?_;intro y hy;refine rrs ?_;refine cl (hC y hy) ?_;intro z hz;refine rrs ?_;refine cl (hD z hz) ?_;intro y hy;refine rrs ?_;refine cl (hE y hy) ?_;intro _ hz;try simp only [Sx.ap1,Sx.ap2,Sx.ap3]
   cases hz;refine rr ?_;refine cl (hF y) ?_;intro z hz;refine rrs ?_;exact en z hz
  ·rw [if_neg hc];replace h1:=uh h1;replace h2:=uh h2;replace h3:=uh h3;replace h4:=uh h4;replace h5:=uh h5;replace h6:=uh h6;replace h7:=uh h7;replace h8:=uh h8;replace h9:=uh h9;replace hA:=uh hA;replace hB:=uh hB;replace hC:=uh hC;replace hD:=uh hD;refine ug ?_;by_cases he:sD.e=0
   ·have ht:sD.toks=[]:=by
     by_cases h:sD.toks=[]
     ·exact h
     ·exact absurd ⟨he,h⟩ hc
    have htl:(sD.toks.length:Int)≤0:=by rw [ht];decide
    refine fn_intro Tryz.func28 Tryz.ntmps28 rfl rfl rfl (fun w0=>?_);refine rrs ?_;refine cl (h1) ?_;intro y hy;refine rrs ?_;refine cl (h2 y hy) ?_;intro z hz;refine rrs ?_;refine cl (h3 z (hz.same rfl rfl rfl)) ?_;intro y hy;refine rrs ?_;refine cl (h4 y hy) ?_;intro z hz;refine rrs ?_;refine cl (h5 z hz) ?_;intro y hy;refine rrs ?_;refine cl (h6 y hy) ?_;intro z hz;refine rrs ?_;refine cl (h7 z hz) ?_;intro y hy;refine rrs ?_;refine cl (h8 y hy) ?_;intro z hz;refine rrs ?_;refine cl (h9 z hz) ?_;intro y hy;refine rrs ?_;refine cl (hA y hy) ?_;intro z hz;refine rrs ?_;refine cl (hB z hz) ?_;intro y hy;refine rrs ?_;refine cl (hC y hy) ?_;intro z hz;refine rrs ?_;refine cl (hD z hz) ?_;intro y hy;refine rrs ?_;exact en y hy
   ·skip
    refine fn_intro Tryz.func28 Tryz.ntmps28 rfl rfl rfl (fun w0=>?_);refine rrs ?_;refine cl (h1) ?_;intro y hy;refine rrs ?_;refine cl (h2 y hy) ?_;intro z hz;refine rrs ?_;refine cl (h3 z (hz.same rfl rfl rfl)) ?_;intro y hy;refine rrs ?_;refine cl (h4 y hy) ?_;intro z hz;refine rrs ?_;refine cl (h5 z hz) ?_;intro y hy;refine rrs ?_;refine cl (h6 y hy) ?_;intro z hz;refine rrs ?_;refine cl (h7 z hz) ?_;intro y hy;refine rrs ?_;refine cl (h8 y hy) ?_;intro z hz;refine rrs ?_;refine cl (h9 z hz) ?_;intro y hy;refine rrs ?_;refine cl (hA y hy) ?_;intro z hz;refine rrs ?_;refine cl (hB z hz) ?_;intro y hy;refine rrs ?_;refine cl (hC y hy) ?_;intro z hz;refine rrs ?_;refine cl (hD z hz) ?_;intro y hy;refine rrs ?_;exact en y hy
 ·rw [if_neg hm];have h0:=noC (TA:=TA) (L:=L) c s x [112,114,111,103,114,97,109] hx hm;have h1:=fun y hy=>mustC (TA:=TA) (L:=L) c s y [109,111,100,117,108,101] hy
  have d1:=(ex_must [109,111,100,117,108,101] s).dx;have da1:=(ex_must [109,111,100,117,108,101] s).da;generalize mMust [109,111,100,117,108,101] s=s1 at *;have w1:=d1.w;have hp1:=d1.ln;have h2:=fun y hy=>nameC (TA:=TA) (L:=L) c s1 y hy
  have d2:=d1.tr (k:=0) (ex_name s1).dx;have d3:=d1.tr (k:=1) (dx_head s1);have da3:=head_data s1;unfold mHead at *;generalize mName s1=a at *;obtain ⟨an,s2⟩:=a;dsimp only at *;have h3:=fun y hy=>mustC (TA:=TA) (L:=L) c { s2 with name:=Sc.bs an } y [59] hy
  have d4:=(d2.tr (k:=0) (dx_named (Sc.bs an) s2)).tr (k:=0) (ex_must [59] _).dx;generalize mMust [59] { s2 with name:=Sc.bs an }=s3 at *;have w4:=d4.w;have h4:=fun y hy=>openC (TA:=TA) (L:=L) c s3 y (by have:=wt_begs (Int.le_refl (wt s3));omega) hy
  generalize mOpen s3=s5 at *;have w6:=d3.w;have l5:=d3.ln;have g5:=d3.g hg;have h6:=fun y hy=>declsC (TA:=TA) (L:=L) c N s5 y (by omega) g5 (by omega) (fun _=>by omega) hy
  generalize mDecls N s5.toks.length s5=sB at *;unfold mLast;dsimp only;have hC:=fun y hy=>mustC (TA:=TA) (L:=L) c sB y [101,110,100] hy
  generalize mMust [101,110,100] sB=sC at *;have hD:=fun y hy=>mustC (TA:=TA) (L:=L) c sC y [46] hy
  generalize mMust [46] sC=sD at *;by_cases hc:sD.e=0∧sD.toks≠[]
  ·rw [if_pos hc];obtain ⟨he,ht⟩:=hc
   have htl:¬ (sD.toks.length:Int)≤0:=by
    have:=List.length_pos_iff.2 ht;omega
   have hE:=fun y hy=>hereC (TA:=TA) (L:=L) c sD y hy
   have hF:=fun y=>stopC (TA:=TA) (L:=L) c sD y 2 (mHere sD)
   generalize mStop 2 (mHere sD) sD=sE at *;generalize mHere sD=pE at *;replace h0:=uh h0;replace h1:=uh h1;replace h2:=uh h2;replace h3:=uh h3;replace h4:=uh h4;replace h6:=uh h6;replace hC:=uh hC;replace hD:=uh hD;replace hE:=uh hE;replace hF:=uh hF;refine ug ?_;refine fn_intro Tryz.func28 Tryz.ntmps28 rfl rfl rfl (fun w0=>?_);refine rrs ?_;refine cl (h0) ?_;intro z hz;refine rrs ?_;refine cl (h1 z hz) ?_;intro y hy;refine rrs ?_;refine cl (h2 y hy) ?_;intro z hz;refine rrs ?_;refine cl (h3 z (hz.same rfl rfl rfl)) ?_;intro y hy;refine rrs ?_;refine cl (h4 y hy) ?_;intro z hz;refine rrs ?_;refine cl (h6 z hz) ?_;intro y hy;refine rrs ?_;refine cl (hC y hy) ?_;intro z hz;refine rrs ?_;refine cl (hD z hz) ?_;intro y hy;refine rrs ?_;refine cl (hE y hy) ?_;intro _ hz;try simp only [Sx.ap1,Sx.ap2,Sx.ap3]
   cases hz;refine rr ?_;refine cl (hF y) ?_;intro z hz;refine rrs ?_;exact en z hz
  ·rw [if_neg hc];replace h0:=uh h0;replace h1:=uh h1;replace h2:=uh h2;replace h3:=uh h3;replace h4:=uh h4;replace h6:=uh h6;replace hC:=uh hC;replace hD:=uh hD;refine ug ?_;by_cases he:sD.e=0
   ·have ht:sD.toks=[]:=by
     by_cases h:sD.toks=[]
     ·exact h
     ·exact absurd ⟨he,h⟩ hc
    have htl:(sD.toks.length:Int)≤0:=by rw [ht];decide
    refine fn_intro Tryz.func28 Tryz.ntmps28 rfl rfl rfl (fun w0=>?_);refine rrs ?_;refine cl (h0) ?_;intro z hz;refine rrs ?_;refine cl (h1 z hz) ?_;intro y hy;refine rrs ?_;refine cl (h2 y hy) ?_;intro z hz;refine rrs ?_;refine cl (h3 z (hz.same rfl rfl rfl)) ?_;intro y hy;refine rrs ?_;refine cl (h4 y hy) ?_;intro z hz;refine rrs ?_;refine cl (h6 z hz) ?_;intro y hy;refine rrs ?_;refine cl (hC y hy) ?_;intro z hz;refine rrs ?_;refine cl (hD z hz) ?_;intro y hy;refine rrs ?_;exact en y hy
   ·skip
    refine fn_intro Tryz.func28 Tryz.ntmps28 rfl rfl rfl (fun w0=>?_);refine rrs ?_;refine cl (h0) ?_;intro z hz;refine rrs ?_;refine cl (h1 z hz) ?_;intro y hy;refine rrs ?_;refine cl (h2 y hy) ?_;intro z hz;refine rrs ?_;refine cl (h3 z (hz.same rfl rfl rfl)) ?_;intro y hy;refine rrs ?_;refine cl (h4 y hy) ?_;intro z hz;refine rrs ?_;refine cl (h6 z hz) ?_;intro y hy;refine rrs ?_;refine cl (hC y hy) ?_;intro z hz;refine rrs ?_;refine cl (hD z hz) ?_;intro y hy;refine rrs ?_;exact en y hy
end
end Go.Proofs.YtkolmklfgbimoaaGreatDoor.Cm
namespace Go.Proofs.YtkolmklfgbimoaaGreatDoor.Sc
open Go
theorem numL_le:∀ (l:List UInt8) (n:Int),n≤32767→numL l n≤32767
 | [],n,h=>h
 | b::l,n,h=>by
  simp only [numL];split
  ·decide
  ·exact numL_le l _ (by omega)
theorem scanD_len:∀ (n p:Nat) (l:List UInt8),l.length≤n→(scanD p l).1.length≤l.length
 | n,p,[],_=>Nat.le_refl _
 | 0,p,c::r,h=>by simp at h
 | n+1,p,c::r,h=>by
  rw [scanD_cons];simp only [List.length_cons,Nat.add_le_add_iff_right] at h;split
  ·have:=scanD_len n (p+1) r h;simp;omega
  ·split
   ·split
    ·simp
    ·refine Nat.le_trans (scanD_len n _ _ (by simp;omega)) (by simp;omega)
   ·split
    ·simp
    ·rename_i he;have:=tokR_len (c:=c) (r:=r) (by simpa using he);unfold consT;split
     ·have:=scanD_len n (p+(tokR (c::r)).2.1) ((c::r).drop (tokR (c::r)).2.1) (by simp;omega);simp only [List.length_cons,List.length_drop] at this ⊢;simp only [List.length_cons] at *;omega
     ·simp
structure OkT (t:Tk):Prop where
 num:0≤t.num∧t.num≤32767
 kind:t.kind=1∨t.kind=2∨t.kind=3
 len:t.kind=1→1≤t.text.length∧t.text.length≤16
 two:t.kind=2→t.text=[]
theorem tokR_ok {c:UInt8} {r:List UInt8} (h:(tokR (c::r)).2.2=0):OkT (tokR (c::r)).1:=by
 unfold tokR at h ⊢;dsimp only at h ⊢;split
 ·rename_i hl;rw [if_pos hl] at h;split
  ·rename_i h16;rw [if_pos h16] at h;exact absurd h (by decide)
  ·rename_i h16;refine ⟨⟨Int.le_refl 0,(by decide:(0:Int)≤32767)⟩,.inl rfl,fun _=>?_,fun h=>absurd (show (1:Int)=2 from h) (by decide)⟩;have h1:1≤runL isLD (c::r):=runL_pos (by simp [isLD,hl]);have h2:=runL_le isLD (c::r);simp only [List.length_map,List.length_take];omega
 ·rename_i hl;rw [if_neg hl] at h;split
  ·rename_i hd;rw [if_pos hd] at h;split
   ·rename_i hn;rw [if_pos hn] at h;exact absurd h (by decide)
   ·rename_i hn;exact ⟨⟨by dsimp only;omega,numL_le _ _ (by decide)⟩,.inr (.inl rfl),fun h=>absurd (show (2:Int)=1 from h) (by decide),fun _=>rfl⟩
  ·rename_i hd;rw [if_neg hd] at h;split
   ·rename_i hs;rw [if_pos hs] at h;exact absurd h (by decide)
   ·exact ⟨⟨Int.le_refl 0,(by decide:(0:Int)≤32767)⟩,.inr (.inr rfl),fun h=>absurd (show (3:Int)=1 from h) (by decide),fun h=>absurd (show (3:Int)=2 from h) (by decide)⟩
theorem scanD_ok:∀ (n p:Nat) (l:List UInt8),l.length≤n→∀ t∈(scanD p l).1,OkT t.1
 | n,p,[],_,t,ht=>by simp [scanD_nil] at ht
 | 0,p,c::r,h,t,ht=>by simp at h
 | n+1,p,c::r,h,t,ht=>by
  rw [scanD_cons] at ht;simp only [List.length_cons,Nat.add_le_add_iff_right] at h;split at ht
  ·exact scanD_ok n _ _ h t ht
  ·split at ht
   ·split at ht
    ·simp at ht
    ·exact scanD_ok n _ _ (by simp;omega) t ht
   ·split at ht
    ·simp at ht
    ·rename_i he;have he':(tokR (c::r)).2.2=0:=by simpa using he
     have hl:=tokR_len he';unfold consT at ht;split at ht
     ·rcases List.mem_cons.1 ht with rfl | ht
      ·exact tokR_ok he'
      ·exact scanD_ok n _ _ (by simp only [List.length_drop,List.length_cons] at *;omega) t ht
     ·simp at ht
end Go.Proofs.YtkolmklfgbimoaaGreatDoor.Sc
namespace Go.Proofs.YtkolmklfgbimoaaGreatDoor.Cm
open Go Go.Sx Go.Sx.Chunk
section
variable {TA:Addr} {L:List (Sc.Tk×Nat)}
theorem dx_program (N:Nat) (s:CS) (hg:GD s):wt (mProgram N s)≤wt s+10:=by
 rw [program_eq]
 have hl:∀ q,wt (mLast q)≤wt q:=fun q=>by
  unfold mLast;dsimp only;have h:=((ex_must [101,110,100] q).tr (k:=0) (ex_must [46] _))
  split
  ·have:=(h.tr (k:=0) (ex_stop 2 (mHere (mMust [46] (mMust [101,110,100] q))) _)).w;omega
  ·have:=h.w;omega
 split
 ·rename_i hm;have d1:=((ex_sees hm).dx.tr (k := -99) (dx_head _)).tr (k := -97) (ex_jump ⟨17,0,0,0,0⟩ _).dx;obtain ⟨g,w,ln⟩:=dx_decls N (mJump ⟨17,0,0,0,0⟩ (mHead (mTail s))).toks.length _ (d1.g hg);have w1:=d1.w;refine Int.le_trans (hl _) ?_;unfold mBody;have d2:=((((ex_must [98,101,103,105,110] (mDecls N (mJump ⟨17,0,0,0,0⟩ (mHead (mTail s))).toks.length (mJump ⟨17,0,0,0,0⟩ (mHead (mTail s))))).tr (k:=0) (ex_land ((mHead (mTail s)).code.length:Int) _)).tr (k:=2) (ex_mark ⟨10,29,0,0,0⟩ 4 0 _)).tr (k:=2) (ex_stmts N _)).tr (k:=3) (ex_put ⟨20,0,0,0,0⟩ _);have:=d2.w;omega
 ·have d1:=(ex_must [109,111,100,117,108,101] s).dx.tr (k:=1) (dx_head _);obtain ⟨g,w,ln⟩:=dx_decls N (mHead (mMust [109,111,100,117,108,101] s)).toks.length _ (d1.g hg);have w1:=d1.w;have:=hl (mDecls N (mHead (mMust [109,111,100,117,108,101] s)).toks.length (mHead (mMust [109,111,100,117,108,101] s)));omega
def ob0:Ob6:=⟨.empty,[],0,[],[],[]⟩
def compO (s:List UInt8):Ob6:=(compF s).1.getD ob0
theorem comp_len (s:List UInt8):(compO s).code.length≤4096:=by
 unfold compO compF;generalize Sc.scanD 0 s=r;obtain ⟨l,pl,e⟩:=r;dsimp only;by_cases he:e≠0
 ·simp only [if_pos he];exact Nat.zero_le _
 ·simp only [if_neg he];generalize mProgram (l.length+1) (cs0 l (s.length:Int))=q;by_cases hA:q.e=0∧q.code.length>4096
  ·rw [if_pos hA,if_pos (stop_e _ _ _ (by decide))];exact Nat.zero_le _
  ·rw [if_neg hA];by_cases hB:q.e≠0
   ·rw [if_pos hB];exact Nat.zero_le _
   ·rw [if_neg hB];show q.code.length≤4096
    have hB2:q.e=0:=by simpa using hB
    have:¬ q.code.length>4096:=fun h=>hA ⟨hB2,h⟩
    omega
def csX (s:CS) (x:Ad) (oc:Option Addr) (on:Nat) (ok:Nat) (pc:Option Addr) (pn pk:Nat):List Value:=[.slice x.ta s.toks.length x.tc,.int .i64 s.en,.slice x.ca s.code.length x.cc,.slice x.pa s.pats.length x.pc,.int .i64 (s.taken:Int),.slice x.na s.ents.length x.nc,.slice x.ba s.begs.length x.bc,.string s.name,.slice oc on ok,.int .i64 s.data,.slice x.ea s.exps.length x.ec,.slice x.ia s.imps.length x.ic,.slice pc pn pk,.int .i64 s.e,.int .i64 s.bad,.int .i64 (s.fac:Int),.int .i64 (s.nest:Int)]
theorem stopX (c:Nat) (s:CS) (x:Ad) (e pl:Int) (oc:Option Addr) (on ok:Nat) (pc:Option Addr) (pn pk:Nat):FnC (α:=Unit) Tryz.prog 31 [cP c,.int .i64 e,.int .i64 pl] [blk c (csX s x oc on ok pc pn pk) 80] [] (fun _=>.tuple #[]) (fun _=>[blk c (csX (mStop e pl s) { x with ta:=none,tc:=0 } oc on ok pc pn pk) 80]) (fun _=>True):=by
 unfold csX cP;refine fn_intro Tryz.func31 Tryz.ntmps31 rfl rfl rfl (fun w0=>?_);try simp only [Sx.ap1,Sx.ap2,Sx.ap3]
 by_cases h:s.e=0
 ·skip
  refine rr ?_;exact en () trivial (hp:=by unfold mStop;simp only [if_pos h];(repeat (first | exact Has.nil | (apply Has.cons;focus ((repeat (first | exact pick_here | apply pick_there));done)) | apply Has.nrow | apply Has.gen0)))
 ·skip
  refine rr ?_;exact en () trivial (hp:=by unfold mStop;simp only [if_neg h];(repeat (first | exact Has.nil | (apply Has.cons;focus ((repeat (first | exact pick_here | apply pick_there));done)) | apply Has.nrow | apply Has.gen0)))
structure Ax where
 mk ::
 (ca:Option Addr) (cc:Nat) (pa:Option Addr) (pc:Nat) (ea:Option Addr) (ec:Nat) (ia:Option Addr) (ic:Nat)
def o6G (o:Ob6) (x:Ax):Value:=.agg #[.string o.name,.slice x.ca o.code.length x.cc,.int .i64 o.data,.slice x.ea o.exps.length x.ec,.slice x.ia o.imps.length x.ic,.slice x.pa o.pats.length x.pc]
def o6H (o:Ob6) (x:Ax):List Chunk:=[row x.ca x.cc 105 5 o.code.length (insC o.code),row x.pa x.pc 94 3 o.pats.length (paC o.pats),row x.ea x.ec 154 2 o.exps.length (syC o.exps),row x.ia x.ic 9 1 o.imps.length (strC o.imps)]
theorem compileC (s:ByteArray) (hs:s.size≤1000000):FnC Tryz.prog 13 [.string s] [] [spaceV] (fun x:Ax=>.tuple #[o6G (compO (Sc.txt s)) x,.int .i64 (compF (Sc.txt s)).2.1,.int .i64 (compF (Sc.txt s)).2.2]) (fun x:Ax=>o6H (compO (Sc.txt s)) x) (fun _=>True):=by
 have h1:=Sc.scanC s hs;have hlen:=Sc.scanD_len _ 0 (Sc.txt s) (Nat.le_refl _);have hok:=Sc.scanD_ok _ 0 (Sc.txt s) (Nat.le_refl _);rw [Sc.txt_len] at hlen;unfold compO compF;rw [Sc.txt_len];generalize Sc.scanD 0 (Sc.txt s)=r at *;obtain ⟨l,pl,e⟩:=r;unfold Sc.scanV at h1;dsimp only at *;by_cases he:e≠0
 ·simp only [if_pos he];unfold o6G o6H ob0;refine fn_intro Tryz.func13 Tryz.ntmps13 rfl rfl rfl (fun w0=>?_);refine rrs ?_;intro b2 _;refine rr ?_;refine cl (h1) ?_;intro x _;refine rrs ?_;exact en ⟨none,0,none,0,none,0,none,0⟩ trivial
 ·simp only [if_neg he];refine fn_intro Tryz.func13 Tryz.ntmps13 rfl rfl rfl (fun w0=>?_);refine rrs ?_;intro b2 _;refine rr ?_;refine cl (h1) ?_;intro x _;try simp only [Sx.ap1,Sx.ap2,Sx.ap3]
  obtain ⟨ta,tc⟩:=x;dsimp only;refine rr ?_;intro c _;refine rr ?_;have hg0:GD (cs0 l (s.size:Int)):=⟨Nat.zero_le _,by simp [cs0],fun t ht=>⟨(hok t ht).num.1,(hok t ht).num.2⟩,by simp [cs0]⟩
  have hw0:wt (cs0 l (s.size:Int))≤100000000:=by simp [wt,cs0];omega
  have hwP:=dx_program (l.length+1) _ hg0;refine w_use (fun w hw=>(hw.pick 1 rfl).row_cap) fun hcap=>?_
  have h2:=fun TA hx=>programC (TA:=TA) (L:=l) c (l.length+1) (cs0 l (s.size:Int)) ⟨ta,tc,none,0,none,0,none,0,none,0,none,0,none,0⟩ (by simp [cs0]) hg0 (by omega) (by simp [cs0]) hx
  generalize mProgram (l.length+1) (cs0 l (s.size:Int))=sP at *;have hcn:=wt_code (Int.le_refl (wt sP));have hpn:=wt_pats (Int.le_refl (wt sP));have h3:=fun y=>codeC c sP y (by omega)
  have h4:=fun y=>patchesC c sP y (by omega)
  have h5:=fun y e pl oc on ok pc pn pk=>stopX c sP y e pl oc on ok pc pn pk
  unfold tkB at h2;replace h2:=uh h2;replace h3:=uh h3;replace h4:=uh h4;unfold csX at h5;unfold o6G o6H;by_cases hA:sP.e=0∧sP.code.length>4096
  ·rw [if_pos hA];obtain ⟨hA1,hA2⟩:=hA;rw [if_pos (show (mStop 4 (s.size:Int) sP).e≠0 from stop_e _ _ _ (by decide))];have hst:(mStop 4 (s.size:Int) sP).e=4∧(mStop 4 (s.size:Int) sP).bad=(s.size:Int):=by simp [mStop,hA1]
   rcases l with _ | ⟨t,l⟩
   ·skip
    refine cl (h2 ⟨0,0,none⟩ (OkX.none rfl)) ?_;intro y hy;refine rrs ?_;refine dx [0,1,2,3,4,6,7,8,5,9,10,11,12,13,14,15,16,17] [] [] ?_;refine rr ?_;refine cle (h3 y) ?_;intro z _;refine rrs ?_;refine cle (h4 y) ?_;intro u _;refine rrs ?_;refine cl (h5 y 4 (s.size:Int) z.1 sP.code.length z.2 u.1 sP.pats.length u.2) ?_;intro _ _;refine rrs ?_;refine dr [0,1,2,3,4,5,6,7,8,9,10,11] [4,8] [0] ?_;refine rr ?_;exact en ⟨none,0,none,0,none,0,none,0⟩ trivial
   ·skip
    refine w_use (fun w hw=>(hw.pick 1 rfl).row_some (by first | omega | decide | (simp;done) | (simp <;> omega))) ?_;rintro ⟨g1,rfl⟩;refine cl (h2 ⟨g1,0,none⟩ ⟨fun _=>⟨0,rfl,rfl⟩,hcap⟩) ?_;intro y hy;refine rrs ?_;refine dx [0,1,2,3,4,6,7,8,5,9,10,11,12,13,14,15,16,17] [] [] ?_;refine rr ?_;refine cle (h3 y) ?_;intro z _;refine rrs ?_;refine cle (h4 y) ?_;intro u _;refine rrs ?_;refine cl (h5 y 4 (s.size:Int) z.1 sP.code.length z.2 u.1 sP.pats.length u.2) ?_;intro _ _;refine rrs ?_;refine dr [0,1,2,3,4,5,6,7,8,9,10,11] [4,8] [0] ?_;refine rr ?_;exact en ⟨none,0,none,0,none,0,none,0⟩ trivial
  ·rw [if_neg hA];by_cases hB:sP.e≠0
   ·rw [if_pos hB];rcases l with _ | ⟨t,l⟩
    ·skip
     refine cl (h2 ⟨0,0,none⟩ (OkX.none rfl)) ?_;intro y hy;refine rrs ?_;refine dx [0,1,2,3,4,6,7,8,5,9,10,11,12,13,14,15,16,17] [] [] ?_;refine rr ?_;refine cle (h3 y) ?_;intro z _;refine rrs ?_;refine cle (h4 y) ?_;intro u _;refine rrs ?_;refine dr [0,1,2,3,4,5,6,7,8,9,10,11] [4,8] [0] ?_;refine rr ?_;exact en ⟨none,0,none,0,none,0,none,0⟩ trivial
    ·skip
     refine w_use (fun w hw=>(hw.pick 1 rfl).row_some (by first | omega | decide | (simp;done) | (simp <;> omega))) ?_;rintro ⟨g1,rfl⟩;refine cl (h2 ⟨g1,0,none⟩ ⟨fun _=>⟨0,rfl,rfl⟩,hcap⟩) ?_;intro y hy;refine rrs ?_;refine dx [0,1,2,3,4,6,7,8,5,9,10,11,12,13,14,15,16,17] [] [] ?_;refine rr ?_;refine cle (h3 y) ?_;intro z _;refine rrs ?_;refine cle (h4 y) ?_;intro u _;refine rrs ?_;refine dr [0,1,2,3,4,5,6,7,8,9,10,11] [4,8] [0] ?_;refine rr ?_;exact en ⟨none,0,none,0,none,0,none,0⟩ trivial
   ·rw [if_neg hB];have hB2:sP.e=0:=by simpa using hB
    have hC2:¬ (sP.code.length:Int)>4096:=fun h=>hA ⟨hB2,by omega⟩
    rcases l with _ | ⟨t,l⟩
    ·skip
     refine cl (h2 ⟨0,0,none⟩ (OkX.none rfl)) ?_;intro y hy;refine rrs ?_;refine dx [0,1,2,3,4,6,7,8,5,9,10,11,12,13,14,15,16,17] [] [] ?_;refine rr ?_;refine cle (h3 y) ?_;intro z _;refine rrs ?_;refine cle (h4 y) ?_;intro u _;refine rrs ?_;exact en ⟨z.1,z.2,u.1,u.2,y.ea,y.ec,y.ia,y.ic⟩ trivial
    ·skip
     refine w_use (fun w hw=>(hw.pick 1 rfl).row_some (by first | omega | decide | (simp;done) | (simp <;> omega))) ?_;rintro ⟨g1,rfl⟩;refine cl (h2 ⟨g1,0,none⟩ ⟨fun _=>⟨0,rfl,rfl⟩,hcap⟩) ?_;intro y hy;refine rrs ?_;refine dx [0,1,2,3,4,6,7,8,5,9,10,11,12,13,14,15,16,17] [] [] ?_;refine rr ?_;refine cle (h3 y) ?_;intro z _;refine rrs ?_;refine cle (h4 y) ?_;intro u _;refine rrs ?_;exact en ⟨z.1,z.2,u.1,u.2,y.ea,y.ec,y.ia,y.ic⟩ trivial
end
end Go.Proofs.YtkolmklfgbimoaaGreatDoor.Cm
namespace Go.Proofs.YtkolmklfgbimoaaGreatDoor
open Go Go.Sx Go.Sx.Chunk
section
set_option maxRecDepth 512
def txt (s:ByteArray):List UInt8:=s.data.toList
theorem txt_len (s:ByteArray):(txt s).length=s.size:=by simp [txt]
theorem txt_at (s:ByteArray) (i:Nat) (b:UInt8) (h:(txt s)[i]? = some b):s[i]? = some b:=by
 have hi:=(List.getElem?_eq_some_iff.1 h).1;rw [txt_len] at hi;have:s[i]? = some (s[i]'hi):=by simp [hi]
 rw [this]
 have h2:(txt s)[i]? = some (s[i]'hi):=by
  unfold txt;rw [List.getElem?_eq_getElem (by simpa using hi)];simp [ByteArray.getElem_eq_getElem_data]
 rw [← h2,h]
theorem txt_some {s:ByteArray} {i:Nat} (h:i<s.size):∃ b,(txt s)[i]? = some b:=⟨(txt s)[i]'(by rw [txt_len];exact h),by simp [txt_len,h]⟩
def lowB (c:UInt8):Bool:=decide (97≤c.toNat) && decide (c.toNat≤122)
def digB (c:UInt8):Bool:=decide (48≤c.toNat) && decide (c.toNat≤57)
def wordB (c:UInt8):Bool:=lowB c || digB c
def firstB:List UInt8→Bool
 | []=>false
 | c::_=>lowB c
def nameF (s:ByteArray):Bool:=decide (1≤s.size) && (decide (s.size≤16) && (firstB (txt s) && (txt s).all wordB))
def badR (r:Int):Bool:=(decide (r<97) || decide (122<r)) && (decide (r<48) || decide (57<r))
theorem badR_word (c:UInt8):badR (c.toNat:Int) = !wordB c:=by
 unfold badR wordB lowB digB;rw [Bool.eq_iff_iff];simp;omega
theorem badR_high {r:Nat} (h:128≤r):badR (r:Int)=true:=by unfold badR;simp;omega
theorem wordB_high {c:UInt8} (h:128≤c.toNat):wordB c=false:=by unfold wordB lowB digB;simp;omega
theorem all_bad {α:Type} {p:α→Bool} {l:List α} {i:Nat} {a:α} (h:l[i]? = some a) (hp:p a=false):l.all p=false:=by
 rw [List.all_eq_false];exact ⟨a,List.mem_of_getElem? h,by simp [hp]⟩
theorem all_take {α:Type} {p:α→Bool} {l:List α} {i:Nat} {a:α} (h:l[i]? = some a) (hp:p a=true) (ht:(l.take i).all p=true):(l.take (i+1)).all p=true:=by
 rw [List.take_add_one,h,List.all_append,ht];simp [hp]
theorem badC (r:Int):FnC (α:=Unit) Tryz.prog 131 [.int .i32 r] [] [] (fun _=>.bool (badR r)) (fun _=>[]) (fun _=>True):=by
 refine fn_intro Tryz.func131 Tryz.ntmps131 rfl rfl rfl (fun w0=>?_);try simp only [Sx.ap1,Sx.ap2,Sx.ap3]
 by_cases h1:r<97
 ·by_cases h2:r<48
  all_goals
   refine rr ?_;refine we () [] trivial (hv:=?_);simp [packR,badR,h1,h2]
 ·by_cases h2:122<r
  ·by_cases h3:r<48
   all_goals
    refine rr ?_;refine we () [] trivial (hv:=?_);simp [packR,badR,h1,h2,h3]
  ·skip
   refine rr ?_;refine we () [] trivial (hv:=?_);simp [packR,badR,h1,h2]
theorem indexFC (s:ByteArray) (hs:s.size≤maxLen):FnC Tryz.prog 183 [.string s,.func (.func 131) #[] #[],.bool true] [] [] (fun v:Int=>.int .i64 v) (fun _=>[]) (fun v=>decide (v<0)=(txt s).all wordB):=by
 have hs':s.size≤9223372036854775807:=Nat.le_trans hs (by decide);refine fn_intro Tryz.func183 Tryz.ntmps183 rfl rfl rfl (fun w0=>?_);refine rrs ?_;intro b _;refine rr ?_;refine w_loop (α:=Nat) (fun k=>[(1,.func (.func 131) #[] #[]),(2,.bool true),(10,.pointer (some ⟨b,0,none⟩))]) (fun k=>[itC b s k]) (fun k=>((txt s).take k).all wordB=true) (fun k=>s.size-k) 0 ⟨rfl,rfl,rfl,trivial⟩ rfl (by simp) ?_;intro k hk K1 hK1;by_cases hlt:k<s.size
 ·obtain ⟨c,hc⟩:=txt_some hlt;have hc2:=txt_at s k c hc
  have hcg:s[k]'hlt=c:=by
   have:s[k]? = some (s[k]'hlt):=by simp [hlt]
   rw [this] at hc2;exact Option.some.inj hc2
  refine rr ?_;refine cav [] (badC ((Utf8.decode s k).1:Int)) ?_;intro x hx;try simp only [Sx.ap1,Sx.ap2,Sx.ap3]
  by_cases h8:128≤c.toNat
  ·have hd:=decode_high s k hlt (by rw [hcg];exact h8);rw [badR_high hd.1];refine rr ?_;refine we (k:Int) [] (hx:=?_);rw [all_bad hc (wordB_high h8)];simp
  ·have hd:=decode_ascii s k hlt (by rw [hcg];omega);rw [hcg] at hd;rw [hd];dsimp only;rw [badR_word];cases hw:wordB c
   ·skip
    refine rr ?_;refine we (k:Int) [] (hx:=?_);rw [all_bad hc hw];simp
   ·skip
    refine rr ?_;exact w_round hK1 (k+1) (all_take hc hw hk) (by show s.size-(k+1)<s.size-k;omega) rfl ⟨rfl,rfl,rfl,trivial⟩
 ·skip
  refine rr ?_;refine we (-1) [] (hx:=?_);rw [List.take_of_length_le (by rw [txt_len];omega)] at hk;rw [hk];rfl
end
section
set_option maxRecDepth 512
theorem indexFuncC (s:ByteArray) (hs:s.size≤maxLen):FnC Tryz.prog 130 [.string s,.func (.func 131) #[] #[]] [] [] (fun v:Int=>.int .i64 v) (fun _=>[]) (fun v=>decide (v<0)=(txt s).all wordB):=by
 refine fn_intro Tryz.func130 Tryz.ntmps130 rfl rfl rfl (fun w0=>?_);refine rrs ?_;refine ca [] (indexFC s hs) ?_;intro x hx;refine rrs ?_;exact we x [] hx
theorem rightNameC (s:ByteArray) (hs:s.size≤maxLen):FnC (α:=Unit) Tryz.prog 74 [.string s] [] [] (fun _=>.bool (nameF s)) (fun _=>[]) (fun _=>True):=by
 refine fn_intro Tryz.func74 Tryz.ntmps74 rfl rfl rfl (fun w0=>?_);try simp only [Sx.ap1,Sx.ap2,Sx.ap3]
 unfold nameF;by_cases h1:1≤s.size
 ·by_cases h2:s.size≤16
  ·obtain ⟨c,hc⟩:=txt_some (s:=s) (i:=0) (by omega);have hc2:=txt_at s 0 c hc;have hc3:s[(0:Int).toNat]? = some c:=hc2
   have hf:firstB (txt s)=lowB c:=by
    cases ht:txt s with
    | nil=>rw [ht] at hc;simp at hc
    | cons a l=>rw [ht] at hc;simp at hc;subst hc;rfl
   rw [hf,decide_eq_true h1,decide_eq_true h2];unfold lowB;by_cases h3:97≤c.toNat
   ·by_cases h4:c.toNat≤122
    ·rw [decide_eq_true h3,decide_eq_true h4];refine rr ?_;refine ca [] (indexFuncC s hs) ?_;intro x hx;try simp only [Sx.ap1,Sx.ap2,Sx.ap3]
     rw [← hx];refine rr ?_;refine we () [] trivial (hv:=?_);simp [packR]
    ·rw [decide_eq_false h4];refine rr ?_;refine we () [] trivial (hv:=?_);simp [packR,h3,h4];try omega
   ·rw [decide_eq_false h3];refine rr ?_;refine we () [] trivial (hv:=?_);simp [packR,h3];try omega
  ·skip
   refine rr ?_;refine we () [] trivial (hv:=?_);simp [packR,h1,h2];try omega
 ·skip
  refine rr ?_;refine we () [] trivial (hv:=?_);simp [packR,h1];try omega
end
section
set_option maxRecDepth 512
def inL (v:ByteArray) (l:List ByteArray):Bool:=l.any fun s=>decide (s=v)
def bMap (l:List ByteArray):List (ByteArray×Value):=l.map fun s=>(s,.bool true)
theorem atK_bMap (v:ByteArray):∀ l,atK (bMap l) v=if inL v l then some (.bool true) else none
 | []=>rfl
 | a::l=>by
  have ih:=atK_bMap v l;simp only [bMap,List.map_cons,atK] at ih ⊢;by_cases h:a=v
  ·subst h;simp [inL]
  ·have h':¬ v=a:=fun e=>h e.symm
   simp only [inL,List.any_cons,h,decide_false,Bool.false_or] at ih ⊢
   first | (rw [if_neg h];exact ih) | (rw [if_neg h'];exact ih)
theorem putK_bMap (v:ByteArray):∀ l,inL v l=false→putK (bMap l) v (.bool true)=bMap (l++[v])
 | [],_=>rfl
 | a::l,h=>by
  simp only [inL,List.any_cons,Bool.or_eq_false_iff,decide_eq_false_iff_not] at h;have ih:=putK_bMap v l h.2;have h':¬ v=a:=fun e=>h.1 e.symm
  simp only [bMap,List.map_cons,List.cons_append,putK] at ih ⊢
  first | rw [if_neg h.1,ih] | rw [if_neg h',ih]
def mapO (m:Option Nat) (l:List ByteArray):Chunk:=match m with
 | none=>genL []
 | some g=>mapC Value.string g (bMap l)
def setH (b:Nat) (m:Option Nat) (oa:Option Addr) (oc:Nat) (l:List ByteArray):List Chunk:=[blk b [.map m,.slice oa l.length oc] 161,row oa oc 9 1 l.length (strC l),mapO m l]
def setOk (m:Option Nat) (l:List ByteArray):Prop:=m=none→l=[]
theorem setW {b:Nat} {m:Option Nat} {oa:Option Addr} {oc:Nat} {l:List ByteArray}:allW (setH b m oa oc l)=true:=by cases m <;> rfl
theorem setHasC (b:Nat) (m:Option Nat) (oa:Option Addr) (oc:Nat) (l:List ByteArray) (v:ByteArray) (hm:setOk m l) :
  FnC (α:=Unit) Tryz.prog 134 [.pointer (some ⟨b,0,none⟩),.string v] (setH b m oa oc l) [] (fun _=>.bool (inL v l)) (fun _=>setH b m oa oc l) (fun _=>True):=by
 refine fn_intro Tryz.func134 Tryz.ntmps134 rfl rfl rfl (fun w0=>?_);try simp only [Sx.ap1,Sx.ap2,Sx.ap3]
 unfold setH;cases m with
 | none=>
  obtain rfl:=hm rfl;refine rr ?_;exact we () [0,0,0] trivial
 | some g=>
  simp only [mapO];refine rr ?_;rw [atK_bMap];refine we () [0,0,0] trivial (hv:=?_);cases h:inL v l <;> rfl
theorem setAddC (b:Nat) (m:Option Nat) (oa:Option Addr) (oc:Nat) (l:List ByteArray) (v:ByteArray) (hm:setOk m l) (hl:l.length≤8796093021952) :
  FnC Tryz.prog 81 [.pointer (some ⟨b,0,none⟩),.string v] (setH b m oa oc l) [] (fun _:Option Nat×Option Addr×Nat=>.bool (!inL v l)) (fun x=>setH b x.1 x.2.1 x.2.2 (if inL v l then l else l++[v])) (fun x=>setOk x.1 (if inL v l then l else l++[v])):=by
 refine fn_intro Tryz.func81 Tryz.ntmps81 rfl rfl rfl (fun w0=>?_);refine rrs ?_;refine ca [0,0,0] (setHasC b m oa oc l v hm) (ho:=fun _=>setW) ?_;intro x hx;try simp only [Sx.ap1,Sx.ap2,Sx.ap3]
 cases h:inL v l with
 | true=>
  refine rr ?_;exact we (m,oa,oc) [0,0,0] (by rw [if_pos rfl];exact hm)
 | false=>
  unfold setH;cases m with
  | none=>
   obtain rfl:=hm rfl;refine rr ?_;intro g _;show Wd _ _ (mapC Value.string g []::_) _
   refine rr ?_;intro b1 _;refine rr ?_;rintro ⟨a1,c1⟩ ⟨hc1,_⟩;refine rr ?_;exact we (some g,a1,c1) [0,0,0] (fun h=>by cases h)
  | some g=>
   simp only [mapO];refine rr ?_;intro b1 _;refine rr ?_;rintro ⟨a1,c1⟩ ⟨hc1,_⟩;refine rr ?_;have hlen:l.length+1=(l++[v]).length:=by simp
   have hstr:strC l++[Value.string v]=strC (l++[v]):=by simp [strC]
   rw [putK_bMap v l h,hlen,hstr];exact we (some g,a1,c1) [0,0,0] (fun h=>by cases h)
end
section
set_option maxRecDepth 512
structure Ob where
 mk ::
 (name:ByteArray) (ca:Option Addr) (cc:Nat) (code:List In) (data:Int) (ea:Option Addr) (ec:Nat) (exps:List Sy) (ia:Option Addr) (ic:Nat) (imps:List ByteArray) (pa:Option Addr) (pc:Nat) (pats:List Pa)
def obV (o:Ob):List Value:=[.string o.name,.slice o.ca o.code.length o.cc,.int .i64 o.data,.slice o.ea o.exps.length o.ec,.slice o.ia o.imps.length o.ic,.slice o.pa o.pats.length o.pc]
def obG (o:Ob):Value:=.agg #[.string o.name,.slice o.ca o.code.length o.cc,.int .i64 o.data,.slice o.ea o.exps.length o.ec,.slice o.ia o.imps.length o.ic,.slice o.pa o.pats.length o.pc]
def obS (o:Ob):List Chunk:=[rng o.ca (insC o.code),rng o.ea (syC o.exps),rng o.ia (strC o.imps),rng o.pa (paC o.pats)]
structure OkOb (o:Ob):Prop where
 name:o.name.size≤maxLen
 code:o.code.length≤3518437208780
 exps:o.exps.length≤5864062014634
 imps:o.imps.length≤8796093021952
 pats:o.pats.length≤5864062014634
 ens:∀ x∈o.exps,x.name.size≤maxLen
 ins:∀ x∈o.imps,x.size≤maxLen
theorem any_step {α:Type} {p:α→Bool} {l:List α} {k:Nat} {a:α} (h:l[k]? = some a) (hp:p a=false) (ht:(l.take k).any p=false):(l.take (k+1)).any p=false:=by
 rw [List.take_add_one,h,List.any_append,ht];simp [hp]
theorem any_hit {α:Type} {p:α→Bool} {l:List α} {k:Nat} {a:α} (h:l[k]? = some a) (hp:p a=true):l.any p=true:=by
 rw [List.any_eq_true];exact ⟨a,List.mem_of_getElem? h,hp⟩
theorem wrongIC (i:In):FnC (α:=Unit) Tryz.prog 76 [inG i] [] [] (fun _=>.bool (!goodI i)) (fun _=>[]) (fun _=>True):=by
 unfold inG;refine fn_intro Tryz.func76 Tryz.ntmps76 rfl rfl rfl (fun w0=>?_);refine rrs ?_;intro b _;refine rr ?_;refine ca [] (rightIC i) ?_;intro x hx;refine rrs ?_;exact we () [] trivial
theorem indexIC (a:Option Addr) (c:Nat) (l:List In) (hl:l.length≤8796093021952) :
  FnC Tryz.prog 132 [.slice a l.length c,.func (.func 76) #[] #[]] [] [rng a (insC l)] (fun v:Int=>.int .i64 v) (fun _=>[]) (fun v=>decide (0≤v)=l.any (fun i => !goodI i)):=by
 refine fn_intro Tryz.func132 Tryz.ntmps132 rfl rfl rfl (fun w0=>?_);refine rrs ?_;refine w_loop (α:=Nat) (fun k=>[(0,.slice a l.length c),(1,.func (.func 76) #[] #[]),(7,.int .i64 (l.length:Int)),(8,.int .i64 (k:Int))]) (fun k=>[rng a (insC l)]) (fun k=>k≤l.length∧(l.take k).any (fun i => !goodI i)=false) (fun k=>l.length-k) 0 ⟨rfl,rfl,rfl,rfl,trivial⟩ rfl ⟨Nat.zero_le _,by simp⟩ ?_;rintro k ⟨hk,hany⟩ K1 hK1;by_cases hlt:k<l.length
 ·obtain ⟨e,he⟩:=some_at hlt;have hall:((insC l).drop ((k:Int).toNat*5)).take 5=[.int .i64 e.op,.int .i64 e.a,.int .i64 e.b,.int .i64 e.c,.int .i64 e.imm]:=insC_all he _ (by omega);have hlen:=insC_len l;refine w_use (fun w hw=>(hw.pick 0 rfl).rng_some (by first | omega | decide | (simp;done) | (simp <;> omega))) ?_;rintro ⟨g1,rfl⟩;refine rr ?_;refine cav [] (wrongIC e) ?_;intro x hx;try simp only [Sx.ap1,Sx.ap2,Sx.ap3]
  cases hg:goodI e with
  | true=>
   refine rr ?_;exact w_round hK1 (k+1) ⟨by omega,any_step he (by rw [hg];rfl) hany⟩ (by show l.length-(k+1)<l.length-k;omega) rfl ⟨rfl,rfl,rfl,rfl,trivial⟩
  | false=>
   refine rr ?_;refine we (k:Int) [] (hx:=?_);rw [any_hit he (by rw [hg];rfl)];simp
 ·obtain rfl:k=l.length:=by omega
  rw [List.take_length] at hany;refine rr ?_;refine we (-1) [] (hx:=?_);rw [hany];rfl
theorem containsIC (a:Option Addr) (c:Nat) (l:List In) (hl:l.length≤8796093021952) :
  FnC (α:=Unit) Tryz.prog 75 [.slice a l.length c,.func (.func 76) #[] #[]] [] [rng a (insC l)] (fun _=>.bool (l.any (fun i => !goodI i))) (fun _=>[]) (fun _=>True):=by
 refine fn_intro Tryz.func75 Tryz.ntmps75 rfl rfl rfl (fun w0=>?_);refine rrs ?_;refine ca [] (indexIC a c l hl) ?_;intro x hx;refine rrs ?_;refine we () [] trivial (hv:=?_);rw [← hx];rfl
end
section
set_option maxRecDepth 512
def goodP (nC nI:Nat) (p:Pa):Bool:=(if p.kind=2 then decide (0≤p.n) && decide (p.n<(nI:Int)) else decide (p.n=0)) && (decide (0≤p.pl) && (decide (p.pl<(nC:Int)) && (decide (0≤p.kind) && decide (p.kind<5))))
theorem rightPC (o:Ob) (p:Pa):FnC (α:=Unit) Tryz.prog 80 [obG o,paG p] [] [] (fun _=>.bool (goodP o.code.length o.imps.length p)) (fun _=>[]) (fun _=>True):=by
 unfold obG paG goodP;generalize hnC:o.code.length=nC;generalize hnI:o.imps.length=nI;refine fn_intro Tryz.func80 Tryz.ntmps80 rfl rfl rfl (fun w0=>?_);refine rrs ?_;intro b _;refine rr ?_;intro b1 _;by_cases hk:p.kind=2
 ·rw [if_pos hk];by_cases h1:0≤p.n
  ·by_cases h2:p.n<(nI:Int)
   ·by_cases h3:0≤p.pl
    ·by_cases h4:p.pl<(nC:Int)
     ·skip
      refine rr ?_;refine we () [] trivial (hv:=?_);simp [packR,hk,h1,h2,h3,h4]
     ·skip
      refine rr ?_;refine we () [] trivial (hv:=?_);simp [packR,hk,h1,h2,h3,h4];try omega
    ·skip
     refine rr ?_;refine we () [] trivial (hv:=?_);simp [packR,hk,h1,h2,h3];try omega
   ·skip
    refine rr ?_;refine we () [] trivial (hv:=?_);simp [packR,hk,h1,h2];try omega
  ·skip
   refine rr ?_;refine we () [] trivial (hv:=?_);simp [packR,hk,h1];try omega
 ·rw [if_neg hk];by_cases h1:p.n=0
  ·by_cases h3:0≤p.pl
   ·by_cases h4:p.pl<(nC:Int)
    ·by_cases h5:0≤p.kind
     all_goals
      refine rr ?_;refine we () [] trivial (hv:=?_);simp [packR,h1,h3,h4,h5];try omega
    ·skip
     refine rr ?_;refine we () [] trivial (hv:=?_);simp [packR,h1,h3,h4];try omega
   ·skip
    refine rr ?_;refine we () [] trivial (hv:=?_);simp [packR,h1,h3];try omega
  ·skip
   refine rr ?_;refine we () [] trivial (hv:=?_);simp [packR,h1]
theorem wrongPC (o:Ob) (b0:Nat) (p:Pa):FnC (α:=Unit) Tryz.prog 79 [paG p,.pointer (some ⟨b0,0,none⟩)] [] [rng (some ⟨b0,0,none⟩) (obV o)] (fun _=>.bool (!goodP o.code.length o.imps.length p)) (fun _=>[]) (fun _=>True):=by
 unfold paG;refine fn_intro Tryz.func79 Tryz.ntmps79 rfl rfl rfl (fun w0=>?_);try simp only [Sx.ap1,Sx.ap2,Sx.ap3]
 unfold obV;refine rr ?_;intro b _;refine rr ?_;refine ca [] (rightPC o p) ?_;intro x hx;refine rrs ?_;exact we () [] trivial
theorem indexPC (o:Ob) (b0:Nat) (a:Option Addr) (c:Nat) (l:List Pa) (hl:l.length≤8796093021952) :
  FnC Tryz.prog 133 [.slice a l.length c,.func (.func 79) #[] #[.pointer (some ⟨b0,0,none⟩)]] [] [rng a (paC l),rng (some ⟨b0,0,none⟩) (obV o)] (fun v:Int=>.int .i64 v) (fun _=>[]) (fun v=>decide (0≤v)=l.any (fun p => !goodP o.code.length o.imps.length p)):=by
 refine fn_intro Tryz.func133 Tryz.ntmps133 rfl rfl rfl (fun w0=>?_);refine rrs ?_;refine w_loop (α:=Nat) (fun k=>[(0,.slice a l.length c),(1,.func (.func 79) #[] #[.pointer (some ⟨b0,0,none⟩)]),(7,.int .i64 (l.length:Int)),(8,.int .i64 (k:Int))]) (fun k=>[rng a (paC l),rng (some ⟨b0,0,none⟩) (obV o)]) (fun k=>k≤l.length∧(l.take k).any (fun p => !goodP o.code.length o.imps.length p)=false) (fun k=>l.length-k) 0 ⟨rfl,rfl,rfl,rfl,trivial⟩ rfl ⟨Nat.zero_le _,by simp⟩ ?_;rintro k ⟨hk,hany⟩ K1 hK1;by_cases hlt:k<l.length
 ·obtain ⟨e,he⟩:=some_at hlt;have hall:((paC l).drop ((k:Int).toNat*3)).take 3=[.int .i64 e.pl,.int .i64 e.kind,.int .i64 e.n]:=paC_all he _ (by omega);have hlen:=paC_len l;refine w_use (fun w hw=>(hw.pick 0 rfl).rng_some (by first | omega | decide | (simp;done) | (simp <;> omega))) ?_;rintro ⟨g1,rfl⟩;refine rr ?_;refine cav [] (wrongPC o b0 e) ?_;intro x hx;try simp only [Sx.ap1,Sx.ap2,Sx.ap3]
  cases hg:goodP o.code.length o.imps.length e with
  | true=>
   refine rr ?_;exact w_round hK1 (k+1) ⟨by omega,any_step he (by rw [hg];rfl) hany⟩ (by show l.length-(k+1)<l.length-k;omega) rfl ⟨rfl,rfl,rfl,rfl,trivial⟩
  | false=>
   refine rr ?_;refine we (k:Int) [] (hx:=?_);rw [any_hit he (by rw [hg];rfl)];simp
 ·obtain rfl:k=l.length:=by omega
  rw [List.take_length] at hany;refine rr ?_;refine we (-1) [] (hx:=?_);rw [hany];rfl
theorem containsPC (o:Ob) (b0:Nat) (a:Option Addr) (c:Nat) (l:List Pa) (hl:l.length≤8796093021952) :
  FnC (α:=Unit) Tryz.prog 78 [.slice a l.length c,.func (.func 79) #[] #[.pointer (some ⟨b0,0,none⟩)]] [] [rng a (paC l),rng (some ⟨b0,0,none⟩) (obV o)] (fun _=>.bool (l.any (fun p => !goodP o.code.length o.imps.length p))) (fun _=>[]) (fun _=>True):=by
 refine fn_intro Tryz.func78 Tryz.ntmps78 rfl rfl rfl (fun w0=>?_);refine rrs ?_;refine ca [] (indexPC o b0 a c l hl) ?_;intro x hx;refine rrs ?_;refine we () [] trivial (hv:=?_);rw [← hx];rfl
def chkL:List ByteArray→List ByteArray→Bool
 | _,[]=>true
 | acc,a::l=>nameF a && (!inL a acc && chkL (acc++[a]) l)
def aloneF (l:List ByteArray):Bool:=chkL [] l && decide (l.length≤255)
theorem chkL_step (acc:List ByteArray) {l:List ByteArray} {a:ByteArray}:∀ {k:Nat},l[k]? = some a→chkL acc (l.drop k)=(nameF a && (!inL a acc && chkL (acc++[a]) (l.drop (k+1)))):=fun {k} h=>by
 obtain ⟨hi,hb⟩:=List.getElem?_eq_some_iff.1 h;rw [List.drop_eq_getElem_cons hi,hb];rfl
theorem take_snoc {α:Type} {l:List α} {k:Nat} {a:α} (h:l[k]? = some a):l.take (k+1)=l.take k++[a]:=by rw [List.take_add_one,h];rfl
theorem aloneC (a:Option Addr) (c:Nat) (l:List ByteArray) (hl:l.length≤8796093021952) (hs:∀ s∈l,s.size≤maxLen) :
  FnC (α:=Unit) Tryz.prog 77 [.slice a l.length c] [] [rng a (strC l)] (fun _=>.bool (aloneF l)) (fun _=>[]) (fun _=>True):=by
 refine fn_intro Tryz.func77 Tryz.ntmps77 rfl rfl rfl (fun w0=>?_);refine rrs ?_;intro b _;refine rr ?_;refine w_turn (fun w hw=>((hw.row_nil 9 1).gen0).sub [2,1,0,0] (A:=setH b none none 0 []++[rng a (strC l)]) rfl) ?_;refine rr ?_;refine w_loop (α:=Nat×Option Nat×Option Addr×Nat) (fun x=>[(0,.slice a l.length c),(3,.pointer (some ⟨b,0,none⟩)),(6,.slice a l.length c),(7,.int .i64 (l.length:Int)),(8,.int .i64 (x.1:Int))]) (fun x=>setH b x.2.1 x.2.2.1 x.2.2.2 (l.take x.1)++[rng a (strC l)]) (fun x=>x.1≤l.length∧setOk x.2.1 (l.take x.1)∧chkL [] l=chkL (l.take x.1) (l.drop x.1)) (fun x=>l.length-x.1) (0,none,none,0) ⟨rfl,rfl,rfl,rfl,rfl,trivial⟩ rfl ⟨Nat.zero_le _,fun _=>rfl,rfl⟩ ?_;rintro ⟨k,m,oa,oc⟩ ⟨hk,hm,hchk⟩ K1 hK1;dsimp only at hk hm hchk ⊢;by_cases hlt:k<l.length
 ·obtain ⟨s,he⟩:=some_at hlt;have hc:(strC l)[(k:Int).toNat*1]? = some (.string s):=by rw [show (k:Int).toNat*1=k by omega];exact strC_at he
  have hlen:=strC_len l;have hstep:=chkL_step (l.take k) he;have hsz:=hs s (List.mem_of_getElem? he);refine w_use (fun w hw=>(hw.pick 3 rfl).rng_some (by first | omega | decide | (simp;done) | (simp <;> omega))) ?_;rintro ⟨g1,rfl⟩;refine rr ?_;refine ca [] (rightNameC s hsz) ?_;intro x hx;try simp only [Sx.ap1,Sx.ap2,Sx.ap3]
  cases hn:nameF s with
  | false=>
   have hf:aloneF l=false:=by unfold aloneF;rw [hchk,hstep,hn];rfl
   rw [hf];refine rr ?_;exact we () [] trivial
  | true=>
   refine rr ?_;refine ca [0,0,0] (setAddC b m oa oc (l.take k) s hm (by simp;omega)) (ho:=fun _=>setW) ?_;intro x hx;cases hin:inL s (l.take k) with
   | true=>
    have hf:aloneF l=false:=by unfold aloneF;rw [hchk,hstep,hn,hin];rfl
    rw [hf];refine rr ?_;exact we () [] trivial
   | false=>
    rw [hin] at hx;simp only [if_false,Bool.false_eq_true] at hx ⊢;rw [← take_snoc he] at hx ⊢;refine rr ?_;exact w_round hK1 (k+1,x.1,x.2.1,x.2.2) ⟨by show k+1≤l.length;omega,hx,by rw [hchk,hstep,hn,hin,take_snoc he];rfl⟩ (by show l.length-(k+1)<l.length-k;omega) rfl ⟨rfl,rfl,rfl,rfl,rfl,trivial⟩
 ·obtain rfl:k=l.length:=by omega
  rw [List.drop_length] at hchk;refine rr ?_;refine we () [] trivial (hv:=?_);unfold aloneF;rw [hchk];simp [packR,chkL];try omega
end
section
set_option maxRecDepth 512
def goodE (n:Nat) (x:Sy):Bool:=decide (0≤x.pl) && decide (x.pl≤(n:Int))
def goodO (o:Ob):Bool:=o.exps.all (goodE o.code.length) && (nameF o.name && (decide (o.code.length≤4096) && (!o.code.any (fun i => !goodI i) && (decide (0≤o.data) && (decide (o.data≤32000) && (aloneF (o.exps.map Sy.name) && (aloneF o.imps && (decide (o.pats.length≤4096) && !o.pats.any (fun p => !goodP o.code.length o.imps.length p)))))))))
theorem rightOC (o:Ob) (hok:OkOb o):FnC (α:=Unit) Tryz.prog 34 [obG o] [] (obS o) (fun _=>.bool (goodO o)) (fun _=>[]) (fun _=>True):=by
 have hcl:=hok.code;have hel:=hok.exps;have hil:=hok.imps;have hpl:=hok.pats;obtain ⟨name,ka,cc,code,data,ea,ec,exps,ia,ic,imps,pa,pc,pats⟩:=o;have hns:name.size≤maxLen:=hok.name;have hens:=hok.ens;have hins:=hok.ins;generalize hO:goodO ⟨name,ka,cc,code,data,ea,ec,exps,ia,ic,imps,pa,pc,pats⟩=G;unfold goodO at hO;unfold obG obS;dsimp only at hO hcl hel hil hpl hens hins ⊢;refine fn_intro Tryz.func34 Tryz.ntmps34 rfl rfl rfl (fun w0=>?_);refine rrs ?_;intro b _;refine w_turn (fun w hw=>hw.row_nil 9 1) ?_;refine rr ?_
 refine w_loop (α:=Nat×Option Addr×Nat) (fun x=>[(1,.pointer (some ⟨b,0,none⟩)),(3,.slice x.2.1 x.1 x.2.2),(7,.slice ea exps.length ec),(8,.int .i64 (exps.length:Int)),(9,.int .i64 (x.1:Int))])
  (fun x=>[row x.2.1 x.2.2 9 1 x.1 (strC ((exps.take x.1).map Sy.name)),blk b [.string name,.slice ka code.length cc,.int .i64 data,.slice ea exps.length ec,.slice ia imps.length ic,.slice pa pats.length pc] 36,rng ka (insC code),rng ea (syC exps),rng ia (strC imps),rng pa (paC pats)])
  (fun x=>x.1≤exps.length∧(exps.take x.1).all (goodE code.length)=true) (fun x=>exps.length-x.1) (0,none,0) ⟨rfl,rfl,rfl,rfl,rfl,trivial⟩ rfl ⟨Nat.zero_le _,rfl⟩ ?_
 rintro ⟨k,ra,rc⟩ ⟨hk,hall⟩ K1 hK1;dsimp only at hk hall ⊢;by_cases hlt:k<exps.length
 ·obtain ⟨e,he⟩:=some_at hlt;have h3:((syC exps).drop ((k:Int).toNat*2)).take 2=[.string e.name,.int .i64 e.pl]:=syC_all he _ (by omega);have hsl:=syC_len exps;have hst:strC ((exps.take k).map Sy.name)++[Value.string e.name]=strC ((exps.take (k+1)).map Sy.name):=by rw [take_snoc he];simp [strC]
  refine w_use (fun w hw=>(hw.pick 3 rfl).rng_some (by first | omega | decide | (simp;done) | (simp <;> omega))) ?_;rintro ⟨g1,rfl⟩;by_cases h0:0≤e.pl
  ·by_cases h1:e.pl≤(code.length:Int)
   ·have hg:goodE code.length e=true:=by simp [goodE,h0,h1]
    refine rr ?_;intro b1 _;refine rr ?_;intro b2 _;refine rr ?_;rintro ⟨a1,c1⟩ ⟨hc1,_⟩;refine rr ?_;rw [hst];refine w_sub [0,1,1,1,1,1] rfl ?_;exact w_round hK1 (k+1,a1,c1) ⟨by show k+1≤exps.length;omega,all_take he hg hall⟩ (by show exps.length-(k+1)<exps.length-k;omega) rfl ⟨rfl,rfl,rfl,rfl,rfl,trivial⟩
   ·have hg:goodE code.length e=false:=by simp [goodE,h1]
    have hf:G=false:=by rw [← hO,all_bad he hg];rfl
    rw [hf];refine rr ?_;intro b1 _;refine rr ?_;exact we () [] trivial
  ·have hg:goodE code.length e=false:=by simp [goodE,h0]
   have hf:G=false:=by rw [← hO,all_bad he hg];rfl
   rw [hf];refine rr ?_;intro b1 _;refine rr ?_;exact we () [] trivial
 ·obtain rfl:k=exps.length:=by omega
  rw [List.take_length] at hall ⊢;rw [hall] at hO;refine rr ?_;refine ca [] (rightNameC name hns) ?_;intro x hx;try simp only [Sx.ap1,Sx.ap2,Sx.ap3]
  generalize nameF name=r1 at hO ⊢;cases r1
  ·subst hO;refine rr ?_;exact we () [] trivial
  by_cases h1:code.length≤4096
  ·rw [decide_eq_true h1] at hO;refine rr ?_;refine ca [] (containsIC ka cc code (by omega)) ?_;intro x hx;try simp only [Sx.ap1,Sx.ap2,Sx.ap3]
   generalize (code.any fun i => !goodI i)=r2 at hO ⊢;cases r2
   ·by_cases h2:0≤data
    ·by_cases h3:data≤32000
     ·rw [decide_eq_true h2,decide_eq_true h3] at hO;have hel2:(exps.map Sy.name).length=exps.length:=by simp
      have hA:=aloneC ra rc (exps.map Sy.name) (by simp;omega) (fun s hs=>by obtain ⟨x,hx,rfl⟩:=List.mem_map.1 hs;exact hens x hx);rw [hel2] at hA;refine rr ?_;refine ca [] hA ?_;intro x hx;try simp only [Sx.ap1,Sx.ap2,Sx.ap3]
      generalize aloneF (exps.map Sy.name)=r3 at hO ⊢;cases r3
      ·subst hO;refine rr ?_;exact we () [] trivial
      refine rr ?_;refine ca [] (aloneC ia ic imps hil hins) ?_;intro x hx;try simp only [Sx.ap1,Sx.ap2,Sx.ap3]
      generalize aloneF imps=r4 at hO ⊢;cases r4
      ·subst hO;refine rr ?_;exact we () [] trivial
      by_cases h4:pats.length≤4096
      ·rw [decide_eq_true h4] at hO;refine rr ?_;refine ca [] (containsPC ⟨name,ka,cc,code,data,ea,ec,exps,ia,ic,imps,pa,pc,pats⟩ b pa pc pats (by omega)) ?_;intro x hx;try simp only [Sx.ap1,Sx.ap2,Sx.ap3]
       subst hO;refine rr ?_;exact we () [] trivial
      ·rw [decide_eq_false h4] at hO;subst hO;refine rr ?_;exact we () [] trivial
     ·rw [decide_eq_false h3] at hO;simp at hO;subst hO;refine rr ?_;exact we () [] trivial
    ·rw [decide_eq_false h2] at hO;subst hO;refine rr ?_;exact we () [] trivial
   ·subst hO;refine rr ?_;exact we () [] trivial
  ·rw [decide_eq_false h1] at hO;subst hO;refine rr ?_;exact we () [] trivial
end
section
set_option maxRecDepth 512
theorem goodO_parts (o:Ob):goodO o=true↔(o.exps.all (goodE o.code.length)=true∧nameF o.name=true∧o.code.length≤4096∧o.code.any (fun i => !goodI i)=false∧0≤o.data∧o.data≤32000∧(chkL [] (o.exps.map Sy.name)=true∧o.exps.length≤255)∧(chkL [] o.imps=true∧o.imps.length≤255)∧o.pats.length≤4096∧o.pats.any (fun p => !goodP o.code.length o.imps.length p)=false):=by
 unfold goodO aloneF;simp only [Bool.and_eq_true,decide_eq_true_eq,Bool.not_eq_true',List.length_map]
theorem goodP_parts (nC nI:Nat) (p:Pa):goodP nC nI p=false↔(p.pl<0∨(nC:Int)≤p.pl∨p.kind<0∨4<p.kind∨p.n<0∨(if p.kind=2 then (nI:Int)-1 else 0)<p.n):=by
 unfold goodP;by_cases h:p.kind=2
 ·simp [h];omega
 ·simp [h];omega
end
section
set_option maxRecDepth 512
def obC (l:List Ob):List Value:=l.flatMap obV
theorem obC_len (l:List Ob):(obC l).length=l.length*6:=flat_len (cells:=obV) (sz:=6) (fun _=>rfl) l
theorem obC_all {l:List Ob} {k:Nat} {o:Ob} (h:l[k]? = some o) (n:Nat) (hn:n=k*6):((obC l).drop n).take 6=obV o:=by subst hn;exact flat_get (cells:=obV) (sz:=6) (fun _=>rfl) h
def seeO (l:List Ob):Chunk:=seeL (l.flatMap obS)
theorem obS_mem {l:List Ob} {o:Ob} {c:Chunk} (ho:o∈l) (hc:c∈obS o):c∈l.flatMap obS:=List.mem_flatMap.2 ⟨o,ho,hc⟩
theorem seeO_prov {l:List Ob} {o:Ob} {c:Chunk} (ho:o∈l) (hc:c∈obS o):Prov [seeO l] c:=see_mem (obS_mem ho hc)
theorem lend_ob {R:List Chunk} {k:Nat} {l:List Ob} {o:Ob} (hp:nthC R k=some (seeO l)) (ho:o∈l):LendsAll R (obS o):=by
 have h:=fun c (hc:c∈obS o)=>(seeO_prov ho hc).one (prov_mem (nthC_mem hp))
 exact ⟨⟨rfl,(h _ (by simp [obS])).1,(h _ (by simp [obS])).2⟩,⟨rfl,(h _ (by simp [obS])).1,(h _ (by simp [obS])).2⟩,⟨rfl,(h _ (by simp [obS])).1,(h _ (by simp [obS])).2⟩,⟨rfl,(h _ (by simp [obS])).1,(h _ (by simp [obS])).2⟩,trivial⟩
theorem wrongOC (o:Ob) (hok:OkOb o):FnC (α:=Unit) Tryz.prog 33 [obG o] [] (obS o) (fun _=>.bool (!goodO o)) (fun _=>[]) (fun _=>True):=by
 unfold obG obS;refine fn_intro Tryz.func33 Tryz.ntmps33 rfl rfl rfl (fun w0=>?_);refine rrs ?_;intro b _;refine rr ?_;refine ca [] (rightOC o hok) ?_;intro x hx;refine rrs ?_;exact we () [] trivial
theorem indexOC (a:Option Addr) (c:Nat) (l:List Ob) (hl:l.length≤100000) (hok:∀ o∈l,OkOb o) :
  FnC Tryz.prog 73 [.slice a l.length c,.func (.func 33) #[] #[]] [] [rng a (obC l),seeO l] (fun v:Int=>.int .i64 v) (fun _=>[]) (fun v=>decide (0≤v)=l.any (fun o => !goodO o)):=by
 refine fn_intro Tryz.func73 Tryz.ntmps73 rfl rfl rfl (fun w0=>?_);refine rrs ?_;refine w_loop (α:=Nat) (fun k=>[(0,.slice a l.length c),(1,.func (.func 33) #[] #[]),(7,.int .i64 (l.length:Int)),(8,.int .i64 (k:Int))]) (fun k=>[rng a (obC l),seeO l]) (fun k=>k≤l.length∧(l.take k).any (fun o => !goodO o)=false) (fun k=>l.length-k) 0 ⟨rfl,rfl,rfl,rfl,trivial⟩ rfl ⟨Nat.zero_le _,by simp⟩ ?_;rintro k ⟨hk,hany⟩ K1 hK1;by_cases hlt:k<l.length
 ·obtain ⟨e,he⟩:=some_at hlt;have hmem:=List.mem_of_getElem? he;have hall:((obC l).drop ((k:Int).toNat*6)).take 6=[.string e.name,.slice e.ca e.code.length e.cc,.int .i64 e.data,.slice e.ea e.exps.length e.ec,.slice e.ia e.imps.length e.ic,.slice e.pa e.pats.length e.pc]:=obC_all he _ (by omega);have hlen:=obC_len l;refine w_use (fun w hw=>(hw.pick 0 rfl).rng_some (by first | omega | decide | (simp;done) | (simp <;> omega))) ?_;rintro ⟨g1,rfl⟩;refine rr ?_;refine cav [] (wrongOC e (hok e hmem)) (hl:=lend_ob (k:=1) rfl hmem) ?_;intro x hx;try simp only [Sx.ap1,Sx.ap2,Sx.ap3]
  cases hg:goodO e with
  | true=>
   refine rr ?_;exact w_round hK1 (k+1) ⟨by omega,any_step he (by rw [hg];rfl) hany⟩ (by show l.length-(k+1)<l.length-k;omega) rfl ⟨rfl,rfl,rfl,rfl,trivial⟩
  | false=>
   refine rr ?_;refine we (k:Int) [] (hx:=?_);rw [any_hit he (by rw [hg];rfl)];simp
 ·obtain rfl:k=l.length:=by omega
  rw [List.take_length] at hany;refine rr ?_;refine we (-1) [] (hx:=?_);rw [hany];rfl
theorem containsOC (a:Option Addr) (c:Nat) (l:List Ob) (hl:l.length≤100000) (hok:∀ o∈l,OkOb o) :
  FnC (α:=Unit) Tryz.prog 32 [.slice a l.length c,.func (.func 33) #[] #[]] [] [rng a (obC l),seeO l] (fun _=>.bool (l.any (fun o => !goodO o))) (fun _=>[]) (fun _=>True):=by
 refine fn_intro Tryz.func32 Tryz.ntmps32 rfl rfl rfl (fun w0=>?_);refine rrs ?_;refine ca [] (indexOC a c l hl hok) ?_;intro x hx;refine rrs ?_;refine we () [] trivial (hv:=?_);rw [← hx];rfl
end
section
set_option maxRecDepth 512
theorem look_ob {w0 w:World} {M:Nat→Prop} {H:List Chunk} (hw:St w0 M w H) {k:Nat} {l:List Ob} {o:Ob} {c:Chunk} (hp:nthC H k=some (seeO l)) (ho:o∈l) (hc:c∈obS o) (hwr:c.wr=false):St w0 M w (c::H):=
 hw.look hwr ((seeO_prov ho hc).one (prov_mem (List.mem_filter.2 ⟨nthC_mem hp,rfl⟩)))
abbrev Sym:=ByteArray×Int
def mMap (l:List Sym):List (ByteArray×Value):=l.map fun s=>(s.1,.int .i64 s.2)
def symF (v:ByteArray):List Sym→Option Int
 | []=>none
 | a::l=>if a.1=v then some a.2 else symF v l
theorem atK_mMap (v:ByteArray):∀ l,atK (mMap l) v=(symF v l).map (Value.int .i64)
 | []=>rfl
 | a::l=>by
  have ih:=atK_mMap v l;simp only [mMap,List.map_cons,atK,symF] at ih ⊢;by_cases h:a.1=v
  ·subst h;simp
  ·have h':¬ v=a.1:=fun e=>h e.symm
   rw [if_neg h]
   first | (rw [if_neg h];exact ih) | (rw [if_neg h'];exact ih)
theorem putK_mMap (v:ByteArray) (n:Int):∀ l,symF v l=none→putK (mMap l) v (.int .i64 n)=mMap (l++[(v,n)])
 | [],_=>rfl
 | a::l,h=>by
  simp only [symF] at h;by_cases ha:a.1=v
  ·rw [if_pos ha] at h;cases h
  ·rw [if_neg ha] at h;have ih:=putK_mMap v n l h;have h':¬ v=a.1:=fun e=>ha e.symm
   simp only [mMap,List.map_cons,List.cons_append,putK] at ih ⊢
   first | rw [if_neg ha,ih] | rw [if_neg h',ih]
def expsF (at_:Int):List Sym→List Sy→Option (List Sym)
 | s,[]=>some s
 | s,x::l=>match symF x.name s with
  | some _=>none
  | none=>expsF at_ (s++[(x.name,at_+x.pl)]) l
def namesF:List ByteArray→List Sym→Int→List Ob→Option (List Sym)
 | _,s,_,[]=>some s
 | seen,s,at_,o::l=>if inL o.name seen then none else match expsF at_ s o.exps with
  | none=>none
  | some s'=>namesF (seen++[o.name]) s' (at_+o.code.length) l
def atF (l:List Ob) (k:Nat):Nat:=((l.take k).map fun o=>o.code.length).sum
theorem atF_step {l:List Ob} {k:Nat} {o:Ob} (h:l[k]? = some o):atF l (k+1)=atF l k+o.code.length:=by
 unfold atF;rw [take_snoc h];simp
theorem atF_le {l:List Ob} (h:∀ o∈l,o.code.length≤4096):∀ k,atF l k≤4096*k:=by
 intro k
 induction k with
 | zero=>simp [atF]
 | succ k ih=>
  cases hk:l[k]? with
  | none=>
   have:l.length≤k:=by simpa using hk
   unfold atF at ih ⊢;rw [List.take_of_length_le (by omega)] at ih ⊢;exact Nat.le_trans ih (Nat.mul_le_mul_left _ (Nat.le_succ k))
  | some o=>
   rw [atF_step hk];have:=h o (List.mem_of_getElem? hk);rw [Nat.mul_succ];exact Nat.add_le_add ih this
theorem namesF_step {seen:List ByteArray} {s:List Sym} {at_:Int} {l:List Ob} {k:Nat} {o:Ob} (h:l[k]? = some o):namesF seen s at_ (l.drop k)=if inL o.name seen then none else match expsF at_ s o.exps with
  | none=>none
  | some s'=>namesF (seen++[o.name]) s' (at_+o.code.length) (l.drop (k+1)):=by
 obtain ⟨hi,hb⟩:=List.getElem?_eq_some_iff.1 h;rw [List.drop_eq_getElem_cons hi,hb];rfl
theorem expsF_step {s:List Sym} {at_:Int} {l:List Sy} {k:Nat} {x:Sy} (h:l[k]? = some x):expsF at_ s (l.drop k)=match symF x.name s with
  | some _=>none
  | none=>expsF at_ (s++[(x.name,at_+x.pl)]) (l.drop (k+1)):=by
 obtain ⟨hi,hb⟩:=List.getElem?_eq_some_iff.1 h;rw [List.drop_eq_getElem_cons hi,hb];rfl
def joC (j:Nat) (ca:Option Addr) (cn cc:Nat) (data:Int) (ba:Option Addr) (bn bc g:Nat) (mem:Int):Chunk:=blk j [.slice ca cn cc,.int .i64 data,.slice ba bn bc,.map (some g),.int .i64 mem] 90
def syM (g:Nat) (s:List Sym):Chunk:=mapC Value.string g (mMap s)
theorem namesC (j g:Nat) (mem:Int) (a:Option Addr) (c:Nat) (l:List Ob) (hl:l.length≤1000) (hok:∀ o∈l,OkOb o) (hgo:∀ o∈l,o.code.length≤4096∧∀ x∈o.exps,0≤x.pl∧x.pl≤4096) :
  FnC Tryz.prog 35 [.pointer (some ⟨j,0,none⟩),.slice a l.length c] [joC j none 0 0 0 none 0 0 g mem,syM g []] [rng a (obC l),seeO l] (fun s:List Sym=>.bool (namesF [] [] 0 l).isSome) (fun s=>[joC j none 0 0 0 none 0 0 g mem,syM g s]) (fun s=>∀ s0,namesF [] [] 0 l=some s0→s=s0):=by
 refine fn_intro Tryz.func35 Tryz.ntmps35 rfl rfl rfl (fun w0=>?_);try simp only [Sx.ap1,Sx.ap2,Sx.ap3]
 unfold joC syM;refine rr ?_;intro b _;refine rr ?_;refine w_turn (fun w hw=>((hw.row_nil 9 1).gen0).sub [2,1,0,0,0,0,0] (A:=setH b none none 0 []++[blk j [.slice none 0 0,.int .i64 0,.slice none 0 0,.map (some g),.int .i64 mem] 90,mapC Value.string g (mMap []),rng a (obC l),seeO l]) rfl) ?_
 refine w_loop (α:=Nat×List Sym×Option Nat×Option Addr×Nat) (fun x=>[(0,.pointer (some ⟨j,0,none⟩)),(5,.pointer (some ⟨b,0,none⟩)),(6,.int .i64 (atF l x.1:Int)),(13,.slice a l.length c),(14,.int .i64 (l.length:Int)),(15,.int .i64 (x.1:Int))])
  (fun x=>setH b x.2.2.1 x.2.2.2.1 x.2.2.2.2 ((l.take x.1).map Ob.name)++[blk j [.slice none 0 0,.int .i64 0,.slice none 0 0,.map (some g),.int .i64 mem] 90,mapC Value.string g (mMap x.2.1),rng a (obC l),seeO l])
  (fun x=>x.1≤l.length∧setOk x.2.2.1 ((l.take x.1).map Ob.name)∧namesF [] [] 0 l=namesF ((l.take x.1).map Ob.name) x.2.1 (atF l x.1:Int) (l.drop x.1)) (fun x=>l.length-x.1) (0,[],none,none,0) ⟨rfl,rfl,rfl,rfl,rfl,rfl,trivial⟩ rfl ⟨Nat.zero_le _,fun _=>rfl,rfl⟩ ?_
 rintro ⟨k,syms,m,oa,oc⟩ ⟨hk,hm,hspec⟩ K1 hK1;dsimp only at hk hm hspec ⊢;by_cases hlt:k<l.length
 ·obtain ⟨o,he⟩:=some_at hlt;have hmem:=List.mem_of_getElem? he;have hall:((obC l).drop ((k:Int).toNat*6)).take 6=[.string o.name,.slice o.ca o.code.length o.cc,.int .i64 o.data,.slice o.ea o.exps.length o.ec,.slice o.ia o.imps.length o.ic,.slice o.pa o.pats.length o.pc]:=obC_all he _ (by omega);have hlen:=obC_len l;rw [namesF_step he] at hspec;refine w_use (fun w hw=>(hw.pick 5 rfl).rng_some (by first | omega | decide | (simp;done) | (simp <;> omega))) ?_;rintro ⟨g1,rfl⟩;refine rr ?_;intro b8 _;refine rr ?_;refine ca [1,1,1] (setAddC b m oa oc ((l.take k).map Ob.name) o.name hm (by simp;omega)) (ho:=fun _=>setW) ?_;intro x hx;cases hin:inL o.name ((l.take k).map Ob.name) with
  | true=>
   rw [hin] at hspec;rw [if_pos rfl] at hspec;simp only [if_true];rw [hspec];refine rr ?_;exact we syms [4,4] (fun s0 h=>by cases h)
  | false=>
   rw [hin] at hspec hx;simp only [if_false,Bool.false_eq_true] at hx hspec ⊢;have hnm:(l.take k).map Ob.name++[o.name]=(l.take (k+1)).map Ob.name:=by rw [take_snoc he];simp
   rw [hnm] at hx hspec ⊢;have hgo1:=hgo o hmem;have hat:=atF_le (fun o ho=>(hgo o ho).1) k;refine rr ?_
   refine w_loop (α:=Nat×List Sym) (fun y=>[(0,.pointer (some ⟨j,0,none⟩)),(5,.pointer (some ⟨b,0,none⟩)),(6,.int .i64 (atF l k:Int)),(8,.pointer (some ⟨b8,0,none⟩)),(13,.slice (some g1) l.length c),(14,.int .i64 (l.length:Int)),(15,.int .i64 (k:Int)),(24,.slice o.ea o.exps.length o.ec),(25,.int .i64 (o.exps.length:Int)),(26,.int .i64 (y.1:Int))])
    (fun y=>setH b x.1 x.2.1 x.2.2 ((l.take (k+1)).map Ob.name)++[blk b8 [.string o.name,.slice o.ca o.code.length o.cc,.int .i64 o.data,.slice o.ea o.exps.length o.ec,.slice o.ia o.imps.length o.ic,.slice o.pa o.pats.length o.pc] 36,blk j [.slice none 0 0,.int .i64 0,.slice none 0 0,.map (some g),.int .i64 mem] 90,mapC Value.string g (mMap y.2),rng (some g1) (obC l),seeO l])
    (fun y=>y.1≤o.exps.length∧expsF (atF l k:Int) syms o.exps=expsF (atF l k:Int) y.2 (o.exps.drop y.1)) (fun y=>o.exps.length-y.1) (0,syms) ⟨rfl,rfl,rfl,rfl,rfl,rfl,rfl,rfl,rfl,rfl,trivial⟩ rfl ⟨Nat.zero_le _,rfl⟩ ?_
   rintro ⟨i,sy⟩ ⟨hi,hexp⟩ K2 hK2;dsimp only at hi hexp ⊢;by_cases hil:i<o.exps.length
   ·obtain ⟨e,hee⟩:=some_at hil;have hpl:=hgo1.2 e (List.mem_of_getElem? hee);have hall2:((syC o.exps).drop ((i:Int).toNat*2)).take 2=[.string e.name,.int .i64 e.pl]:=syC_all hee _ (by omega);have hsl:=syC_len o.exps;have hoe:=hok o hmem;have hel:=hoe.exps;rw [expsF_step hee] at hexp;refine w_turn (fun w hw=>look_ob hw (c:=rng o.ea (syC o.exps)) (k:=7) rfl hmem (by simp [obS]) rfl) ?_;generalize hea:o.ea=ea;refine w_use (fun w hw=>(hw.pick 0 rfl).rng_some (by first | omega | decide | (simp;done) | (simp <;> omega))) ?_;rintro ⟨g2,rfl⟩;refine rr ?_;intro b9 _;cases hs:symF e.name sy with
    | some v0=>
     have hx1:expsF (atF l k:Int) syms o.exps=none:=hexp.trans (by rw [hs]);have hs1:namesF [] [] 0 l=none:=by rw [hspec,hx1]
     rw [hs1];have hat2:=atK_mMap e.name sy;rw [hs] at hat2;simp only [Option.map_some] at hat2;refine rr ?_;refine dr [0,1,2,3,4,5,6,7,8,9,10,11] [3,5] [6,0] ?_;refine rr ?_;rw [hat2];refine rr ?_;exact we sy [6,6] (fun s0 h=>by cases h)
    | none=>
     have hx1:expsF (atF l k:Int) syms o.exps=expsF (atF l k:Int) (sy++[(e.name,(atF l k:Int)+e.pl)]) (o.exps.drop (i+1)):=hexp.trans (by rw [hs]);have hat2:=atK_mMap e.name sy;rw [hs] at hat2;simp only [Option.map_none] at hat2;have hput:=putK_mMap e.name ((atF l k:Int)+e.pl) sy hs;refine rr ?_;refine dr [0,1,2,3,4,5,6,7,8,9,10,11] [3,5] [6,0] ?_;refine rr ?_;rw [hat2];refine rr ?_;refine dr [0,1,2,3,4,5,6,7,8,9,10] [3,5,8] [6,0,0] ?_;refine rr ?_;rw [hput];refine w_sub [3,3,3,3,3,0,2,2] rfl ?_;rw [← hea];exact w_round hK2 (i+1,sy++[(e.name,(atF l k:Int)+e.pl)]) ⟨by show i+1≤o.exps.length;omega,hx1⟩ (by show o.exps.length-(i+1)<o.exps.length-i;omega) rfl ⟨rfl,rfl,rfl,rfl,rfl,rfl,rfl,rfl,rfl,rfl,trivial⟩
   ·obtain rfl:i=o.exps.length:=by omega
    rw [List.drop_length] at hexp;have hx1:expsF (atF l k:Int) syms o.exps=some sy:=hexp;rw [hx1] at hspec;have hspec2:namesF [] [] 0 l=namesF ((l.take (k+1)).map Ob.name) sy ((atF l k:Int)+o.code.length) (l.drop (k+1)):=hspec;have hst:=atF_step he;have hat1:((atF l k:Int)+(o.code.length:Int))=(atF l (k+1):Int):=by rw [hst];omega
    rw [hat1] at hspec2;refine rr ?_;refine w_sub [0,0,0,1,1,1,1] rfl ?_;rw [hat1];exact w_round hK1 (k+1,sy,x.1,x.2.1,x.2.2) ⟨by show k+1≤l.length;omega,hx,hspec2⟩ (by show l.length-(k+1)<l.length-k;omega) rfl ⟨rfl,rfl,rfl,rfl,rfl,rfl,trivial⟩
 ·obtain rfl:k=l.length:=by omega
  rw [List.drop_length] at hspec;rw [hspec];refine rr ?_;exact we syms [3,3] (fun s0 h=>by simp [namesF] at h;exact h)
end
section
set_option maxRecDepth 512
def codeF (l:List Ob):List In:=l.flatMap Ob.code
def dataF (l:List Ob):Int:=(l.map Ob.data).sum
theorem codeF_len (l:List Ob):(codeF l).length=(l.map fun o=>o.code.length).sum:=by simp [codeF,List.length_flatMap]
theorem codeF_take (l:List Ob) (k:Nat):(codeF (l.take k)).length=atF l k:=codeF_len _
theorem codeF_step {l:List Ob} {k:Nat} {o:Ob} (h:l[k]? = some o):codeF (l.take (k+1))=codeF (l.take k)++o.code:=by rw [take_snoc h];simp [codeF]
theorem dataF_step {l:List Ob} {k:Nat} {o:Ob} (h:l[k]? = some o):dataF (l.take (k+1))=dataF (l.take k)+o.data:=by rw [take_snoc h];simp [dataF]
theorem dataF_le {l:List Ob} (h:∀ o∈l,0≤o.data∧o.data≤32000):0≤dataF l∧dataF l≤32000*(l.length:Int):=by
 induction l with
 | nil=>simp [dataF]
 | cons o l ih=>
  have h1:=h o (by simp);have h2:=ih (fun x hx=>h x (by simp [hx]));simp only [dataF,List.map_cons,List.sum_cons,List.length_cons] at h2 ⊢;omega
abbrev Ba:=Nat×Int
def baV (b:Ba):List Value:=[.int .i64 (b.1:Int),.int .i64 b.2]
def baC (l:List Ba):List Value:=l.flatMap baV
theorem baC_len (l:List Ba):(baC l).length=l.length*2:=flat_len (cells:=baV) (sz:=2) (fun _=>rfl) l
def baseK (l:List Ob) (k:Nat):List Ba:=(List.range k).map fun i=>(atF l i,dataF (l.take i))
theorem baseK_step (l:List Ob) (k:Nat):baseK l (k+1)=baseK l k++[(atF l k,dataF (l.take k))]:=by simp [baseK,List.range_succ]
theorem insC_app (a b:List In):insC (a++b)=insC a++insC b:=by simp [insC]
theorem baC_app (a:List Ba) (b:Ba):baC (a++[b])=baC a++baV b:=by simp [baC]
theorem insC_one (l:List In):∀ u∈insC l,u.oneCell'=true:=by
 intro u hu;obtain ⟨i,_,hi⟩:=List.mem_flatMap.1 hu;simp only [inV,List.mem_cons,List.not_mem_nil,or_false] at hi;rcases hi with rfl | rfl | rfl | rfl | rfl <;> rfl
def joH (j:Nat) (x:Option Addr×Nat×Option Addr×Nat) (l:List Ob) (k:Nat) (g:Nat) (mem:Int):List Chunk:=
 [joC j x.1 (atF l k) x.2.1 (dataF (l.take k)) x.2.2.1 k x.2.2.2 g mem,row x.1 x.2.1 105 5 (atF l k) (insC (codeF (l.take k))),row x.2.2.1 x.2.2.2 97 2 k (baC (baseK l k))]
theorem joinC (j g:Nat) (mem:Int) (a:Option Addr) (c:Nat) (l:List Ob) (hl:l.length≤1000) (hgo:∀ o∈l,o.code.length≤4096) (hda:∀ o∈l,0≤o.data∧o.data≤32000) :
  FnC Tryz.prog 36 [.pointer (some ⟨j,0,none⟩),.slice a l.length c] [joC j none 0 0 0 none 0 0 g mem] [rng a (obC l),seeO l] (fun x:Option Addr×Nat×Option Addr×Nat=>.tuple #[]) (fun x=>joH j x l l.length g mem) (fun _=>True):=by
 refine fn_intro Tryz.func36 Tryz.ntmps36 rfl rfl rfl (fun w0=>?_);try simp only [Sx.ap1,Sx.ap2,Sx.ap3]
 refine w_turn (fun w hw=>((hw.row_nil 97 2).row_nil 105 5).sub [2,0,0,0,0] (A:=joH j (none,0,none,0) l 0 g mem++[rng a (obC l),seeO l]) rfl) ?_;refine rr ?_
 refine w_loop (α:=Nat×Option Addr×Nat×Option Addr×Nat) (fun x=>[(0,.pointer (some ⟨j,0,none⟩)),(6,.slice a l.length c),(7,.int .i64 (l.length:Int)),(8,.int .i64 (x.1:Int))])
  (fun x=>joH j x.2 l x.1 g mem++[rng a (obC l),seeO l]) (fun x=>x.1≤l.length) (fun x=>l.length-x.1) (0,none,0,none,0) ⟨rfl,rfl,rfl,rfl,trivial⟩ rfl (Nat.zero_le _) ?_
 rintro ⟨k,ra,rc,pa,pc⟩ hk K1 hK1;dsimp only at hk ⊢;by_cases hlt:k<l.length
 ·obtain ⟨o,he⟩:=some_at hlt;have hmem:=List.mem_of_getElem? he;have hall:((obC l).drop ((k:Int).toNat*6)).take 6=[.string o.name,.slice o.ca o.code.length o.cc,.int .i64 o.data,.slice o.ea o.exps.length o.ec,.slice o.ia o.imps.length o.ic,.slice o.pa o.pats.length o.pc]:=obC_all he _ (by omega);have hlen:=obC_len l;have hgo1:=hgo o hmem;have hda1:=hda o hmem;have hat:=atF_le hgo k;have hat1:=atF_step he;have hdt:0≤dataF (l.take k)∧dataF (l.take k)≤32000*((l.take k).length:Int):=dataF_le (fun x hx=>hda x (List.mem_of_mem_take hx));have hdl:(l.take k).length≤1000:=by simp;omega
  have hdata1:=dataF_step he;have hil:=insC_len o.code;have hio:=insC_one o.code;unfold joH joC;simp only [List.cons_append,List.nil_append];refine w_use (fun w hw=>(hw.pick 3 rfl).rng_some (by first | omega | decide | (simp;done) | (simp <;> omega))) ?_;rintro ⟨g1,rfl⟩;refine rr ?_;intro b5 _;refine rr ?_;refine dr [0,1,2,3,4,5,6,7,8,9,10,11,12,13,14,15,16,17,18,19,20,21] [4,9,15] [1,1,1] ?_;refine rr ?_;intro b6 _;refine rr ?_;rintro ⟨a1,c1⟩ ⟨hc1,_⟩;refine rr ?_;have hb:baC (baseK l k)++[Value.int IntKind.i64 (atF l k:Int),Value.int IntKind.i64 (dataF (l.take k))]=baC (baseK l (k+1)):=by rw [baseK_step,baC_app];rfl
  rw [hb];refine w_turn (fun w hw=>look_ob hw (c:=rng o.ca (insC o.code)) (k:=5) rfl hmem (by simp [obS]) rfl) ?_;refine dr [0,1,2,3,4,5,6,7,8,9,10,11,12] [5,7] [1,3] ?_;refine rr ?_;rintro ⟨a2,c2⟩ hc2;refine rr ?_;refine dr [0,1,2,3,4,5,6,7,8,9,10,11] [4,6] [0,4] ?_;refine rr ?_;rw [← insC_app,← codeF_step he,← hat1,← hdata1];refine w_sub [0,0,1,2,2] rfl ?_;exact w_round hK1 (k+1,a2,c2,a1,c1) (by show k+1≤l.length;omega) (by show l.length-(k+1)<l.length-k;omega) rfl ⟨rfl,rfl,rfl,rfl,trivial⟩
 ·obtain rfl:k=l.length:=by omega
  refine rr ?_;exact we (ra,rc,pa,pc) [0,0,0] trivial
end
end Go.Proofs.YtkolmklfgbimoaaGreatDoor
